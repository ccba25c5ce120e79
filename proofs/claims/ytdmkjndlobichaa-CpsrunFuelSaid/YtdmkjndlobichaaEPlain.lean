/-
  PLAIN LAWS: integers of 31 bits, their sums, products, quotients. No program in sight.
-/
import Derived.Test.YtdmkjndlobichaaHPlain
namespace Go.Proofs.Ytdmkjndlobichaa
open Go.RowKit

/-- The 31-bit integer of a number. -/
def w31 (n : Int) : Int := (n + 1073741824) % 2147483648 - 1073741824

theorem w31_in (n : Int) : -1073741824 ≤ w31 n ∧ w31 n ≤ 1073741823 := by unfold w31; omega
theorem w31_id (n : Int) (h : -1073741824 ≤ n ∧ n ≤ 1073741823) : w31 n = n := by unfold w31; omega
theorem w31_w31 (n : Int) : w31 (w31 n) = w31 n := w31_id _ (w31_in n)
theorem w31_wrap (n : Int) : w31 (wrap64 n) = w31 n := by unfold w31 wrap64; omega
theorem w31_congr {x y : Int} (h : (x - y) % 2147483648 = 0) : w31 x = w31 y := by unfold w31; omega
theorem w31_diff (x : Int) : (w31 x - x) % 2147483648 = 0 := by unfold w31; omega
theorem dvd_diff (x : Int) : (2147483648 : Int) ∣ w31 x - x := Int.dvd_of_emod_eq_zero (w31_diff x)
theorem w31_dvd {x y : Int} (h : (2147483648 : Int) ∣ x - y) : w31 x = w31 y := w31_congr (Int.emod_eq_zero_of_dvd h)
theorem w31_add (x y : Int) : w31 (w31 x + w31 y) = w31 (x + y) := by unfold w31; omega
theorem w31_sub (x y : Int) : w31 (w31 x - w31 y) = w31 (x - y) := by unfold w31; omega
theorem w31_mul (x y : Int) : w31 (w31 x * w31 y) = w31 (x * y) := by
  apply w31_dvd
  have e : w31 x * w31 y - x * y = (w31 x - x) * w31 y + x * (w31 y - y) := by
    rw [Int.sub_mul, Int.mul_sub]; omega
  rw [e]
  exact Int.dvd_add (Int.dvd_mul_of_dvd_left (dvd_diff x)) (Int.dvd_mul_of_dvd_right (dvd_diff y))
theorem w31_add_l (x y : Int) : w31 (w31 x + y) = w31 (x + y) := by rw [← w31_add, w31_w31, w31_add]
theorem w31_add_r (x y : Int) : w31 (x + w31 y) = w31 (x + y) := by rw [← w31_add, w31_w31, w31_add]
theorem w31_mul_l (x y : Int) : w31 (w31 x * y) = w31 (x * y) := by rw [← w31_mul, w31_w31, w31_mul]
theorem w31_mul_r (x y : Int) : w31 (x * w31 y) = w31 (x * y) := by rw [← w31_mul, w31_w31, w31_mul]
theorem w31_sub_l (x y : Int) : w31 (w31 x - y) = w31 (x - y) := by rw [← w31_sub, w31_w31, w31_sub]
theorem w31_sub_r (x y : Int) : w31 (x - w31 y) = w31 (x - y) := by rw [← w31_sub, w31_w31, w31_sub]

theorem tmod_in (a b : Int) (ha : -1073741824 ≤ a ∧ a ≤ 1073741823) : -1073741824 ≤ a.tmod b ∧ a.tmod b ≤ 1073741823 := by
  have h := Int.natAbs_tmod a b
  have h2 : a.natAbs % b.natAbs ≤ a.natAbs := Nat.mod_le _ _
  by_cases hs : 0 ≤ a
  · have := Int.tmod_nonneg b hs
    omega
  · have : 0 ≤ (-a).tmod b := Int.tmod_nonneg b (by omega)
    rw [Int.neg_tmod] at this
    omega

/-- What the reference reckons for a rest. -/
theorem rem_eq (a b : Int) (ha : -1073741824 ≤ a ∧ a ≤ 1073741823) : w31 (a - w31 (a.tdiv b) * b) = a.tmod b := by
  rw [← w31_sub, w31_mul_l, w31_sub]
  have : a - a.tdiv b * b = a.tmod b := by
    have := Int.tmod_add_mul_tdiv a b
    rw [Int.mul_comm] at this
    omega
  rw [this]
  exact w31_id _ (tmod_in a b ha)

theorem wrap_eq (n : Int) : wrap64 (n * 8589934592) / 8589934592 = w31 n := by
  unfold w31 wrap64; omega

theorem rwrap_eq (n : Int) : n.tmod 2147483648 = if 0 ≤ n then n % 2147483648 else -((-n) % 2147483648) := by
  split
  · rw [Int.tmod_eq_emod_of_nonneg (by omega)]
  · have : n = -(-n) := by omega
    rw [this, Int.neg_tmod, Int.tmod_eq_emod_of_nonneg (by omega)]; simp

/-- Is a number an integer. -/
def in31 (n : Int) : Bool := decide (-1073741824 ≤ n ∧ n < 1073741824)
theorem in31_w31 (n : Int) : in31 (w31 n) = true := by have := w31_in n; simp [in31]; omega

/-- What an operation tells: the number. -/
def dov (op a b : Int) : Int :=
  if op = 1 then w31 (w31 a + w31 b) else if op = 2 then w31 (w31 a - w31 b) else if op = 3 then w31 (w31 a * w31 b)
  else if op = 4 then (if w31 b = 0 then 0 else w31 ((w31 a).tdiv (w31 b)))
  else if op = 5 then (if w31 b = 0 then 0 else (w31 a).tmod (w31 b))
  else if op = 6 then (if w31 a < w31 b then 1 else 0) else if op = 7 then (if w31 a = w31 b then 1 else 0) else 0
/-- Whether it tells one. -/
def dok (op b : Int) : Bool :=
  if op = 1 ∨ op = 2 ∨ op = 3 ∨ op = 6 ∨ op = 7 then true else if op = 4 ∨ op = 5 then !decide (w31 b = 0) else false

theorem dov1 (a b : Int) : dov 1 a b = w31 (a + b) := by simp [dov, w31_add]
theorem dov2 (a b : Int) : dov 2 a b = w31 (a - b) := by simp [dov, w31_sub]
theorem dov3 (a b : Int) : dov 3 a b = w31 (a * b) := by simp [dov, w31_mul]
theorem dok1 (b : Int) : dok 1 b = true := by simp [dok]
theorem dok2 (b : Int) : dok 2 b = true := by simp [dok]
theorem dok3 (b : Int) : dok 3 b = true := by simp [dok]
theorem dok45 (op b : Int) (h : op = 4 ∨ op = 5) : dok op b = !decide (w31 b = 0) := by rcases h with rfl | rfl <;> simp [dok]

theorem ret_ib {k : IntKind} {a b : Int} {p q : Bool} (h : a = b) (g : p = q) : Ending.returned (.tuple #[.int k a, .bool p]) = .returned (.tuple #[.int k b, .bool q]) := by rw [h, g]

end Go.Proofs.Ytdmkjndlobichaa
