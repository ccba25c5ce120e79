/-
  PLAIN LAWS: integers of 31 bits, values as trees, and what they are as words. No program in sight.
-/
import Derived.Test.YtgakmfcnddholaaHPlain
namespace Go.Proofs.Ytgakmfcnddholaa
open Go.RowKit

/-- The 31-bit integer of a number. -/
def w31 (n : Int) : Int := (n + 1073741824) % 2147483648 - 1073741824
theorem w31_in (n : Int) : -1073741824 ≤ w31 n ∧ w31 n ≤ 1073741823 := by unfold w31; omega
theorem w31_id (n : Int) (h : -1073741824 ≤ n ∧ n ≤ 1073741823) : w31 n = n := by unfold w31; omega
theorem wrap_eq (n : Int) : wrap64 (n * 8589934592) / 8589934592 = w31 n := by
  unfold w31 wrap64; omega
theorem rwrap_eq (n : Int) : n.tmod 2147483648 = if 0 ≤ n then n % 2147483648 else -((-n) % 2147483648) := by
  split
  · rw [Int.tmod_eq_emod_of_nonneg (by omega)]
  · have : n = -(-n) := by omega
    rw [this, Int.neg_tmod, Int.tmod_eq_emod_of_nonneg (by omega)]; simp
def in31 (n : Int) : Bool := decide (-1073741824 ≤ n ∧ n < 1073741824)
/-- An integer's word. -/
def intW (n : Int) : Int := (2 * w31 n + 1) % 4294967296

/-- A value: an integer or not, its number, its fields. -/
inductive Tr where
  | mk (b : Bool) (n : Int) (as : List Tr)

mutual
/-- May a value be written, so deep as it is? -/
def mayB : Tr → Nat → Bool
  | .mk b n as, d => decide (d ≤ 256) && (if b then in31 n && as.isEmpty else decide (0 ≤ n ∧ n < 32 ∧ as.length ≤ 8) && mayL as (d + 1))
def mayL : List Tr → Nat → Bool
  | [], _ => true
  | t :: ts, d => mayB t d && mayL ts d
end
mutual
/-- The words of a value's objects from place p on; its own word; the next place. -/
def putT : Tr → Nat → List Int × Int × Nat
  | .mk b n as, p => if b then ([], intW n, p) else
      ((putL as p).1 ++ ((512 * n + 2 * as.length + 1) :: (putL as p).2.1), 1024 + 4 * ((putL as p).2.2 : Int), (putL as p).2.2 + as.length + 1)
def putL : List Tr → Nat → List Int × List Int × Nat
  | [], p => ([], [], p)
  | t :: ts, p => ((putT t p).1 ++ (putL ts (putT t p).2.2).1, (putT t p).2.1 :: (putL ts (putT t p).2.2).2.1, (putL ts (putT t p).2.2).2.2)
end
theorem putT_int (n : Int) (as : List Tr) (p : Nat) : putT (.mk true n as) p = ([], intW n, p) := by rw [putT]; rfl
theorem putT_node (n : Int) (as : List Tr) (p : Nat) : putT (.mk false n as) p = ((putL as p).1 ++ ((512 * n + 2 * as.length + 1) :: (putL as p).2.1), 1024 + 4 * ((putL as p).2.2 : Int), (putL as p).2.2 + as.length + 1) := by rw [putT]; rfl
theorem putL_nil (p : Nat) : putL [] p = ([], [], p) := by rw [putL]
theorem putL_cons (t : Tr) (ts : List Tr) (p : Nat) : putL (t :: ts) p = ((putT t p).1 ++ (putL ts (putT t p).2.2).1, (putT t p).2.1 :: (putL ts (putT t p).2.2).2.1, (putL ts (putT t p).2.2).2.2) := by rw [putL]
theorem putL_length : ∀ (as : List Tr) (p : Nat), (putL as p).2.1.length = as.length
  | [], p => by rw [putL_nil]; rfl
  | t :: ts, p => by rw [putL_cons]; simp [putL_length ts]
mutual
theorem putT_len : ∀ (t : Tr) (p : Nat), (putT t p).2.2 = p + (putT t p).1.length
  | .mk b n as, p => by
    have := putL_len as p
    have := putL_length as p
    cases b with
    | true => rw [putT_int]; simp
    | false => rw [putT_node]; simp; omega
theorem putL_len : ∀ (as : List Tr) (p : Nat), (putL as p).2.2 = p + (putL as p).1.length
  | [], p => by rw [putL_nil]; simp
  | t :: ts, p => by
    have h1 := putT_len t p
    have h2 := putL_len ts (putT t p).2.2
    rw [putL_cons]
    simp only [List.length_append]
    omega
end
theorem mayB_int {n : Int} {as : List Tr} {d : Nat} : mayB (.mk true n as) d = (decide (d ≤ 256) && (in31 n && as.isEmpty)) := by rw [mayB]; simp
theorem mayB_node {n : Int} {as : List Tr} {d : Nat} : mayB (.mk false n as) d = (decide (d ≤ 256) && (decide (0 ≤ n ∧ n < 32 ∧ as.length ≤ 8) && mayL as (d + 1))) := by rw [mayB]; simp
theorem mayL_mem {as : List Tr} {d : Nat} (h : mayL as d = true) : ∀ t ∈ as, mayB t d = true := by
  induction as with
  | nil => intro t ht; cases ht
  | cons a as ih =>
    rw [mayL, Bool.and_eq_true] at h
    intro t ht
    rcases List.mem_cons.1 ht with rfl | ht
    · exact h.1
    · exact ih h.2 t ht
/-- The children of a tree, one by one. -/
theorem tr_lt {b : Bool} {n : Int} {as : List Tr} {t : Tr} (h : t ∈ as) : SizeOf.sizeOf t < SizeOf.sizeOf (Tr.mk b n as) := by
  have := List.sizeOf_lt_of_mem h
  simp; omega
end Go.Proofs.Ytgakmfcnddholaa
