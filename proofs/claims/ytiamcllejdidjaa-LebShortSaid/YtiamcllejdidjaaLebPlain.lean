/-
  PLAIN LAWS: numbers in groups of seven bits. No program in sight.
-/
import Derived.Test.YtiamcllejdidjaaPlain
namespace Go.Proofs.Ytiamcllejdidjaa
open Go.RowKit

/-- The bytes of a number without sign. -/
def putU (n : Nat) : List Int := if n < 128 then [(n : Int)] else ((n % 128 : Nat) + 128 : Int) :: putU (n / 128)
termination_by n
decreasing_by omega

/-- The bytes of a number with sign. -/
def putS (n : Int) : List Int := if n < -64 ∨ n > 63 then (n % 128 + 128) :: putS (n / 128) else [n % 128]
termination_by n.natAbs
decreasing_by omega

theorem putU_step (n : Nat) (h : 128 ≤ n) : putU n = ((n % 128 : Nat) + 128 : Int) :: putU (n / 128) := by rw [putU, if_neg (by omega)]
theorem putU_last (n : Nat) (h : n < 128) : putU n = [(n : Int)] := by rw [putU, if_pos h]
theorem putS_step (n : Int) (h : n < -64 ∨ n > 63) : putS n = (n % 128 + 128) :: putS (n / 128) := by rw [putS, if_pos h]
theorem putS_last (n : Int) (h : ¬ (n < -64 ∨ n > 63)) : putS n = [n % 128] := by rw [putS, if_neg h]

theorem putU_len (d : Nat) : ∀ n : Nat, n < 128 ^ (d + 1) → (putU n).length ≤ d + 1 := by
  induction d with
  | zero => intro n h; rw [putU_last n (by simpa using h)]; simp
  | succ d ih =>
    intro n h
    by_cases hl : n < 128
    · rw [putU_last n hl]; simp
    · rw [putU_step n (by omega)]
      have := ih (n / 128) (by rw [Nat.pow_succ] at h; exact Nat.div_lt_of_lt_mul (by omega))
      simpa using this
theorem putS_len (d : Nat) : ∀ n : Int, -(64 * 128 ^ d : Nat) ≤ n → n < (64 * 128 ^ d : Nat) → (putS n).length ≤ d + 1 := by
  induction d with
  | zero => intro n h1 h2; rw [putS_last n (by simp at h1 h2; omega)]; simp
  | succ d ih =>
    intro n h1 h2
    by_cases hl : n < -64 ∨ n > 63
    · rw [putS_step n hl]
      have := ih (n / 128) (by rw [Nat.pow_succ] at h1; omega) (by rw [Nat.pow_succ] at h2; omega)
      simpa using this
    · rw [putS_last n hl]; simp

theorem wf_u64 {a : Int} (h : (Lit.int .u64 a).wf = true) : 0 ≤ a ∧ a < 18446744073709551616 := by
  simp [Lit.wf, IntKind.min, IntKind.max, IntKind.signed, IntKind.bits] at h; omega
theorem wf_i64 {a : Int} (h : (Lit.int .i64 a).wf = true) : -9223372036854775808 ≤ a ∧ a ≤ 9223372036854775807 := by
  simp [Lit.wf, IntKind.min, IntKind.max, IntKind.signed, IntKind.bits] at h; omega
/-- The sizes of machine numbers, kept from the walk. -/
def Is64 (n : Nat) : Prop := n < 18446744073709551616
def IsI64 (n : Int) : Prop := -9223372036854775808 ≤ n ∧ n ≤ 9223372036854775807
theorem Is64.div {n : Nat} (h : Is64 n) : Is64 (n / 128) := by unfold Is64 at *; omega
theorem IsI64.div {n : Int} (h : IsI64 n) : IsI64 (n / 128) := by unfold IsI64 at *; omega
theorem putU_ten {n : Nat} (h : Is64 n) : (putU n).length ≤ 10 := putU_len 9 n (by unfold Is64 at h; omega)
theorem putS_ten {n : Int} (h : IsI64 n) : (putS n).length ≤ 10 := putS_len 9 n (by unfold IsI64 at h; omega) (by unfold IsI64 at h; omega)

theorem or_128 (x : Int) : bits .or .u8 (x % 256) 128 = x % 128 + 128 := by
  have h : ∀ k : Nat, k < 256 → bits .or .u8 (k : Int) 128 = ((k % 128 : Nat) : Int) + 128 := by decide +kernel
  have h2 := h (x % 256).toNat (by omega)
  rw [show (((x % 256).toNat : Nat) : Int) = x % 256 from by omega] at h2
  rw [h2]
  omega
theorem and_127 (x : Int) : bits .and .u8 (x % 256) 127 = x % 128 := by
  have h : ∀ k : Nat, k < 256 → bits .and .u8 (k : Int) 127 = ((k % 128 : Nat) : Int) := by decide +kernel
  have h2 := h (x % 256).toNat (by omega)
  rw [show (((x % 256).toNat : Nat) : Int) = x % 256 from by omega] at h2
  rw [h2]
  omega

/-- The byte at a place. -/
def bt (s : ByteArray) (i : Nat) : Nat := (s.data.toList.getD i 0).toNat
theorem bt_lt (s : ByteArray) (i : Nat) : bt s i < 256 := UInt8.toNat_lt _
theorem bt_at (s : ByteArray) (i : Nat) (h : i < s.size) : s[i].toNat = bt s i := by
  unfold bt
  have h' : i < s.data.toList.length := by simpa using h
  rw [List.getD, List.getElem?_eq_getElem h']
  rfl
/-- What the first k groups at a place make. -/
def valAt (s : ByteArray) (at_ : Nat) : Nat → Nat
  | 0 => 0
  | k + 1 => valAt s at_ k + (bt s (at_ + k) % 128) * 128 ^ k
/-- It, in 64 bits. -/
def v64 (s : ByteArray) (at_ k : Nat) : Nat := valAt s at_ k % 18446744073709551616
theorem valAt_lt (s : ByteArray) (at_ k : Nat) : valAt s at_ k < 128 ^ k := by
  induction k with
  | zero => simp [valAt]
  | succ k ih =>
    have h : (bt s (at_ + k) % 128) * 128 ^ k ≤ 127 * 128 ^ k := Nat.mul_le_mul_right _ (by omega)
    simp only [valAt, Nat.pow_succ]
    omega
/-- How many groups a number has, sought from the k-th on; 0: it has no end. -/
def grpFrom (s : ByteArray) (at_ most k : Nat) : Nat :=
  if k < most ∧ at_ + k < s.size then (if bt s (at_ + k) < 128 then k + 1 else grpFrom s at_ most (k + 1)) else 0
termination_by most - k
theorem grp_end (s : ByteArray) (at_ most k : Nat) (h : ¬ (k < most ∧ at_ + k < s.size)) : grpFrom s at_ most k = 0 := by
  rw [grpFrom, if_neg h]
theorem grp_hit (s : ByteArray) (at_ most k : Nat) (h : k < most ∧ at_ + k < s.size) (hb : bt s (at_ + k) < 128) : grpFrom s at_ most k = k + 1 := by
  rw [grpFrom, if_pos h, if_pos hb]
theorem grp_miss (s : ByteArray) (at_ most k : Nat) (h : k < most ∧ at_ + k < s.size) (hb : ¬ bt s (at_ + k) < 128) : grpFrom s at_ most k = grpFrom s at_ most (k + 1) := by
  rw [grpFrom, if_pos h, if_neg hb]
theorem grp_le (s : ByteArray) (at_ most k : Nat) : grpFrom s at_ most k ≤ most := by
  rw [grpFrom]
  split
  · split
    · omega
    · exact grp_le s at_ most (k + 1)
  · omega
termination_by most - k
/-- The last group of a number ends it, and it lies within the text. -/
theorem grp_spec (s : ByteArray) (at_ most k : Nat) (h : grpFrom s at_ most k ≠ 0) : k < grpFrom s at_ most k ∧ at_ + grpFrom s at_ most k ≤ s.size ∧ bt s (at_ + (grpFrom s at_ most k - 1)) < 128 := by
  rw [grpFrom] at h ⊢
  split at h
  · rename_i hk
    rw [if_pos hk]
    split at h
    · rename_i hb
      rw [if_pos hb]
      exact ⟨by omega, by omega, by simpa using hb⟩
    · rename_i hb
      rw [if_neg hb]
      have := grp_spec s at_ most (k + 1) h
      exact ⟨by omega, this.2⟩
  · exact absurd rfl h
termination_by most - k

/-- What d groups from the j-th on make, the last one first. -/
def hiV (s : ByteArray) (p : Nat) : Nat → Nat → Nat
  | 0, _ => 0
  | d + 1, j => bt s (p + j) % 128 + 128 * hiV s p d (j + 1)
theorem valAt_hi (s : ByteArray) (p : Nat) : ∀ d j, valAt s p (j + d) = valAt s p j + 128 ^ j * hiV s p d j := by
  intro d
  induction d with
  | zero => intro j; simp [hiV]
  | succ d ih =>
    intro j
    have h := ih (j + 1)
    rw [show j + (d + 1) = j + 1 + d from by omega, h]
    simp only [valAt, hiV, Nat.pow_succ, Nat.mul_add]
    rw [Nat.mul_comm (bt s (p + j) % 128), Nat.mul_assoc, Nat.add_assoc]
theorem hi_le (s : ByteArray) (p d j : Nat) : 128 ^ j * hiV s p d j ≤ valAt s p (j + d) := by rw [valAt_hi]; omega
theorem hi_zero (s : ByteArray) (p k : Nat) : valAt s p k = hiV s p k 0 := by have := valAt_hi s p k 0; simpa [valAt] using this

/-- A place or a size that no number can be asked at. -/
def badAsk (s : ByteArray) (at_ bits : Int) : Prop := (bits ≠ 32 ∧ bits ≠ 64) ∨ at_ < 0 ∨ (s.size : Int) < at_
instance (s : ByteArray) (at_ bits : Int) : Decidable (badAsk s at_ bits) := by unfold badAsk; infer_instance
/-- How many groups there are. -/
def grpN (s : ByteArray) (at_ bits : Int) : Nat := grpFrom s at_.toNat ((bits + 6) / 7).toNat 0
/-- Why k groups are no number without sign. -/
def uErr (s : ByteArray) (p k : Nat) (bits : Int) : Prop := k = 0 ∨ (k = 10 ∧ 1 < bt s (p + 9)) ∨ (bits = 32 ∧ 4294967296 ≤ valAt s p k)
instance (s : ByteArray) (p k : Nat) (bits : Int) : Decidable (uErr s p k bits) := by unfold uErr; infer_instance
theorem valAt_top (s : ByteArray) (p k : Nat) : valAt s p (k + 1) = valAt s p k + bt s (p + k) % 128 * 128 ^ k := rfl
theorem valAt_64 (s : ByteArray) (p k : Nat) (hk : k ≤ 10) (h : ¬ (k = 10 ∧ 1 < bt s (p + 9))) : valAt s p k < 18446744073709551616 := by
  by_cases h9 : k ≤ 9
  · have h1 := valAt_lt s p k
    have h2 : (128 : Nat) ^ k ≤ 128 ^ 9 := Nat.pow_le_pow_right (by omega) h9
    have h3 : (128 : Nat) ^ 9 = 9223372036854775808 := by decide
    omega
  · obtain rfl : k = 10 := by omega
    have h1 := valAt_lt s p 9
    have h3 : (128 : Nat) ^ 9 = 9223372036854775808 := by decide
    rw [valAt_top, h3]
    have h4 : bt s (p + 9) % 128 ≤ 1 := by omega
    have h5 : bt s (p + 9) % 128 * 9223372036854775808 ≤ 1 * 9223372036854775808 := Nat.mul_le_mul_right _ h4
    omega
/-- What 32 bits do not hold: the fifth group. -/
theorem over32 (s : ByteArray) (p k : Nat) (hk : k ≤ 5) (hk0 : k ≠ 0) (hl : bt s (p + (k - 1)) < 128) : 4294967296 ≤ valAt s p k ↔ (k = 5 ∧ 15 < bt s (p + 4)) := by
  by_cases h4 : k ≤ 4
  · have h1 := valAt_lt s p k
    have h2 : (128 : Nat) ^ k ≤ 128 ^ 4 := Nat.pow_le_pow_right (by omega) h4
    have h3 : (128 : Nat) ^ 4 = 268435456 := by decide
    omega
  · obtain rfl : k = 5 := by omega
    have h1 := valAt_lt s p 4
    have h3 : (128 : Nat) ^ 4 = 268435456 := by decide
    rw [valAt_top, h3]
    have hl' : bt s (p + 4) < 128 := hl
    rw [Nat.mod_eq_of_lt hl']
    omega

/-- What k groups make, with sign. -/
def sval (s : ByteArray) (p k : Nat) : Int := if 64 * 128 ^ (k - 1) ≤ valAt s p k then (valAt s p k : Int) - (128 ^ k : Nat) else (valAt s p k : Int)
/-- Does a number need no more than 32 bits? -/
def in32 (n : Int) : Prop := -2147483648 ≤ n ∧ n < 2147483648
instance (n : Int) : Decidable (in32 n) := by unfold in32; infer_instance
/-- Why k groups are no number with sign. -/
def sErr (s : ByteArray) (p k : Nat) (bits : Int) : Prop := k = 0 ∨ (k = 10 ∧ bt s (p + 9) ≠ 0 ∧ bt s (p + 9) ≠ 127) ∨ (bits = 32 ∧ ¬ in32 (sval s p k))
instance (s : ByteArray) (p k : Nat) (bits : Int) : Decidable (sErr s p k bits) := by unfold sErr; infer_instance

theorem in32_wrap (n : Int) : (n != wrap64 (wrap32 n)) = !decide (in32 n) := by
  rw [Bool.eq_iff_iff, Bool.not_eq_true', decide_eq_false_iff_not, bne_iff_ne]
  unfold in32 wrap64 wrap32
  omega

/-- A number shifted up to the top and down again: its top bit is its sign. -/
theorem shift_sign (V m : Nat) (hm : 1 ≤ m) (h63 : m ≤ 63) (hV : V < 2 ^ m) :
    wrap64 (IntKind.u64.wrap ((V : Int) * 2 ^ (64 - m))) / 2 ^ (64 - m) = if 2 ^ (m - 1) ≤ V then (V : Int) - (2 ^ m : Nat) else V := by
  obtain ⟨a, ha⟩ : ∃ a, m = a + 1 := ⟨m - 1, by omega⟩
  subst ha
  obtain ⟨b, hb⟩ : ∃ b, 64 - (a + 1) = b := ⟨_, rfl⟩
  rw [hb, Nat.add_sub_cancel]
  have hab : a + 1 + b = 64 := by omega
  have hB : (0 : Int) < 2 ^ b := Int.pow_pos (by decide)
  have h64n : (2 : Nat) ^ a * 2 * 2 ^ b = 18446744073709551616 := by
    rw [← Nat.pow_succ, ← Nat.pow_add, hab]
  have hA : ((2 ^ (a + 1) : Nat) : Int) = 2 * (2 ^ a : Nat) := by rw [Nat.pow_succ]; omega
  have h64 : ((2 ^ a : Nat) : Int) * (2 ^ b : Int) * 2 = 18446744073709551616 := by
    have h : ((2 ^ a : Nat) : Int) * 2 * (2 ^ b : Int) = 18446744073709551616 := by
      have h := congrArg (fun n : Nat => (n : Int)) h64n
      have e2 : ((2 ^ b : Nat) : Int) = (2 ^ b : Int) := Int.natCast_pow 2 b
      have h' : ((2 ^ a * 2 * 2 ^ b : Nat) : Int) = ((18446744073709551616 : Nat) : Int) := h
      rw [Int.natCast_mul, Int.natCast_mul, e2] at h'
      exact h'
    rw [← h, Int.mul_assoc, Int.mul_comm (2 ^ b : Int) 2, ← Int.mul_assoc]
  have hV2 : (V : Int) < 2 * (2 ^ a : Nat) := by rw [← hA]; omega
  rw [hA]
  generalize ((2 ^ a : Nat) : Int) = A at h64 hV2 hA ⊢
  have hVB0 : 0 ≤ (V : Int) * 2 ^ b := Int.mul_nonneg (by omega) (by omega)
  generalize hBB : (2 : Int) ^ b = B at h64 hVB0 hB ⊢
  have hlt : (V : Int) * B < 2 * A * B := Int.mul_lt_mul_of_pos_right hV2 hB
  have e1 : 2 * A * B = 18446744073709551616 := by rw [← h64, Int.mul_comm (A * B) 2, Int.mul_assoc]
  rw [e1] at hlt
  have w1 : IntKind.u64.wrap ((V : Int) * B) = (V : Int) * B := by rw [IntKind.wrap_u64]; omega
  rw [w1]
  by_cases hc : A ≤ (V : Int)
  · have h2 : A * B ≤ (V : Int) * B := Int.mul_le_mul_of_nonneg_right hc (by omega)
    have w2 : wrap64 ((V : Int) * B) = (V - 2 * A) * B := by
      rw [Int.sub_mul, e1]; unfold wrap64; omega
    rw [w2, Int.mul_ediv_cancel _ (by omega)]
    have hc' : (2 ^ a : Nat) ≤ V := by omega
    rw [if_pos hc']
  · have h2 : (V : Int) * B < A * B := Int.mul_lt_mul_of_pos_right (by omega) hB
    have w2 : wrap64 ((V : Int) * B) = V * B := by unfold wrap64; omega
    rw [w2, Int.mul_ediv_cancel _ (by omega)]
    have hc' : ¬ (2 ^ a : Nat) ≤ V := by omega
    rw [if_neg hc']

theorem or_shl (N c m : Nat) (h : N < 2 ^ m) (hm : m ≤ 63) (hc : c < 256) :
    bits .or .u64 (N : Int) (IntKind.u64.wrap (IntKind.u64.wrap (bits .and .u8 (c : Int) 127) * 2 ^ m)) = (((N + c % 128 * 2 ^ m) % 18446744073709551616 : Nat) : Int) := by
  have e0 : bits .and .u8 (c : Int) 127 = ((c % 128 : Nat) : Int) := by
    have h2 := and_127 c
    rw [show (c : Int) % 256 = c from by omega] at h2
    rw [h2]; omega
  have e1 : IntKind.u64.wrap (((c % 128 : Nat) : Int)) = ((c % 128 : Nat) : Int) := by rw [IntKind.wrap_u64]; omega
  have e2 : IntKind.u64.wrap (((c % 128 : Nat) : Int) * 2 ^ m) = (((c % 128 * 2 ^ m) % 18446744073709551616 : Nat) : Int) := by
    rw [IntKind.wrap_u64]; simp
  rw [e0, e1, e2]
  have hN : N < 18446744073709551616 := Nat.lt_of_lt_of_le h (Nat.le_trans (Nat.pow_le_pow_right (by omega) hm) (by decide))
  have hd : (c % 128 * 2 ^ m) % 18446744073709551616 = (c % 128 % 2 ^ (64 - m)) * 2 ^ m := by
    have : (18446744073709551616 : Nat) = 2 ^ (64 - m) * 2 ^ m := by rw [← Nat.pow_add, show 64 - m + m = 64 from by omega]
    rw [this, Nat.mul_mod_mul_right]
  have hor : bits .or .u64 (N : Int) (((c % 128 * 2 ^ m) % 18446744073709551616 : Nat) : Int) = ((N ||| ((c % 128 * 2 ^ m) % 18446744073709551616) : Nat) : Int) := u64_or_nat _ _ hN (Nat.mod_lt _ (by decide))
  rw [hor, hd]
  have hadd : N ||| (c % 128 % 2 ^ (64 - m)) * 2 ^ m = (c % 128 % 2 ^ (64 - m)) * 2 ^ m + N := by
    rw [Nat.or_comm, Nat.mul_comm]
    exact (Nat.two_pow_add_eq_or_of_lt h _).symm
  rw [hadd, ← hd]
  congr 1
  have hlt : (c % 128 * 2 ^ m) % 18446744073709551616 + N < 18446744073709551616 := by
    rw [hd]
    have h3 : c % 128 % 2 ^ (64 - m) + 1 ≤ 2 ^ (64 - m) := Nat.mod_lt _ (Nat.two_pow_pos _)
    have h4 : (c % 128 % 2 ^ (64 - m) + 1) * 2 ^ m ≤ 2 ^ (64 - m) * 2 ^ m := Nat.mul_le_mul_right _ h3
    rw [← Nat.pow_add, show 64 - m + m = 64 from by omega, Nat.add_mul] at h4
    omega
  omega
theorem pow_128 (m : Nat) : (128 : Nat) ^ m = 2 ^ (7 * m) := by rw [show (128 : Nat) = 2 ^ 7 from rfl, ← Nat.pow_mul]

/-! ### Numbers with sign -/
/-- Is a number below nought, by its last group? -/
def neg7 (s : ByteArray) (p k : Nat) : Bool := decide (64 ≤ bt s (p + (k - 1)) % 128)
theorem neg7_iff (s : ByteArray) (p k : Nat) (hk : 0 < k) : 64 * 128 ^ (k - 1) ≤ valAt s p k ↔ 64 ≤ bt s (p + (k - 1)) % 128 := by
  obtain ⟨j, rfl⟩ : ∃ j, k = j + 1 := ⟨k - 1, by omega⟩
  rw [valAt_top, Nat.add_sub_cancel]
  have h := valAt_lt s p j
  constructor
  · intro h1
    apply Decidable.byContradiction
    intro h2
    have h3 : bt s (p + j) % 128 * 128 ^ j ≤ 63 * 128 ^ j := Nat.mul_le_mul_right _ (by omega)
    omega
  · intro h1
    have h3 : 64 * 128 ^ j ≤ bt s (p + j) % 128 * 128 ^ j := Nat.mul_le_mul_right _ h1
    omega
/-- What the reference has made of d groups from the j-th on. -/
def shiV (s : ByteArray) (p : Nat) (ng : Bool) (d j : Nat) : Int := if ng then (hiV s p d j : Int) - (128 ^ d : Nat) else hiV s p d j
theorem sval_shi (s : ByteArray) (p k : Nat) (hk : 0 < k) : sval s p k = shiV s p (neg7 s p k) k 0 := by
  unfold sval shiV neg7
  rw [hi_zero]
  by_cases h : 64 ≤ bt s (p + (k - 1)) % 128
  · have h1 := (neg7_iff s p k hk).2 h
    rw [hi_zero] at h1
    simp [h, h1]
  · have h1 := fun h2 => h ((neg7_iff s p k hk).1 h2)
    rw [hi_zero] at h1
    rw [if_neg h1]
    simp [h]
theorem hi_lt (s : ByteArray) (p : Nat) : ∀ d j, hiV s p d j < 128 ^ d := by
  intro d
  induction d with
  | zero => intro j; simp [hiV]
  | succ d ih =>
    intro j
    have := ih (j + 1)
    rw [hiV, Nat.pow_succ]
    omega
theorem hi_top (s : ByteArray) (p : Nat) : ∀ d j, hiV s p (d + 1) j = hiV s p d j + 128 ^ d * (bt s (p + (j + d)) % 128) := by
  intro d
  induction d with
  | zero => intro j; simp [hiV]
  | succ d ih =>
    intro j
    rw [hiV, ih (j + 1)]
    conv => rhs; rw [hiV]
    rw [Nat.pow_succ, Nat.mul_add, show j + 1 + d = j + (d + 1) from by omega, ← Nat.mul_assoc, Nat.mul_comm 128 (128 ^ d)]
    omega
/-- What is made on the way needs no more than 57 bits. -/
theorem shi_small (s : ByteArray) (p k i d : Nat) (h : i + 1 + d = k) (hk : k ≤ 10) (h10 : k = 10 → bt s (p + 9) = 0 ∨ bt s (p + 9) = 127) :
    -72057594037927936 ≤ shiV s p (neg7 s p k) d (i + 1) ∧ shiV s p (neg7 s p k) d (i + 1) < 72057594037927936 := by
  have key : ∀ (e : Nat) (x : Int), e ≤ 8 → -((128 ^ e : Nat) : Int) ≤ x → x < (128 ^ e : Nat) → -72057594037927936 ≤ x ∧ x < 72057594037927936 := by
    intro e x he h1 h2
    have h3 : 128 ^ e ≤ 128 ^ 8 := Nat.pow_le_pow_right (by omega) he
    have h4 : (128 : Nat) ^ 8 = 72057594037927936 := by decide
    omega
  by_cases h8 : d ≤ 8
  · have h1 := hi_lt s p d (i + 1)
    refine key d _ h8 ?_ ?_ <;> (unfold shiV; split <;> omega)
  · obtain rfl : d = 9 := by omega
    obtain rfl : i = 0 := by omega
    obtain rfl : k = 10 := by omega
    have h1 := hi_top s p 8 1
    have h2 := hi_lt s p 8 1
    have e9 : (128 : Nat) ^ 9 = 128 ^ 8 * 128 := rfl
    refine key 8 _ (by omega) ?_ ?_
    all_goals
      unfold shiV
      simp only [show 0 + 1 = 1 from rfl]
      rw [h1, e9]
      simp only [show p + (1 + 8) = p + 9 from by omega]
      rcases h10 rfl with h3 | h3
      · first | (simp [neg7, h3]; omega) | (simp [neg7, h3]; done)
      · first | (simp [neg7, h3]; omega) | (simp [neg7, h3]; done)
theorem or_i64 (n : Int) (c : Nat) (h1 : -72057594037927936 ≤ n) (h2 : n < 72057594037927936) (hc : c < 128) : bits .or .i64 (n * 128) (c : Int) = n * 128 + c := by
  show IntKind.i64.wrap (((BitVec.ofInt 64 (n * 128) ||| BitVec.ofInt 64 (c : Int)).toNat : Nat) : Int) = _
  rw [BitVec.toNat_or, BitVec.toNat_ofInt, BitVec.toNat_ofInt]
  have e1 : ((n * 128) % ((2 ^ 64 : Nat) : Int)).toNat = 2 ^ 7 * (n % 144115188075855872).toNat := by
    have : ((2 ^ 64 : Nat) : Int) = 18446744073709551616 := rfl
    rw [this]; omega
  have e2 : ((c : Int) % ((2 ^ 64 : Nat) : Int)).toNat = c := by
    have : ((2 ^ 64 : Nat) : Int) = 18446744073709551616 := rfl
    rw [this]; omega
  rw [e1, e2, ← Nat.two_pow_add_eq_or_of_lt (i := 7) (by simpa using hc), IntKind.wrap_i64]
  omega
theorem and_64 (c : Nat) (hc : c < 256) : (bits .and .u8 (c : Int) 64 != 0) = decide (64 ≤ c % 128) := by
  have h : ∀ k : Nat, k < 256 → (bits .and .u8 (k : Int) 64 != 0) = decide (64 ≤ k % 128) := by decide +kernel
  exact h c hc
theorem and_127n (c : Nat) (hc : c < 256) : bits .and .u8 (c : Int) 127 = ((c % 128 : Nat) : Int) := by
  have h2 := and_127 c
  rw [show (c : Int) % 256 = c from by omega] at h2
  rw [h2]; omega
theorem shi_step (s : ByteArray) (p : Nat) (ng : Bool) (d i : Nat) : shiV s p ng (d + 1) i = shiV s p ng d (i + 1) * 128 + (bt s (p + i) % 128 : Nat) := by
  unfold shiV
  simp only [hiV, Nat.pow_succ]
  split <;> omega
/-- What leb makes of the groups of a number of less than ten. -/
theorem sval_shift (s : ByteArray) (p k : Nat) (hk : 0 < k) (h9 : k ≤ 9) : wrap64 (IntKind.u64.wrap ((v64 s p k : Int) * 2 ^ (64 - 7 * k))) / 2 ^ (64 - 7 * k) = sval s p k := by
  have h1 := valAt_lt s p k
  have hv : v64 s p k = valAt s p k := by
    unfold v64; exact Nat.mod_eq_of_lt (valAt_64 s p k (by omega) (by omega))
  rw [hv, shift_sign (valAt s p k) (7 * k) (by omega) (by omega) (by rw [← pow_128]; exact h1)]
  have e : (2 : Nat) ^ (7 * k - 1) = 64 * 128 ^ (k - 1) := by
    rw [pow_128, show (64 : Nat) = 2 ^ 6 from rfl, ← Nat.pow_add]
    congr 1; omega
  unfold sval
  rw [e, ← pow_128]
theorem sval_ten (s : ByteArray) (p : Nat) (h : bt s (p + 9) = 0 ∨ bt s (p + 9) = 127) : wrap64 (v64 s p 10 : Int) = sval s p 10 := by
  have h1 := valAt_lt s p 9
  have h3 : (128 : Nat) ^ 9 = 9223372036854775808 := by decide
  have h4 : (128 : Nat) ^ 10 = 1180591620717411303424 := by decide
  have e := valAt_top s p 9
  unfold sval v64
  rw [show 10 - 1 = 9 from rfl, h3, h4]
  simp only [show 9 + 1 = 10 from rfl] at e
  rw [e, h3]
  rw [h3] at h1
  rcases h with h | h
  · rw [h]; unfold wrap64; split <;> omega
  · rw [h]; unfold wrap64; split <;> omega
end Go.Proofs.Ytiamcllejdidjaa
