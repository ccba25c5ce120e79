/-
  PLAIN LAWS: what was put is read as it was. No program in sight.
-/
import Derived.Test.YtiamcllejdidjaaLebPlain
import Derived.Laws.BytesArg
namespace Go.Proofs.Ytiamcllejdidjaa
open Go.RowKit

/-- The bytes l stand in s from p on. -/
def AtP (s : ByteArray) (p : Nat) (l : List Int) : Prop := ∀ i x, l[i]? = some x → p + i < s.size ∧ (bt s (p + i) : Int) = x
theorem AtP.tail {s : ByteArray} {p : Nat} {x : Int} {l : List Int} (h : AtP s p (x :: l)) : AtP s (p + 1) l := by
  intro i y hy
  have := h (i + 1) y (by simpa using hy)
  rw [show p + 1 + i = p + (i + 1) from by omega]
  exact this
theorem AtP.head {s : ByteArray} {p : Nat} {x : Int} {l : List Int} (h : AtP s p (x :: l)) : p < s.size ∧ (bt s p : Int) = x := by
  have := h 0 x rfl
  simpa using this

theorem putU_byte (n : Nat) : ∀ x ∈ putU n, 0 ≤ x ∧ x < 256 := by
  induction n using Nat.strongRecOn with
  | _ n ih =>
    intro x hx
    by_cases h : n < 128
    · rw [putU_last n h] at hx
      simp at hx; omega
    · rw [putU_step n (by omega)] at hx
      rcases List.mem_cons.1 hx with rfl | hx
      · omega
      · exact ih (n / 128) (by omega) x hx
theorem putS_byte (m : Nat) : ∀ n : Int, n.natAbs ≤ m → ∀ x ∈ putS n, 0 ≤ x ∧ x < 256 := by
  induction m with
  | zero =>
    intro n hn x hx
    rw [putS_last n (by omega)] at hx
    simp at hx; omega
  | succ m ih =>
    intro n hn x hx
    by_cases h : n < -64 ∨ n > 63
    · rw [putS_step n h] at hx
      rcases List.mem_cons.1 hx with rfl | hx
      · omega
      · exact ih (n / 128) (by omega) x hx
    · rw [putS_last n h] at hx
      simp at hx; omega
theorem putU_ne (n : Nat) : (putU n).length ≠ 0 := by
  by_cases h : n < 128
  · rw [putU_last n h]; simp
  · rw [putU_step n (by omega)]; simp
theorem putS_ne (n : Int) : (putS n).length ≠ 0 := by
  by_cases h : n < -64 ∨ n > 63
  · rw [putS_step n h]; simp
  · rw [putS_last n h]; simp

/-- How many groups a number that was put has. -/
theorem grp_putU (s : ByteArray) (p most : Nat) (n : Nat) : ∀ j, AtP s (p + j) (putU n) → grpFrom s p most j = if j + (putU n).length ≤ most then j + (putU n).length else 0 := by
  induction n using Nat.strongRecOn with
  | _ n ih =>
    intro j h
    by_cases hn : n < 128
    · rw [putU_last n hn] at h ⊢
      obtain ⟨h1, h2⟩ := h.head
      by_cases hm : j < most
      · rw [grp_hit s p most j ⟨hm, h1⟩ (by omega), if_pos (by simp; omega)]; simp
      · rw [grp_end s p most j (by omega), if_neg (by simp; omega)]
    · rw [putU_step n (by omega)] at h ⊢
      obtain ⟨h1, h2⟩ := h.head
      by_cases hm : j < most
      · rw [grp_miss s p most j ⟨hm, h1⟩ (by omega), ih (n / 128) (by omega) (j + 1) h.tail]
        simp only [List.length_cons]
        split <;> split <;> omega
      · rw [grp_end s p most j (by omega), if_neg (by simp; omega)]
theorem hi_putU (s : ByteArray) (p : Nat) (n : Nat) : ∀ j, AtP s (p + j) (putU n) → hiV s p (putU n).length j = n := by
  induction n using Nat.strongRecOn with
  | _ n ih =>
    intro j h
    by_cases hn : n < 128
    · rw [putU_last n hn] at h ⊢
      obtain ⟨h1, h2⟩ := h.head
      simp only [List.length_cons, List.length_nil, hiV]
      omega
    · rw [putU_step n (by omega)] at h ⊢
      obtain ⟨h1, h2⟩ := h.head
      simp only [List.length_cons, hiV]
      have e : bt s (p + j) % 128 = n % 128 := by omega
      rw [ih (n / 128) (by omega) (j + 1) h.tail, e]
      omega
theorem grp_putS (s : ByteArray) (p most : Nat) (m : Nat) : ∀ (n : Int) (j : Nat), n.natAbs ≤ m → AtP s (p + j) (putS n) → grpFrom s p most j = if j + (putS n).length ≤ most then j + (putS n).length else 0 := by
  induction m with
  | zero =>
    intro n j hm h
    have hn : ¬ (n < -64 ∨ n > 63) := by omega
    rw [putS_last n hn] at h ⊢
    obtain ⟨h1, h2⟩ := h.head
    by_cases hm : j < most
    · rw [grp_hit s p most j ⟨hm, h1⟩ (by omega), if_pos (by simp; omega)]; simp
    · rw [grp_end s p most j (by omega), if_neg (by simp; omega)]
  | succ m ih =>
    intro n j hm h
    by_cases hn : n < -64 ∨ n > 63
    · rw [putS_step n hn] at h ⊢
      obtain ⟨h1, h2⟩ := h.head
      by_cases hm : j < most
      · rw [grp_miss s p most j ⟨hm, h1⟩ (by omega), ih (n / 128) (j + 1) (by omega) h.tail]
        simp only [List.length_cons]
        split <;> split <;> omega
      · rw [grp_end s p most j (by omega), if_neg (by simp; omega)]
    · rw [putS_last n hn] at h ⊢
      obtain ⟨h1, h2⟩ := h.head
      by_cases hm : j < most
      · rw [grp_hit s p most j ⟨hm, h1⟩ (by omega), if_pos (by simp; omega)]; simp
      · rw [grp_end s p most j (by omega), if_neg (by simp; omega)]
theorem shi_putS (s : ByteArray) (p : Nat) (m : Nat) : ∀ (n : Int) (j : Nat), n.natAbs ≤ m → AtP s (p + j) (putS n) →
    shiV s p (decide (n < 0)) (putS n).length j = n ∧ (64 ≤ bt s (p + (j + (putS n).length - 1)) % 128 ↔ n < 0) := by
  induction m with
  | zero =>
    intro n j hm h
    obtain rfl : n = 0 := by omega
    rw [putS_last 0 (by omega)] at h ⊢
    obtain ⟨h1, h2⟩ := h.head
    simp only [List.length_cons, List.length_nil, shiV, hiV]
    rw [show p + (j + (0 + 1) - 1) = p + j from by omega]
    constructor
    · simp; omega
    · omega
  | succ m ih =>
    intro n j hm h
    by_cases hn : n < -64 ∨ n > 63
    · rw [putS_step n hn] at h ⊢
      obtain ⟨h1, h2⟩ := h.head
      obtain ⟨i1, i2⟩ := ih (n / 128) (j + 1) (by omega) h.tail
      have e : decide (n / 128 < 0) = decide (n < 0) := by simp; omega
      rw [e] at i1
      simp only [List.length_cons]
      constructor
      · rw [shi_step, show p + j = p + j from rfl]
        have e2 : ((bt s (p + j) % 128 : Nat) : Int) = n % 128 := by omega
        rw [i1, e2]
        omega
      · rw [show p + (j + ((putS (n / 128)).length + 1) - 1) = p + (j + 1 + (putS (n / 128)).length - 1) from by omega, i2]
        omega
    · rw [putS_last n hn] at h ⊢
      obtain ⟨h1, h2⟩ := h.head
      simp only [List.length_cons, List.length_nil, shiV, hiV]
      rw [show p + (j + (0 + 1) - 1) = p + j from by omega]
      constructor
      · by_cases h0 : n < 0
        · simp [h0]; omega
        · simp [h0]; omega
      · omega

/-- A number without sign that was put is read. -/
theorem read_putU {s : ByteArray} {p n : Nat} (hn : Is64 n) (h : AtP s p (putU n)) : ¬ badAsk s p 64 ∧ grpN s p 64 = (putU n).length ∧ valAt s p (putU n).length = n ∧ ¬ uErr s p (putU n).length 64 := by
  have h0 : AtP s (p + 0) (putU n) := h
  have hl := putU_ten hn
  have hne := putU_ne n
  have hv : valAt s p (putU n).length = n := by rw [hi_zero]; exact hi_putU s p n 0 h0
  have hg : grpN s p 64 = (putU n).length := by
    unfold grpN
    rw [Int.toNat_natCast, show (((64 : Int) + 6) / 7).toNat = 10 from by decide, grp_putU s p 10 n 0 h0, if_pos (by omega)]
    omega
  have hsz : p + (putU n).length ≤ s.size := by
    have := h ((putU n).length - 1) _ (List.getElem?_eq_getElem (by omega))
    omega
  refine ⟨?_, hg, hv, ?_⟩
  · unfold badAsk; omega
  · rintro (h | ⟨h1, h2⟩ | h)
    · exact hne h
    · have hs := grp_spec s p 10 0 (by rw [grp_putU s p 10 n 0 h0, if_pos (by omega)]; omega)
      rw [grp_putU s p 10 n 0 h0, if_pos (by omega), h1] at hs
      have hl9 : bt s (p + 9) < 128 := hs.2.2
      rw [h1, valAt_top, show (128 : Nat) ^ 9 = 9223372036854775808 from by decide, Nat.mod_eq_of_lt hl9] at hv
      unfold Is64 at hn
      have : 2 * 9223372036854775808 ≤ bt s (p + 9) * 9223372036854775808 := Nat.mul_le_mul_right _ h2
      omega
    · omega
/-- In 32 bits just what needs no more. -/
theorem read32_putU {s : ByteArray} {p n : Nat} (h : AtP s p (putU n)) : (grpN s p 32 = 0 ∨ uErr s p (grpN s p 32) 32) ↔ 4294967296 ≤ n := by
  have h0 : AtP s (p + 0) (putU n) := h
  have hne := putU_ne n
  have hv : valAt s p (putU n).length = n := by rw [hi_zero]; exact hi_putU s p n 0 h0
  have hg : grpN s p 32 = if (putU n).length ≤ 5 then (putU n).length else 0 := by
    unfold grpN
    rw [Int.toNat_natCast, show (((32 : Int) + 6) / 7).toNat = 5 from by decide, grp_putU s p 5 n 0 h0]
    simp
  rw [hg]
  by_cases h5 : (putU n).length ≤ 5
  · rw [if_pos h5]
    unfold uErr
    rw [hv]
    omega
  · rw [if_neg h5]
    have : ¬ n < 128 ^ 5 := fun hc => h5 (putU_len 4 n hc)
    rw [show (128 : Nat) ^ 5 = 34359738368 from by decide] at this
    omega

/-- A number with sign that was put is read. -/
theorem read_putS {s : ByteArray} {p : Nat} {n : Int} (hn : IsI64 n) (h : AtP s p (putS n)) : ¬ badAsk s p 64 ∧ grpN s p 64 = (putS n).length ∧ sval s p (putS n).length = n ∧ ¬ sErr s p (putS n).length 64 := by
  have h0 : AtP s (p + 0) (putS n) := h
  have hl := putS_ten hn
  have hne := putS_ne n
  obtain ⟨h1, h2⟩ := shi_putS s p n.natAbs n 0 (by omega) h0
  have hng : neg7 s p (putS n).length = decide (n < 0) := by
    unfold neg7
    rw [Nat.zero_add] at h2
    simp [h2]
  have hv : sval s p (putS n).length = n := by rw [sval_shi s p _ (by omega), hng]; exact h1
  have hg : grpN s p 64 = (putS n).length := by
    unfold grpN
    rw [Int.toNat_natCast, show (((64 : Int) + 6) / 7).toNat = 10 from by decide, grp_putS s p 10 n.natAbs n 0 (by omega) h0, if_pos (by omega)]
    omega
  have hsz : p + (putS n).length ≤ s.size := by
    have := h ((putS n).length - 1) _ (List.getElem?_eq_getElem (by omega))
    omega
  refine ⟨?_, hg, hv, ?_⟩
  · unfold badAsk; omega
  · rintro (h | ⟨h3, h4, h5⟩ | h)
    · exact hne h
    · have hs := grp_spec s p 10 0 (by rw [grp_putS s p 10 n.natAbs n 0 (by omega) h0, if_pos (by omega)]; omega)
      rw [grp_putS s p 10 n.natAbs n 0 (by omega) h0, if_pos (by omega), Nat.zero_add, h3] at hs
      have hl9 : bt s (p + 9) < 128 := hs.2.2
      have hlo := valAt_lt s p 9
      have e9 : (128 : Nat) ^ 9 = 9223372036854775808 := by decide
      have e10 : (128 : Nat) ^ 10 = 1180591620717411303424 := by decide
      rw [h3] at hv
      unfold sval at hv
      rw [valAt_top, show 10 - 1 = 9 from rfl, e9, e10, Nat.mod_eq_of_lt hl9] at hv
      rw [e9] at hlo
      unfold IsI64 at hn
      split at hv <;> omega
    · omega
theorem read32_putS {s : ByteArray} {p : Nat} {n : Int} (h : AtP s p (putS n)) : (grpN s p 32 = 0 ∨ sErr s p (grpN s p 32) 32) ↔ ¬ in32 n := by
  have h0 : AtP s (p + 0) (putS n) := h
  have hne := putS_ne n
  obtain ⟨h1, h2⟩ := shi_putS s p n.natAbs n 0 (by omega) h0
  have hng : neg7 s p (putS n).length = decide (n < 0) := by
    unfold neg7
    rw [Nat.zero_add] at h2
    simp [h2]
  have hv : sval s p (putS n).length = n := by rw [sval_shi s p _ (by omega), hng]; exact h1
  have hg : grpN s p 32 = if (putS n).length ≤ 5 then (putS n).length else 0 := by
    unfold grpN
    rw [Int.toNat_natCast, show (((32 : Int) + 6) / 7).toNat = 5 from by decide, grp_putS s p 5 n.natAbs n 0 (by omega) h0]
    simp
  rw [hg]
  by_cases h5 : (putS n).length ≤ 5
  · rw [if_pos h5]
    unfold sErr
    rw [hv]
    constructor
    · rintro (h | h | h | h)
      · omega
      · omega
      · omega
      · exact h.2
    · intro h
      exact .inr (.inr (.inr ⟨rfl, h⟩))
  · rw [if_neg h5]
    have : ¬ (-(64 * 128 ^ 4 : Nat) ≤ n ∧ n < (64 * 128 ^ 4 : Nat)) := fun hc => h5 (putS_len 4 n hc.1 hc.2)
    rw [show (64 * 128 ^ 4 : Nat) = 17179869184 from by decide] at this
    unfold in32
    constructor
    · intro _; omega
    · intro _; exact .inl rfl
end Go.Proofs.Ytiamcllejdidjaa
