/-
  LEX: SMALL LEMMAS OF THE LAWS.
-/
import Derived.Test.YtngbaghkjaibeaaDoorXWake
import Derived.Test.YtngbaghkjaibeaaDoorXPlainC
namespace Go.Proofs.YtngbaghkjaibeaaDoor
set_option linter.all false
open Go.ChangeShapes Go.WideShapes Go.ChangeAt Go.RowKit

theorem bad_lt {S : List UInt8} {q e : Int} (h : Lx.lexT S = .bad q e) (hs : S.length ≤ 4000) : 0 ≤ q ∧ q < S.length := by
  have e1 : Lx.lexT S = Lx.lexA S 0 0 := by unfold Lx.lexT; rw [if_neg (by omega)]
  have := Lx.lexA_bad _ _ _ _ _ _ (Nat.le_refl _) (e1 ▸ h)
  omega
theorem bad_er {S : List UInt8} {q e : Int} (h : Lx.lexT S = .bad q e) : e = 2 ∨ e = 3 ∨ e = 110 := by
  have key : ∀ (k : Nat) (s : List UInt8) (p m : Nat), s.length ≤ k → ∀ q e, Lx.lexA s p m = .bad q e → e = 2 ∨ e = 3 ∨ e = 110 := by
    intro k
    induction k with
    | zero =>
      intro s p m hk q e h
      have : s = [] := List.length_eq_zero_iff.1 (by omega)
      subst this; rw [Lx.lexA_nil] at h; cases h
    | succ k ih =>
      intro s p m hk q e h
      cases s with
      | nil => rw [Lx.lexA_nil] at h; cases h
      | cons c s =>
        have hs : s.length ≤ k := by simpa using hk
        rw [Lx.lexA_cons] at h
        by_cases h1 : Lx.isBlank c = true
        · rw [if_pos h1] at h; exact ih _ _ _ hs _ _ h
        rw [if_neg h1] at h
        by_cases h2 : c = 35
        · rw [if_pos h2] at h; exact ih _ _ _ (by simp; omega) _ _ h
        rw [if_neg h2] at h
        cases ht : Lx.tokF (c :: s) with
        | bad e9 =>
          rw [ht] at h
          injection h with _ h
          have := tokF_err ht
          omega
        | ok kd tx n len =>
          rw [ht] at h
          simp only at h
          by_cases h4 : m = 4096
          · rw [if_pos h4] at h; injection h with _ h; omega
          rw [if_neg h4] at h
          cases hx : Lx.lexA (s.drop (len - 1)) (p + len) (m + 1) with
          | ok l => rw [hx] at h; cases h
          | bad q2 e2 =>
            rw [hx] at h
            injection h with _ h
            have := ih _ _ _ (by simp; omega) _ _ hx
            omega
  unfold Lx.lexT at h
  split at h
  · injection h with _ h; omega
  · exact key _ _ _ _ (Nat.le_refl _) _ _ h
theorem count_le {S : List UInt8} {l : List Lx.Tok} (h : Lx.lexT S = .ok l) : l.length ≤ S.length := by
  unfold Lx.lexT at h
  split at h
  · cases h
  · exact Lx.lexA_count _ _ _ _ _ (Nat.le_refl _) h
theorem rising_get : ∀ {l : List Lx.Tok} {p e : Int}, Lx.Rising p e l → ∀ i, (h : i < l.length) → p ≤ l[i].pos ∧ l[i].pos < e
  | t :: l, p, e, h, 0, _ => ⟨h.1, h.2.1⟩
  | t :: l, p, e, h, i + 1, hi => by
    have := rising_get h.2.2 i (by simpa using hi)
    have h1 := h.1
    exact ⟨by simp only [List.getElem_cons_succ]; omega, by simpa using this.2⟩
theorem ok_rising {S : List UInt8} {l : List Lx.Tok} (h : Lx.lexT S = .ok l) (hs : S.length ≤ 8192) : Lx.Rising 0 S.length l := by
  have e1 : Lx.lexT S = Lx.lexA S 0 0 := by unfold Lx.lexT; rw [if_neg (by omega)]
  have := Lx.lexA_rising _ _ 0 0 _ (Nat.le_refl _) (e1 ▸ h)
  simpa using this
theorem ok_pos {S : List UInt8} {l : List Lx.Tok} (h : Lx.lexT S = .ok l) (hs : S.length ≤ 8192) : ∀ i, (h : i < l.length) → 0 ≤ l[i].pos ∧ l[i].pos < S.length := rising_get (ok_rising h hs)
theorem cat_list (a b : ByteArray) : (a ++ b).data.toList = a.data.toList ++ b.data.toList := by
  rw [ByteArray.data_append, Array.toList_append]
end Go.Proofs.YtngbaghkjaibeaaDoor
