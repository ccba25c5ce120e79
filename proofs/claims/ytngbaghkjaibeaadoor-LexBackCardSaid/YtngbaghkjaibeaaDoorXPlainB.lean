/-
  LEX, PLAIN: what stands behind a token does not change it; two texts with a line's end between.
-/
import Derived.Test.YtngbaghkjaibeaaDoorXPlain
namespace Go.Proofs.YtngbaghkjaibeaaDoor
set_option linter.all false
namespace Lx

def isSep (c : UInt8) : Bool := isBlank c || c == 35
theorem sep_cases {c : UInt8} (h : isSep c = true) : c = 9 ∨ c = 10 ∨ c = 13 ∨ c = 32 ∨ c = 35 := by
  unfold isSep isBlank at h
  simp only [Bool.or_eq_true, beq_iff_eq] at h
  rcases h with (((h | h) | h) | h) | h <;> simp [h]
theorem sep_part {c : UInt8} (h : isSep c = true) : isPart c = false := by
  rcases sep_cases h with rfl | rfl | rfl | rfl | rfl <;> decide
theorem sep_dig {c : UInt8} (h : isSep c = true) : isDig c = false := by
  rcases sep_cases h with rfl | rfl | rfl | rfl | rfl <;> decide
theorem runL_sep {p : UInt8 → Bool} {c : UInt8} (hc : p c = false) (l r : List UInt8) : runL p (l ++ c :: r) = runL p l := by
  induction l with
  | nil => show runL p (c :: r) = 0; rw [runL, if_neg (by simp [hc])]
  | cons a l ih => rw [List.cons_append, runL, runL, ih]
theorem take_sep {p : UInt8 → Bool} (l r : List UInt8) : (l ++ r).take (runL p l) = l.take (runL p l) := by
  rw [List.take_append_of_le_length (runL_le p l)]
theorem signF_sep {c : UInt8} (hc : isSep c = true) (a : UInt8) (l r : List UInt8) : signF (a :: l ++ c :: r) = signF (a :: l) := by
  unfold signF
  cases l with
  | nil =>
    rcases sep_cases hc with rfl | rfl | rfl | rfl | rfl <;> simp [signsL, List.find?, List.isPrefixOf]
  | cons b l => simp [signsL, List.find?, List.isPrefixOf]
/-- What stands behind a blank does not count. -/
theorem tokF_sep {c : UInt8} (hc : isSep c = true) {l : List UInt8} (hl : l ≠ []) (r : List UInt8) : tokF (l ++ c :: r) = tokF l := by
  cases l with
  | nil => exact absurd rfl hl
  | cons a l =>
    have h1 : runL isPart (l ++ c :: r) = runL isPart l := runL_sep (sep_part hc) l r
    have h2 : runL isDig (l ++ c :: r) = runL isDig l := runL_sep (sep_dig hc) l r
    have h3 : ((l ++ c :: r).head?.map isSmall).getD false = (l.head?.map isSmall).getD false := by
      cases l with
      | nil => rcases sep_cases hc with rfl | rfl | rfl | rfl | rfl <;> rfl
      | cons b l => rfl
    have h4 : signF (a :: (l ++ c :: r)) = signF (a :: l) := signF_sep hc a l r
    show tokF (a :: (l ++ c :: r)) = _
    rw [tokF_cons, tokF_cons]
    simp only [h1, h2, h3, h4, take_sep]
theorem runL_take (p : UInt8 → Bool) (l : List UInt8) : runL p (l.take (runL p l)) = runL p l := by
  induction l with
  | nil => rfl
  | cons a l ih =>
    by_cases h : p a = true
    · rw [runL, if_pos h, List.take_succ_cons, runL, if_pos h, ih]
    · have : runL p (a :: l) = 0 := by rw [runL, if_neg h]
      rw [this, List.take_zero]; rfl
theorem wordF_len {kd0 : Int} {w : List UInt8} {n0 : Nat} {kd : Int} {tx : List UInt8} {n : Int} {len : Nat} (h : wordF kd0 w n0 = .ok kd tx n len) : len = n0 := by
  unfold wordF at h
  split at h
  · cases h
  · injection h with _ _ _ h; exact h.symm
theorem numF_len {b : Bool} {w : List UInt8} {n0 : Nat} {kd : Int} {tx : List UInt8} {n : Int} {len : Nat} (h : numF b w n0 = .ok kd tx n len) : len = n0 := by
  unfold numF at h
  split at h
  · cases h
  · injection h with _ _ _ h; exact h.symm
/-- A token is one by itself. -/
theorem tokF_take {l : List UInt8} {kd : Int} {tx : List UInt8} {n : Int} {len : Nat} (h : tokF l = .ok kd tx n len) : 1 ≤ len ∧ len ≤ l.length ∧ tokF (l.take len) = .ok kd tx n len := by
  cases l with
  | nil => unfold tokF at h; cases h
  | cons a l =>
    have hp := runL_le isPart l
    have hd := runL_le isDig l
    have key : ∀ k, (l.take k).head?.map isSmall = if k = 0 then none else l.head?.map isSmall := by
      intro k; cases k <;> cases l <;> simp
    rw [tokF_cons] at h
    by_cases h1 : isSmall a = true
    · rw [if_pos h1] at h
      have hn := wordF_len h
      subst hn
      refine ⟨by omega, by simp; omega, ?_⟩
      rw [Nat.add_comm 1, List.take_succ_cons]
      rw [tokF_cons, if_pos h1, runL_take, List.take_take, Nat.min_self]
      rw [Nat.add_comm 1] at h ⊢
      exact h
    rw [if_neg h1] at h
    by_cases h2 : isGreat a = true
    · rw [if_pos h2] at h
      have hn := wordF_len h
      subst hn
      refine ⟨by omega, by simp; omega, ?_⟩
      rw [Nat.add_comm 1, List.take_succ_cons]
      rw [tokF_cons, if_neg h1, if_pos h2, runL_take, List.take_take, Nat.min_self]
      rw [Nat.add_comm 1] at h ⊢
      exact h
    rw [if_neg h2] at h
    by_cases h3 : a = 39
    · rw [if_pos h3] at h
      by_cases h4 : (l.head?.map isSmall).getD false = true
      · rw [if_pos h4] at h
        have hn := wordF_len h
        subst hn
        refine ⟨by omega, by simp; omega, ?_⟩
        rw [Nat.add_comm 1, List.take_succ_cons]
        have hk : runL isPart l ≠ 0 := by
          cases l with
          | nil => simp at h4
          | cons b l =>
            have : isPart b = true := by unfold isPart; simp at h4; simp [h4]
            rw [runL, if_pos this]; omega
        rw [tokF_cons, if_neg h1, if_neg h2, if_pos h3, key, if_neg hk, if_pos h4, runL_take, List.take_take, Nat.min_self]
        rw [Nat.add_comm 1] at h ⊢
        exact h
      · rw [if_neg h4] at h; cases h
    rw [if_neg h3] at h
    by_cases h5 : a = 126
    · rw [if_pos h5] at h
      have hn := numF_len h
      subst hn
      refine ⟨by omega, by simp; omega, ?_⟩
      rw [Nat.add_comm 1, List.take_succ_cons]
      rw [tokF_cons, if_neg h1, if_neg h2, if_neg h3, if_pos h5, runL_take, List.take_take, Nat.min_self]
      rw [Nat.add_comm 1] at h ⊢
      exact h
    rw [if_neg h5] at h
    by_cases h6 : isDig a = true
    · rw [if_pos h6] at h
      have hn := numF_len h
      subst hn
      refine ⟨by omega, by simp; omega, ?_⟩
      rw [Nat.add_comm 1, List.take_succ_cons]
      rw [tokF_cons, if_neg h1, if_neg h2, if_neg h3, if_neg h5, if_pos h6, runL_take, List.take_take, Nat.min_self]
      rw [Nat.add_comm 1] at h ⊢
      exact h
    rw [if_neg h6] at h
    have hs := h
    unfold signF at h
    cases hf : signsL.find? (fun x => x.isPrefixOf (a :: l)) with
    | none => rw [hf] at h; cases h
    | some x =>
      rw [hf] at h
      simp only at h
      injection h with e1 e2 e3 e4
      have hx := List.find?_some hf
      have hm := List.mem_of_find?_eq_some hf
      subst e1 e2 e3 e4
      have hpre : x <+: (a :: l) := List.isPrefixOf_iff_prefix.1 hx
      have hlen : x.length = 1 ∨ x.length = 2 := by
        have : ∀ y ∈ signsL, y.length = 1 ∨ y.length = 2 := by decide
        exact this x hm
      refine ⟨by omega, hpre.length_le, ?_⟩
      have hx2 : (a :: l).take x.length = x := (List.prefix_iff_eq_take.1 hpre).symm
      rw [hx2]
      have : ∀ y ∈ signsL, tokF y = .ok 6 y 0 y.length := by decide
      exact this x hm
def LR.app (l : List Tok) : LR → LR
  | .ok k => .ok (l ++ k)
  | .bad p e => .bad p e
theorem LR.app_nil (x : LR) : LR.app [] x = x := by cases x <;> rfl
theorem LR.cons_app (t : Tok) (l : List Tok) (x : LR) : (LR.app l x).cons t = LR.app (t :: l) x := by cases x <;> rfl
theorem drop_sep {p : UInt8 → Bool} (l r : List UInt8) (c : UInt8) (hc : p c = false) : (l ++ c :: r).drop (runL p (l ++ c :: r)) = l.drop (runL p l) ++ c :: r := by
  rw [runL_sep hc, List.drop_append_of_le_length (runL_le p l)]
/-- Two texts with a line's end between. -/
theorem lexA_join (t : List UInt8) : ∀ (k : Nat) (s : List UInt8) (p m : Nat), s.length ≤ k →
    lexA (s ++ 10 :: t) p m = match lexA s p m with | .bad q e => .bad q e | .ok l => LR.app l (lexA t (p + s.length + 1) (m + l.length))
  | 0, s, p, m, h => by
    have : s = [] := List.length_eq_zero_iff.1 (by omega)
    subst this
    rw [List.nil_append, lexA_cons, if_pos (by decide), lexA_nil]
    simp [LR.app_nil]
  | k + 1, [], p, m, h => by
    rw [List.nil_append, lexA_cons, if_pos (by decide), lexA_nil]
    simp [LR.app_nil]
  | k + 1, c :: s, p, m, h => by
    have hs : s.length ≤ k := by simpa using h
    rw [List.cons_append, lexA_cons, lexA_cons]
    by_cases h1 : isBlank c = true
    · rw [if_pos h1, if_pos h1, lexA_join t k s (p + 1) m hs]
      have e : p + 1 + s.length + 1 = p + (c :: s).length + 1 := by simp; omega
      rw [e]
    rw [if_neg h1, if_neg h1]
    by_cases h2 : c = 35
    · rw [if_pos h2, if_pos h2, drop_sep s t 10 (by decide), runL_sep (by decide) s t, lexA_join t k _ _ m (by simp; omega)]
      have := runL_le (fun x : UInt8 => x != 10) s
      have e : p + 1 + runL (fun x => x != 10) s + (s.drop (runL (fun x => x != 10) s)).length + 1 = p + (c :: s).length + 1 := by simp; omega
      rw [e]
    rw [if_neg h2, if_neg h2]
    have h3 : tokF (c :: (s ++ 10 :: t)) = tokF (c :: s) := tokF_sep (by decide) (l := c :: s) (by simp) t
    rw [h3]
    cases ht : tokF (c :: s) with
    | bad e => rfl
    | ok kd tx n len =>
      simp only
      by_cases h4 : m = 4096
      · rw [if_pos h4, if_pos h4]
      rw [if_neg h4, if_neg h4]
      obtain ⟨g1, g2, _⟩ := tokF_take ht
      have g3 : len - 1 ≤ s.length := by simp at g2; omega
      rw [List.drop_append_of_le_length g3, lexA_join t k _ _ (m + 1) (by simp; omega)]
      cases lexA (s.drop (len - 1)) (p + len) (m + 1) with
      | bad q e => rfl
      | ok l =>
        simp only [LR.cons]
        have e : p + len + (s.drop (len - 1)).length + 1 = p + (c :: s).length + 1 := by simp; omega
        have e2 : m + 1 + l.length = m + (⟨kd, tx, n, p⟩ :: l : List Tok).length := by simp; omega
        rw [e, e2]
        exact LR.cons_app _ _ _
def Tok.move (d : Nat) (t : Tok) : Tok := { t with pos := t.pos + d }
def LR.move (d : Nat) : LR → LR
  | .ok l => .ok (l.map (Tok.move d))
  | .bad p e => .bad (p + d) e
theorem LR.move_cons (d : Nat) (t : Tok) (x : LR) : (x.move d).cons (t.move d) = (x.cons t).move d := by cases x <;> rfl
/-- Elsewhere, and behind other tokens. -/
theorem lexA_move (d : Nat) : ∀ (k : Nat) (s : List UInt8) (p m m' : Nat), s.length ≤ k → m + s.length ≤ 4096 → m' + s.length ≤ 4096 → lexA s (p + d) m' = (lexA s p m).move d
  | 0, s, p, m, m', h, _, _ => by
    have : s = [] := List.length_eq_zero_iff.1 (by omega)
    subst this; rfl
  | k + 1, [], p, m, m', h, _, _ => rfl
  | k + 1, c :: s, p, m, m', h, hm, hm' => by
    have hs : s.length ≤ k := by simpa using h
    have g1 : m + s.length + 1 ≤ 4096 := by simpa [Nat.add_assoc] using hm
    have g2 : m' + s.length + 1 ≤ 4096 := by simpa [Nat.add_assoc] using hm'
    rw [lexA_cons, lexA_cons]
    by_cases h1 : isBlank c = true
    · rw [if_pos h1, if_pos h1, ← lexA_move d k s (p + 1) m m' hs (by omega) (by omega)]
      congr 1; omega
    rw [if_neg h1, if_neg h1]
    by_cases h2 : c = 35
    · rw [if_pos h2, if_pos h2, ← lexA_move d k _ (p + 1 + runL (fun x => x != 10) s) m m' (by simp; omega) (by simp; omega) (by simp; omega)]
      congr 1; omega
    rw [if_neg h2, if_neg h2]
    cases ht : tokF (c :: s) with
    | bad e => simp [LR.move]
    | ok kd tx n len =>
      simp only
      obtain ⟨g3, g4, _⟩ := tokF_take ht
      rw [if_neg (by omega), if_neg (by omega), ← LR.move_cons, ← lexA_move d k _ (p + len) (m + 1) (m' + 1) (by simp; omega) (by simp; omega) (by simp; omega)]
      have e : p + d + len = p + len + d := by omega
      rw [e]
      simp [Tok.move]
/-- Tokens are no more than letters. -/
theorem lexA_count : ∀ (k : Nat) (s : List UInt8) (p m : Nat) (l : List Tok), s.length ≤ k → lexA s p m = .ok l → l.length ≤ s.length
  | 0, s, p, m, l, h, e => by
    have : s = [] := List.length_eq_zero_iff.1 (by omega)
    subst this; rw [lexA_nil] at e; injection e with e; subst e; simp
  | k + 1, [], p, m, l, h, e => by rw [lexA_nil] at e; injection e with e; subst e; simp
  | k + 1, c :: s, p, m, l, h, e => by
    have hs : s.length ≤ k := by simpa using h
    rw [lexA_cons] at e
    by_cases h1 : isBlank c = true
    · rw [if_pos h1] at e
      have := lexA_count k s _ _ l hs e
      simp; omega
    rw [if_neg h1] at e
    by_cases h2 : c = 35
    · rw [if_pos h2] at e
      have := lexA_count k _ _ _ l (by simp; omega) e
      simp at this ⊢; omega
    rw [if_neg h2] at e
    cases ht : tokF (c :: s) with
    | bad e9 => rw [ht] at e; cases e
    | ok kd tx n len =>
      rw [ht] at e
      simp only at e
      obtain ⟨g3, g4, _⟩ := tokF_take ht
      by_cases h4 : m = 4096
      · rw [if_pos h4] at e; cases e
      rw [if_neg h4] at e
      cases hx : lexA (s.drop (len - 1)) (p + len) (m + 1) with
      | bad q e9 => rw [hx] at e; cases e
      | ok l2 =>
        rw [hx] at e
        injection e with e
        subst e
        have := lexA_count k _ _ _ l2 (by simp; omega) hx
        simp at this ⊢; omega
theorem lexT_count {s : List UInt8} {l : List Tok} (h : lexT s = .ok l) : l.length ≤ 8192 := by
  unfold lexT at h
  split at h
  · cases h
  · have := lexA_count _ _ _ _ _ (Nat.le_refl _) h
    omega
/-- Places lie within the text, and rise. -/
theorem lexA_bad : ∀ (k : Nat) (s : List UInt8) (p m : Nat) (q e9 : Int), s.length ≤ k → lexA s p m = .bad q e9 → (p : Int) ≤ q ∧ q < p + s.length
  | 0, s, p, m, q, e9, h, e => by
    have : s = [] := List.length_eq_zero_iff.1 (by omega)
    subst this; rw [lexA_nil] at e; cases e
  | k + 1, [], p, m, q, e9, h, e => by rw [lexA_nil] at e; cases e
  | k + 1, c :: s, p, m, q, e9, h, e => by
    have hs : s.length ≤ k := by simpa using h
    rw [lexA_cons] at e
    by_cases h1 : isBlank c = true
    · rw [if_pos h1] at e
      have := lexA_bad k s _ _ _ _ hs e
      simp only [List.length_cons]; omega
    rw [if_neg h1] at e
    by_cases h2 : c = 35
    · rw [if_pos h2] at e
      have := lexA_bad k _ _ _ _ _ (by simp; omega) e
      have g := runL_le (fun x : UInt8 => x != 10) s
      simp only [List.length_cons, List.length_drop] at this ⊢; omega
    rw [if_neg h2] at e
    cases ht : tokF (c :: s) with
    | bad e8 => rw [ht] at e; injection e with e e'; subst e; simp only [List.length_cons]; omega
    | ok kd tx n len =>
      rw [ht] at e
      simp only at e
      obtain ⟨g3, g4, _⟩ := tokF_take ht
      by_cases h4 : m = 4096
      · rw [if_pos h4] at e; injection e with e e'; subst e; simp only [List.length_cons]; omega
      rw [if_neg h4] at e
      cases hx : lexA (s.drop (len - 1)) (p + len) (m + 1) with
      | ok l2 => rw [hx] at e; cases e
      | bad q2 e8 =>
        rw [hx] at e
        injection e with e e'
        subst e
        have := lexA_bad k _ _ _ _ _ (by simp; omega) hx
        simp only [List.length_cons, List.length_drop] at this g4 ⊢; omega
end Lx
end Go.Proofs.YtngbaghkjaibeaaDoor
