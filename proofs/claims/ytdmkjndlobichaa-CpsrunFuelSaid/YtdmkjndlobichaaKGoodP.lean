/-
  PLAIN: which terms may be.
-/
import Derived.Test.YtdmkjndlobichaaKTree
import Derived.Test.YtdmkjndlobichaaEGoodP
namespace Go.Proofs.Ytdmkjndlobichaa
set_option linter.all false
namespace Tm
open Ev (plainB tagsB updI upM plain_false)

/-- Neither Ints nor Tags. -/
def plainT (i : Bool) (tl : Nat) : Bool := decide (i = false ∧ tl = 0)
def taggedT (i : Bool) (ts : List Int) (l : Nat) : Bool := decide (0 < l ∧ (l = ts.length ∨ l = ts.length + 1)) && tagsB i [] ts
/-- Has a term what its kind has? -/
def formN (k x n : Int) (i : Bool) (tl al fl ul : Nat) (q : Bool) : Bool :=
  if k = 1 then decide (al = 2 ∧ ul = 1 ∧ fl = 0 ∧ 1 ≤ n ∧ n ≤ 7) && plainT i tl
  else if k = 2 then decide (al ≤ 8 ∧ ul = 1 ∧ fl = 0 ∧ 0 ≤ n ∧ n < 32) && plainT i tl
  else if k = 3 then decide (al = 1 ∧ ul = 1 ∧ fl = 0 ∧ 0 ≤ n ∧ n < 8) && plainT i tl
  else if k = 4 then decide (al = 0 ∧ ul = 1 ∧ 0 < fl ∧ x = 0 ∧ n = 0) && plainT i tl
  else if k = 5 then decide (1 ≤ al ∧ al ≤ 16 ∧ ul = 0 ∧ fl = 0 ∧ x = 0 ∧ n = 0) && plainT i tl
  else if k = 6 then decide (al = 1 ∧ fl = 0 ∧ x = 0 ∧ n = 0) && q
  else if k = 7 then decide (al = 1 ∧ ul = 1 ∧ fl = 0 ∧ x = 0 ∧ n = 0) && plainT i tl
  else if k = 8 then decide (al = 1 ∧ ul = 0 ∧ fl = 0 ∧ x = 0 ∧ n = 0) && plainT i tl
  else false
def formT (k x n : Int) (i : Bool) (ts : List Int) (al fl ul : Nat) : Bool := formN k x n i ts.length al fl ul (taggedT i ts ul)
/-- The variables that a term binds in what comes behind. -/
def bindT (k x : Int) (fh : List (Int × List Int)) : List Int := if k = 1 ∨ k = 2 ∨ k = 3 then [x] else if k = 4 then fh.map Prod.fst else []
def atomB (g : Int → Int) (a : Bool × Int) : Bool := if a.1 then decide (g a.2 ≠ 0) else in31 a.2
def atomsB (g : Int → Int) (ats : List (Bool × Int)) : Bool := ats.all (atomB g)
/-- Names are met; none twice. -/
def addV : List Int → (Int → Int) → Option (Int → Int)
  | [], f => some f
  | x :: xs, f => if 1 < f x + 1 ∨ x < 1 ∨ 262144 < x then none else addV xs (updI f x (f x + 1))
mutual
/-- May it be a term? f: which variables were met, g: which are bound around; which were met behind it. -/
def gdT : Te → (Int → Int) → (Int → Int) → Option (Int → Int)
  | .mk k x n i ts ats fh fb us, f, g => if formT k x n i ts ats.length fb.length us.length = false ∨ atomsB g ats = false then none else match addV (bindT k x fh) f with
    | none => none
    | some f1 => match gdF fh fb f1 (upM (bindT k x fh) g) with
      | none => none
      | some f2 => gdL us f2 (upM (bindT k x fh) g)
def gdF : List (Int × List Int) → List Te → (Int → Int) → (Int → Int) → Option (Int → Int)
  | _, [], f, _ => some f
  | [], _ :: _, f, _ => some f
  | h :: hs, b :: bs, f, g => if 16 < h.2.length then none else match addV h.2 f with
    | none => none
    | some f1 => match gdT b f1 (upM h.2 g) with
      | none => none
      | some f2 => gdF hs bs f2 g
def gdL : List Te → (Int → Int) → (Int → Int) → Option (Int → Int)
  | [], f, _ => some f
  | t :: ts, f, g => match gdT t f g with
    | none => none
    | some f1 => gdL ts f1 g
end
def goodT (t : Te) : Bool := decide (nodes t ≤ 65536) && (gdT t (fun _ => 0) (updI (fun _ => 0) 0 1)).isSome
mutual
/-- Has each term what its kind has? -/
def Fm : Te → Prop
  | .mk k x n i ts ats fh fb us => formT k x n i ts ats.length fb.length us.length = true ∧ fh.length = fb.length ∧ FmL fb ∧ FmL us
def FmL : List Te → Prop
  | [] => True
  | t :: ts => Fm t ∧ FmL ts
end
theorem FmL.mem : ∀ {ts : List Te}, FmL ts → ∀ t ∈ ts, Fm t
  | [], _, t, h => by cases h
  | a :: ts, h, t, hm => by
    rw [FmL] at h
    rcases List.mem_cons.1 hm with rfl | hm
    · exact h.1
    · exact FmL.mem h.2 t hm
mutual
theorem gdT_fm : ∀ (t : Te) (f g f' : Int → Int), Even t → gdT t f g = some f' → Fm t
  | .mk k x n i ts ats fh fb us, f, g, f', he, h => by
    rw [Even] at he
    rw [gdT] at h
    by_cases h1 : formT k x n i ts ats.length fb.length us.length = false ∨ atomsB g ats = false
    · rw [if_pos h1] at h; cases h
    rw [if_neg h1] at h
    cases h2 : addV (bindT k x fh) f with
    | none => rw [h2] at h; cases h
    | some f1 =>
      rw [h2] at h
      simp only at h
      cases h3 : gdF fh fb f1 (upM (bindT k x fh) g) with
      | none => rw [h3] at h; cases h
      | some f2 =>
        rw [h3] at h
        rw [Fm]
        refine ⟨?_, he.1, gdF_fm fb fh _ _ _ he.1 he.2.1 h3, gdL_fm us _ _ _ he.2.2 h⟩
        cases h9 : formT k x n i ts ats.length fb.length us.length with
        | true => rfl
        | false => exact absurd (.inl h9) h1
theorem gdF_fm : ∀ (fb : List Te) (fh : List (Int × List Int)) (f g f' : Int → Int), fh.length = fb.length → EvenL fb → gdF fh fb f g = some f' → FmL fb
  | [], _, _, _, _, _, _, _ => by rw [FmL]; trivial
  | b :: bs, [], f, g, f', hl, _, _ => by simp at hl
  | b :: bs, a :: hs, f, g, f', hl, he, h => by
    rw [EvenL] at he
    rw [gdF] at h
    by_cases h1 : 16 < a.2.length
    · rw [if_pos h1] at h; cases h
    rw [if_neg h1] at h
    cases h2 : addV a.2 f with
    | none => rw [h2] at h; cases h
    | some f1 =>
      rw [h2] at h
      simp only at h
      cases h3 : gdT b f1 (upM a.2 g) with
      | none => rw [h3] at h; cases h
      | some f2 =>
        rw [h3] at h
        rw [FmL]
        exact ⟨gdT_fm b _ _ _ he.1 h3, gdF_fm bs hs _ _ _ (by simpa using hl) he.2 h⟩
theorem gdL_fm : ∀ (us : List Te) (f g f' : Int → Int), EvenL us → gdL us f g = some f' → FmL us
  | [], _, _, _, _, _ => by rw [FmL]; trivial
  | t :: us, f, g, f', he, h => by
    rw [EvenL] at he
    rw [gdL] at h
    cases h3 : gdT t f g with
    | none => rw [h3] at h; cases h
    | some f2 =>
      rw [h3] at h
      rw [FmL]
      exact ⟨gdT_fm t _ _ _ he.1 h3, gdL_fm us _ _ _ he.2 h⟩
end
theorem good_fm {t : Te} (he : Even t) (h : goodT t = true) : Fm t ∧ nodes t ≤ 65536 := by
  unfold goodT at h
  obtain ⟨h1, h2⟩ := plain_false h
  obtain ⟨f, hf⟩ := Option.isSome_iff_exists.1 h2
  exact ⟨gdT_fm t _ _ f he hf, of_decide_eq_true h1⟩
end Tm
end Go.Proofs.Ytdmkjndlobichaa
