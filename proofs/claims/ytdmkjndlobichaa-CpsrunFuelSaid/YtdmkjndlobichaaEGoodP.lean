/-
  PLAIN: which core expressions may be.
-/
import Derived.Test.YtdmkjndlobichaaEvT
namespace Go.Proofs.Ytdmkjndlobichaa
set_option linter.all false
namespace Ev

/-- How often each number was met. -/
def updI (f : Int → Int) (s v : Int) : Int → Int := fun x => if x = s then v else f x
def cnt (l : List Int) : Int → Int := fun x => (l.filter (fun y => y = x)).length
theorem cnt_nil : cnt [] = fun _ => 0 := by funext x; simp [cnt]
theorem cnt_snoc (l : List Int) (a : Int) : cnt (l ++ [a]) = updI (cnt l) a (cnt l a + 1) := by
  funext x
  unfold cnt updI
  rw [List.filter_append, List.length_append]
  by_cases h : x = a
  · subst h; simp
  · rw [if_neg h]
    have : ¬ a = x := fun e => h e.symm
    simp [this]
theorem cnt_pos {l : List Int} {a : Int} : 0 < cnt l a ↔ a ∈ l := by
  unfold cnt
  constructor
  · intro h
    have h2 : 0 < (l.filter (fun y => y = a)).length := by omega
    obtain ⟨x, hx⟩ := List.exists_mem_of_length_pos h2
    have := List.mem_filter.1 hx
    simp at this
    rw [← this.2]; exact this.1
  · intro h
    have : a ∈ l.filter (fun y => y = a) := List.mem_filter.2 ⟨h, by simp⟩
    have := List.length_pos_of_mem this
    omega
theorem cnt_nonneg (l : List Int) (a : Int) : 0 ≤ cnt l a := by unfold cnt; omega
/-- May a switch have this tag? -/
def tagIn (i : Bool) (n : Int) : Bool := if i then in31 n else decide (0 ≤ n ∧ n < 32)
def tagsB (i : Bool) : List Int → List Int → Bool
  | _, [] => true
  | seen, n :: ts => !(seen.contains n) && tagIn i n && tagsB i (seen ++ [n]) ts
def taggedB (i : Bool) (ts : List Int) (l : Nat) : Bool := decide (2 ≤ l ∧ (l = ts.length + 1 ∨ l = ts.length + 2)) && tagsB i [] ts
def plainB (i : Bool) (ts : List Int) : Bool := !i && ts.isEmpty
/-- Has a node what its kind has? -/
def formB (k x y n : Int) (i : Bool) (ts : List Int) (l : Nat) : Bool :=
  if k = 1 then decide (l = 0 ∧ y = 0 ∧ n = 0) && plainB i ts
  else if k = 2 then decide (l = 0 ∧ x = 0 ∧ y = 0) && in31 n && plainB i ts
  else if k = 3 then decide (l = 1 ∧ y = 0 ∧ n = 0) && plainB i ts
  else if k = 4 then decide (l = 2 ∧ x = 0 ∧ y = 0 ∧ n = 0) && plainB i ts
  else if k = 5 then decide (l = 2 ∧ y = 0 ∧ n = 0) && plainB i ts
  else if k = 6 then decide (l = 2 ∧ n = 0) && plainB i ts
  else if k = 7 then decide (l ≤ 8 ∧ x = 0 ∧ y = 0 ∧ 0 ≤ n ∧ n < 32) && plainB i ts
  else if k = 8 then decide (l = 1 ∧ x = 0 ∧ y = 0 ∧ 0 ≤ n ∧ n < 8) && plainB i ts
  else if k = 9 then decide (x = 0 ∧ y = 0 ∧ n = 0) && taggedB i ts l
  else if k = 10 then decide (l = 2 ∧ x = 0 ∧ y = 0 ∧ 1 ≤ n ∧ n ≤ 7) && plainB i ts
  else if k = 11 then decide (l = 1 ∧ x = 0 ∧ y = 0 ∧ n = 0) && plainB i ts
  else false
/-- The variables that a node binds. -/
def bindL (k x y : Int) : List Int := if k = 3 ∨ k = 5 then [x] else if k = 6 then [x, y] else []
def addM : List Int → (Int → Int) → Option (Int → Int)
  | [], f => some f
  | x :: xs, f => if 1 < f x + 1 ∨ x < 1 ∨ 65536 < x then none else addM xs (updI f x (f x + 1))
mutual
/-- Well formed, not too deep, each variable bound once; which were met. -/
def goodM : Co → Int → (Int → Int) → Option (Int → Int)
  | .mk k x y n i ts us, d, f => if 1024 < d ∨ formB k x y n i ts us.length = false then none else match addM (bindL k x y) f with
    | none => none
    | some g => goodML us (d + 1) g
def goodML : List Co → Int → (Int → Int) → Option (Int → Int)
  | [], _, f => some f
  | c :: cs, d, f => match goodM c d f with
    | none => none
    | some g => goodML cs d g
end
/-- What is bound in one of a node's parts. -/
def bindA (k x y : Int) (j : Nat) : List Int := if k = 3 ∧ j = 0 ∨ k = 5 ∧ j = 1 ∨ k = 6 ∧ j = 1 then [x] else if k = 6 ∧ j = 0 then [x, y] else []
def upM (l : List Int) (f : Int → Int) : Int → Int := l.foldl (fun g x => updI g x (g x + 1)) f
mutual
/-- Does each variable stand where it is bound? -/
def closM : Co → (Int → Int) → Bool
  | .mk k x y n i ts us, f => !(decide (k = 1) && decide (f x = 0)) && closML k x y 0 us f
def closML (k x y : Int) : Nat → List Co → (Int → Int) → Bool
  | _, [], _ => true
  | j, c :: cs, f => closM c (upM (bindA k x y j) f) && closML k x y (j + 1) cs f
end
def goodB (c : Co) : Bool := decide (nodes c ≤ 65536) && (goodM c 1 (fun _ => 0)).isSome && closM c (fun _ => 0)
/-- A good one is fit. -/
def Reads (f : Int → Int) (ds : List Int) : Prop := (∀ x, f x ≠ 0 → x ∈ ds)
theorem reads_up {f : Int → Int} {ds : List Int} (h : Reads f ds) (x : Int) : Reads (updI f x (f x + 1)) (x :: ds) := by
  intro y hy
  unfold updI at hy
  by_cases e : y = x
  · exact List.mem_cons.2 (.inl e)
  · rw [if_neg e] at hy
    exact List.mem_cons.2 (.inr (h y hy))
theorem plain_false {b c : Bool} (h : (b && c) = true) : b = true ∧ c = true := by simpa using h
theorem goodML_mem {us : List Co} {d : Int} {f g : Int → Int} (h : goodML us d f = some g) : ∀ c ∈ us, ∃ f1 g1, goodM c d f1 = some g1 := by
  induction us generalizing f with
  | nil => intro c hc; cases hc
  | cons a us ih =>
    rw [goodML] at h
    cases h1 : goodM a d f with
    | none => rw [h1] at h; cases h
    | some g1 =>
      rw [h1] at h
      intro c hc
      rcases List.mem_cons.1 hc with rfl | hc
      · exact ⟨f, g1, h1⟩
      · exact ih h c hc
theorem closML_none {k x y : Int} (hk : ∀ j, bindA k x y j = []) : ∀ {us : List Co} {j : Nat} {f : Int → Int}, closML k x y j us f = true → ∀ c ∈ us, closM c f = true
  | [], _, _, _, c, hc => by cases hc
  | a :: us, j, f, h, c, hc => by
    rw [closML, hk j] at h
    obtain ⟨h1, h2⟩ := plain_false h
    rcases List.mem_cons.1 hc with rfl | hc
    · exact h1
    · exact closML_none hk h2 c hc
theorem fit_of : ∀ (N : Nat) (c : Co), SizeOf.sizeOf c ≤ N → ∀ (d : Int) (f g h : Int → Int) (ds : List Int), goodM c d f = some g → closM c h = true → Reads h ds → Fit ds c := by
  intro N
  induction N with
  | zero => intro c hc; cases c; simp at hc
  | succ N ih =>
    intro c hN d f g h ds hg hc hr
    obtain ⟨k, x, y, n, i, ts, us⟩ := c
    rw [goodM] at hg
    by_cases hf : 1024 < d ∨ formB k x y n i ts us.length = false
    · rw [if_pos hf] at hg; cases hg
    rw [if_neg hf] at hg
    have hF : formB k x y n i ts us.length = true := by
      cases h9 : formB k x y n i ts us.length with
      | true => rfl
      | false => exact absurd (.inr h9) hf
    cases ha : addM (bindL k x y) f with
    | none => rw [ha] at hg; cases hg
    | some g1 =>
    rw [ha] at hg
    simp only at hg
    rw [closM] at hc
    obtain ⟨hc1, hc2⟩ := plain_false hc
    have hsz : ∀ c ∈ us, SizeOf.sizeOf c ≤ N := fun c hm => by have := List.sizeOf_lt_of_mem hm; simp at hN; omega
    have hgm := goodML_mem hg
    have key : ∀ c ∈ us, ∀ (h' : Int → Int) (ds' : List Int), closM c h' = true → Reads h' ds' → Fit ds' c := fun c hm h' ds' hc' hr' => by
      obtain ⟨f1, g1, hg1⟩ := hgm c hm
      exact ih c (hsz c hm) _ f1 g1 h' ds' hg1 hc' hr'
    have hnone : (∀ j, bindA k x y j = []) → ∀ c ∈ us, Fit ds c := fun hb c hm => key c hm h ds (closML_none hb hc2 c hm) hr
    unfold formB at hF
    by_cases h1 : k = 1
    · subst h1
      rw [if_pos rfl] at hF
      obtain ⟨hF1, _⟩ := plain_false hF
      have hl : us = [] := List.length_eq_zero_iff.1 (of_decide_eq_true hF1).1
      subst hl
      refine .var (hr x ?_)
      simpa using hc1
    rw [if_neg h1] at hF
    by_cases h2 : k = 2
    · subst h2
      rw [if_pos rfl] at hF
      obtain ⟨hF1, _⟩ := plain_false hF
      have hl : us = [] := List.length_eq_zero_iff.1 (of_decide_eq_true (plain_false hF1).1).1
      subst hl
      exact .int
    rw [if_neg h2] at hF
    by_cases h3 : k = 3
    · subst h3
      rw [if_pos rfl] at hF
      have hl := (of_decide_eq_true (plain_false hF).1).1
      match us, hl with
      | [b], _ =>
        rw [closML] at hc2
        exact .lam (key b (by simp) _ _ (plain_false hc2).1 (reads_up hr x))
    rw [if_neg h3] at hF
    by_cases h4 : k = 4
    · subst h4
      rw [if_pos rfl] at hF
      have hl := (of_decide_eq_true (plain_false hF).1).1
      have hn := hnone (fun j => by simp [bindA])
      match us, hl with
      | [a, b], _ => exact .app (hn a (by simp)) (hn b (by simp))
    rw [if_neg h4] at hF
    by_cases h5 : k = 5
    · subst h5
      rw [if_pos rfl] at hF
      have hl := (of_decide_eq_true (plain_false hF).1).1
      match us, hl with
      | [a, b], _ =>
        rw [closML, closML] at hc2
        obtain ⟨q1, q2⟩ := plain_false hc2
        exact .let_ (key a (by simp) _ _ q1 hr) (key b (by simp) _ _ (plain_false q2).1 (reads_up hr x))
    rw [if_neg h5] at hF
    by_cases h6 : k = 6
    · subst h6
      rw [if_pos rfl] at hF
      have hl := (of_decide_eq_true (plain_false hF).1).1
      have hx : 0 < x := by
        have hb : bindL 6 x y = [x, y] := rfl
        rw [hb, addM] at ha
        by_cases h9 : 1 < f x + 1 ∨ x < 1 ∨ 65536 < x
        · rw [if_pos h9] at ha; cases ha
        · omega
      match us, hl with
      | [a, b], _ =>
        rw [closML, closML] at hc2
        obtain ⟨q1, q2⟩ := plain_false hc2
        exact .rec_ hx (key a (by simp) _ _ q1 (reads_up (reads_up hr x) y)) (key b (by simp) _ _ (plain_false q2).1 (reads_up hr x))
    rw [if_neg h6] at hF
    have hn := hnone (fun j => by simp [bindA, h3, h5, h6])
    by_cases h7 : k = 7
    · subst h7
      exact .con (by rw [if_pos rfl] at hF; have := (of_decide_eq_true (plain_false hF).1).1; omega) hn
    rw [if_neg h7] at hF
    by_cases h8 : k = 8
    · subst h8
      rw [if_pos rfl] at hF
      have hl := of_decide_eq_true (plain_false hF).1
      match us, hl with
      | [a], hl => exact .field hl.2.2.2.1 (hn a (by simp))
    rw [if_neg h8] at hF
    by_cases h9 : k = 9
    · subst h9
      rw [if_pos rfl] at hF
      have hl := (plain_false hF).2
      unfold taggedB at hl
      have hl2 := (of_decide_eq_true (plain_false hl).1).1
      match us, hl2 with
      | a :: us, _ => exact .sw (hn a (by simp)) (fun c hm => hn c (by simp [hm]))
    rw [if_neg h9] at hF
    by_cases h10 : k = 10
    · subst h10
      rw [if_pos rfl] at hF
      have hl := of_decide_eq_true (plain_false hF).1
      match us, hl with
      | [a, b], hl => exact .prim hl.2.2.2.1 hl.2.2.2.2 (hn a (by simp)) (hn b (by simp))
    rw [if_neg h10] at hF
    by_cases h11 : k = 11
    · subst h11
      rw [if_pos rfl] at hF
      have hl := of_decide_eq_true (plain_false hF).1
      match us, hl with
      | [a], hl => exact .print (hn a (by simp))
    rw [if_neg h11] at hF
    cases hF
theorem good_fit {c : Co} (h : goodB c = true) : Fit [] c ∧ nodes c ≤ 65536 := by
  unfold goodB at h
  obtain ⟨h1, h2⟩ := plain_false h
  obtain ⟨h0, h1⟩ := plain_false h1
  obtain ⟨g, hg⟩ := Option.isSome_iff_exists.1 h1
  exact ⟨fit_of _ c (Nat.le_refl _) 1 _ g _ [] hg h2 (fun x hx => absurd rfl hx), of_decide_eq_true h0⟩
end Ev
end Go.Proofs.Ytdmkjndlobichaa
