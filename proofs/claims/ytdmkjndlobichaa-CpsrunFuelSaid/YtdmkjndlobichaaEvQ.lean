/-
  EVAL, PLAIN: more room to reckon changes nothing; steps and writes grow; more fuel.
-/
import Derived.Test.YtdmkjndlobichaaEvP
namespace Go.Proofs.Ytdmkjndlobichaa
set_option linter.all false
namespace Ev

section mono
variable {α β : Type}
/-- What r tells, r' tells. -/
def Le (r r' : R α) : Prop := ∀ y, r = some y → r' = some y
theorem Le.refl (r : R α) : Le r r := fun _ h => h
theorem Le.bnd {r r' : R α} {k k' : α → Nat → List Int → R β} (h : Le r r') (hk : ∀ a s w, Le (k a s w) (k' a s w)) : Le (bnd r k) (bnd r' k') := by
  intro y hy
  match r, h, hy with
  | none, _, hy => cases hy
  | some (.stop e, s, w), h, hy => rw [h _ rfl]; exact hy
  | some (.ok a, s, w), h, hy => rw [h _ rfl]; exact hk a s w y hy
end mono
theorem Le.evL {f f' : Co → Nat → List Int → R Va} (h : ∀ c s w, Le (f c s w) (f' c s w)) : ∀ cs s w, Le (evL f cs s w) (evL f' cs s w)
  | [], _, _ => Le.refl _
  | c :: cs, s, w => by
    rw [Ev.evL, Ev.evL]
    by_cases h9 : cs.length < 900000
    · rw [if_pos h9, if_pos h9]; exact Le.bnd (h c s w) (fun _ s1 w1 => Le.bnd (Le.evL h cs s1 w1) (fun _ _ _ => Le.refl _))
    · rw [if_neg h9, if_neg h9]; exact Le.refl _
theorem Le.app {F : Nat} {f f' : Co → En → Nat → List Int → R Va} (h : ∀ c e s w, Le (f c e s w) (f' c e s w)) (vf va : Va) (s : Nat) (w : List Int) : Le (app F f vf va s w) (app F f' vf va s w) := by
  unfold Ev.app
  split
  · exact Le.refl _
  · cases vf with
    | clo x self b e => exact h _ _ _ _
    | num n => exact Le.refl _
    | con t us => exact Le.refl _
theorem Le.sw {f f' : Co → En → Nat → List Int → R Va} (h : ∀ c e s w, Le (f c e s w) (f' c e s w)) (i : Bool) (ts : List Int) (us : List Co) (e : En) (v : Va) (s : Nat) (w : List Int) : Le (Ev.sw f i ts us e v s w) (Ev.sw f' i ts us e v s w) := by
  unfold Ev.sw
  cases arm i ts us v with
  | none => exact Le.refl _
  | some c => exact h _ _ _ _
theorem Le.evS {F : Nat} {f f' : Co → En → Nat → List Int → R Va} (h : ∀ c e s w, Le (f c e s w) (f' c e s w)) (c : Co) (e : En) (s : Nat) (w : List Int) : Le (evS F f c e s w) (evS F f' c e s w) := by
  obtain ⟨k, x, y, n, i, ts, us⟩ := c
  have hL : ∀ us s w, Le (Ev.evL (fun c s w => f c e s w) us s w) (Ev.evL (fun c s w => f' c e s w) us s w) := Le.evL (fun c s w => h c e s w)
  unfold Ev.evS
  dsimp only
  by_cases h1 : k = 1
  · rw [if_pos h1, if_pos h1]; exact Le.refl _
  rw [if_neg h1, if_neg h1]
  by_cases h2 : k = 2
  · rw [if_pos h2, if_pos h2]; exact Le.refl _
  rw [if_neg h2, if_neg h2]
  by_cases h3 : k = 3
  · rw [if_pos h3, if_pos h3]; exact Le.refl _
  rw [if_neg h3, if_neg h3]
  by_cases h4 : k = 4
  · rw [if_pos h4, if_pos h4]
    rcases us with _ | ⟨a, _ | ⟨b, _ | ⟨c, us⟩⟩⟩
    · exact Le.refl _
    · exact Le.refl _
    · exact Le.bnd (h _ _ _ _) (fun _ _ _ => Le.bnd (h _ _ _ _) (fun _ _ _ => Le.app h _ _ _ _))
    · exact Le.refl _
  rw [if_neg h4, if_neg h4]
  by_cases h5 : k = 5
  · rw [if_pos h5, if_pos h5]
    rcases us with _ | ⟨a, _ | ⟨b, _ | ⟨c, us⟩⟩⟩
    · exact Le.refl _
    · exact Le.refl _
    · exact Le.bnd (h _ _ _ _) (fun _ _ _ => h _ _ _ _)
    · exact Le.refl _
  rw [if_neg h5, if_neg h5]
  by_cases h6 : k = 6
  · rw [if_pos h6, if_pos h6]
    rcases us with _ | ⟨a, _ | ⟨b, _ | ⟨c, us⟩⟩⟩
    · exact Le.refl _
    · exact Le.refl _
    · by_cases hx : 0 < x
      · simp only [if_pos hx]; exact h _ _ _ _
      · simp only [if_neg hx]; exact Le.refl _
    · exact Le.refl _
  rw [if_neg h6, if_neg h6]
  by_cases h7 : k = 7
  · rw [if_pos h7, if_pos h7]; exact Le.bnd (hL _ _ _) (fun _ _ _ => Le.refl _)
  rw [if_neg h7, if_neg h7]
  by_cases h8 : k = 8
  · rw [if_pos h8, if_pos h8]; exact Le.bnd (hL _ _ _) (fun _ _ _ => Le.refl _)
  rw [if_neg h8, if_neg h8]
  by_cases h9 : k = 9
  · rw [if_pos h9, if_pos h9]
    rcases us with _ | ⟨a, us⟩
    · exact Le.refl _
    · exact Le.bnd (h _ _ _ _) (fun v s1 w1 => Le.sw h i ts us e v s1 w1)
  rw [if_neg h9, if_neg h9]
  by_cases h10 : k = 10
  · rw [if_pos h10, if_pos h10]; exact Le.bnd (hL _ _ _) (fun _ _ _ => Le.refl _)
  rw [if_neg h10, if_neg h10]
  by_cases h11 : k = 11
  · rw [if_pos h11, if_pos h11]; exact Le.bnd (hL _ _ _) (fun _ _ _ => Le.refl _)
  rw [if_neg h11, if_neg h11]
  exact Le.refl _
theorem ev_succ (F : Nat) : ∀ g c e s w, Le (ev F g c e s w) (ev F (g + 1) c e s w)
  | 0, _, _, _, _ => fun y h => by cases h
  | g + 1, c, e, s, w => Le.evS (fun c e s w => ev_succ F g c e s w) c e s w
theorem ev_le (F : Nat) {g g' : Nat} (hg : g ≤ g') (c : Co) (e : En) (s : Nat) (w : List Int) : Le (ev F g c e s w) (ev F g' c e s w) := by
  induction g' with
  | zero => obtain rfl : g = 0 := by omega
            exact Le.refl _
  | succ k ih =>
    by_cases h : g = k + 1
    · subst h; exact Le.refl _
    · intro y hy
      exact ev_succ F k c e s w y (ih (by omega) y hy)
theorem ev_one {F g g' : Nat} {c : Co} {e : En} {s : Nat} {w : List Int} {y y' : Out Va × Nat × List Int} (h : ev F g c e s w = some y) (h' : ev F g' c e s w = some y') : y = y' := by
  have h1 := ev_le F (Nat.le_max_left g g') c e s w y h
  have h2 := ev_le F (Nat.le_max_right g g') c e s w y' h'
  rw [h1] at h2
  exact Option.some.inj h2

/-- Steps grow, and stay within the fuel; writes go on, and stay within the trace. -/
structure Gr (F s : Nat) (w : List Int) (s' : Nat) (w' : List Int) : Prop where
  le : s ≤ s'
  fuel : s ≤ F → s' ≤ F
  pre : w <+: w'
  long : w.length ≤ 4096 → w'.length ≤ 4096
theorem Gr.refl (F s : Nat) (w : List Int) : Gr F s w s w := ⟨Nat.le_refl _, id, List.prefix_refl _, id⟩
theorem Gr.trans {F s s1 s2 : Nat} {w w1 w2 : List Int} (h : Gr F s w s1 w1) (k : Gr F s1 w1 s2 w2) : Gr F s w s2 w2 := ⟨Nat.le_trans h.le k.le, fun x => k.fuel (h.fuel x), h.pre.trans k.pre, fun x => k.long (h.long x)⟩
def Grows {α : Type} (F s : Nat) (w : List Int) (r : R α) : Prop := ∀ o s' w', r = some (o, s', w') → Gr F s w s' w'
section
variable {α β : Type} {F s : Nat} {w : List Int}
theorem Grows.none : Grows F s w (none : R α) := fun _ _ _ h => by cases h
theorem Grows.now {o : Out α} : Grows F s w (some (o, s, w)) := fun _ _ _ h => by injection h with h; injection h with _ h; injection h with h1 h2; subst h1 h2; exact Gr.refl _ _ _
theorem Grows.bnd {r : R α} {k : α → Nat → List Int → R β} (h : Grows F s w r) (hk : ∀ a s1 w1, Grows F s1 w1 (k a s1 w1)) : Grows F s w (bnd r k) := by
  intro o s' w' hy
  rcases bnd_some hy with ⟨e, h1, _⟩ | ⟨a, s1, w1, h1, h2⟩
  · exact h _ _ _ h1
  · exact (h _ _ _ h1).trans (hk _ _ _ _ _ _ h2)
end
theorem Grows.evL {F : Nat} {f : Co → Nat → List Int → R Va} (h : ∀ c s w, Grows F s w (f c s w)) : ∀ cs s w, Grows F s w (evL f cs s w)
  | [], _, _ => Grows.now
  | c :: cs, s, w => by
    rw [Ev.evL]
    by_cases h9 : cs.length < 900000
    · rw [if_pos h9]; exact Grows.bnd (h c s w) (fun _ s1 w1 => Grows.bnd (Grows.evL h cs s1 w1) (fun _ _ _ => Grows.now))
    · rw [if_neg h9]; exact Grows.none
theorem Grows.app {F : Nat} {f : Co → En → Nat → List Int → R Va} (h : ∀ c e s w, Grows F s w (f c e s w)) (vf va : Va) (s : Nat) (w : List Int) : Grows F s w (app F f vf va s w) := by
  unfold Ev.app
  by_cases hs : s = F
  · rw [if_pos hs]; exact Grows.now
  · rw [if_neg hs]
    have h1 : Gr F s w (s + 1) w := ⟨by omega, by omega, List.prefix_refl _, id⟩
    cases vf with
    | clo x self b e => exact fun o s' w' hy => h1.trans (h _ _ _ _ _ _ _ hy)
    | num n => exact fun o s' w' hy => h1.trans (Grows.now _ _ _ hy)
    | con t us => exact fun o s' w' hy => h1.trans (Grows.now _ _ _ hy)
theorem Grows.field {F s : Nat} {w : List Int} (n : Int) (vs : List Va) : Grows F s w (field n s w vs) := by
  unfold Ev.field
  split
  · split <;> exact Grows.now
  · exact Grows.now
  · exact Grows.none
theorem Grows.prim {F s : Nat} {w : List Int} (n : Int) (vs : List Va) : Grows F s w (prim n s w vs) := by
  unfold Ev.prim
  split
  · split <;> exact Grows.now
  · exact Grows.now
  · exact Grows.none
theorem Grows.tell {F s : Nat} {w : List Int} (vs : List Va) : Grows F s w (tell s w vs) := by
  unfold Ev.tell
  split
  · split
    · exact Grows.now
    · rename_i a h
      intro o s' w' hy
      injection hy with hy; injection hy with _ hy; injection hy with h1 h2
      subst h1 h2
      exact ⟨Nat.le_refl _, id, List.prefix_append _ _, fun h9 => by simp; omega⟩
  · exact Grows.now
  · exact Grows.none
theorem Grows.sw {F : Nat} {f : Co → En → Nat → List Int → R Va} (h : ∀ c e s w, Grows F s w (f c e s w)) (i : Bool) (ts : List Int) (us : List Co) (e : En) (v : Va) (s : Nat) (w : List Int) : Grows F s w (Ev.sw f i ts us e v s w) := by
  unfold Ev.sw
  split
  · exact h _ _ _ _
  · exact Grows.now
theorem Grows.evS {F : Nat} {f : Co → En → Nat → List Int → R Va} (h : ∀ c e s w, Grows F s w (f c e s w)) (c : Co) (e : En) (s : Nat) (w : List Int) : Grows F s w (evS F f c e s w) := by
  obtain ⟨k, x, y, n, i, ts, us⟩ := c
  have hL : ∀ us s w, Grows F s w (Ev.evL (fun c s w => f c e s w) us s w) := Grows.evL (fun c s w => h c e s w)
  unfold Ev.evS
  dsimp only
  by_cases h1 : k = 1
  · rw [if_pos h1]
    split
    · exact Grows.now
    · exact Grows.none
  rw [if_neg h1]
  by_cases h2 : k = 2
  · rw [if_pos h2]
    split
    · exact Grows.now
    · exact Grows.none
  rw [if_neg h2]
  by_cases h3 : k = 3
  · rw [if_pos h3]
    split
    · exact Grows.now
    · exact Grows.none
  rw [if_neg h3]
  by_cases h4 : k = 4
  · rw [if_pos h4]
    split
    · exact Grows.bnd (h _ _ _ _) (fun _ _ _ => Grows.bnd (h _ _ _ _) (fun _ _ _ => Grows.app h _ _ _ _))
    · exact Grows.none
  rw [if_neg h4]
  by_cases h5 : k = 5
  · rw [if_pos h5]
    split
    · exact Grows.bnd (h _ _ _ _) (fun _ _ _ => h _ _ _ _)
    · exact Grows.none
  rw [if_neg h5]
  by_cases h6 : k = 6
  · rw [if_pos h6]
    split
    · split
      · exact h _ _ _ _
      · exact Grows.none
    · exact Grows.none
  rw [if_neg h6]
  by_cases h7 : k = 7
  · rw [if_pos h7]; exact Grows.bnd (hL _ _ _) (fun _ _ _ => Grows.now)
  rw [if_neg h7]
  by_cases h8 : k = 8
  · rw [if_pos h8]
    refine Grows.bnd (hL _ _ _) (fun vs s1 w1 => ?_)
    split
    · exact Grows.field _ _
    · exact Grows.none
  rw [if_neg h8]
  by_cases h9 : k = 9
  · rw [if_pos h9]
    split
    · exact Grows.bnd (h _ _ _ _) (fun v s1 w1 => Grows.sw h _ _ _ _ _ _ _)
    · exact Grows.none
  rw [if_neg h9]
  by_cases h10 : k = 10
  · rw [if_pos h10]
    refine Grows.bnd (hL _ _ _) (fun vs s1 w1 => ?_)
    split
    · exact Grows.prim _ _
    · exact Grows.none
  rw [if_neg h10]
  by_cases h11 : k = 11
  · rw [if_pos h11]; exact Grows.bnd (hL _ _ _) (fun _ _ _ => Grows.tell _)
  rw [if_neg h11]
  exact Grows.none
theorem ev_grows (F : Nat) : ∀ g c e s w, Grows F s w (ev F g c e s w)
  | 0, _, _, _, _ => Grows.none
  | g + 1, c, e, s, w => Grows.evS (fun c e s w => ev_grows F g c e s w) c e s w
end Ev
end Go.Proofs.Ytdmkjndlobichaa
