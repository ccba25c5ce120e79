/-
  EVAL, PLAIN: with more fuel.
-/
import Derived.Test.YtdmkjndlobichaaEvQ
namespace Go.Proofs.Ytdmkjndlobichaa
set_option linter.all false
namespace Ev

section
variable {α β : Type}
def Mono (r : Nat → R α) : Prop := ∀ g, Le (r g) (r (g + 1))
theorem Mono.le {r : Nat → R α} (h : Mono r) {g g' : Nat} (hg : g ≤ g') : Le (r g) (r g') := by
  induction g' with
  | zero => obtain rfl : g = 0 := by omega
            exact Le.refl _
  | succ k ih =>
    by_cases h9 : g = k + 1
    · subst h9; exact Le.refl _
    · exact fun y hy => h k y (ih (by omega) y hy)
theorem Mono.one {r : Nat → R α} (h : Mono r) {g g' : Nat} {y y' : Out α × Nat × List Int} (h1 : r g = some y) (h2 : r g' = some y') : y = y' := by
  have a := h.le (Nat.le_max_left g g') y h1
  have b := h.le (Nat.le_max_right g g') y' h2
  rw [a] at b
  exact Option.some.inj b
/-- What r tells is told with more fuel, too, unless the fuel was used up; then the writes go on. -/
def Fu (r : R α) (r' : Nat → R α) : Prop := ∀ o s' w', r = some (o, s', w') → (o ≠ .stop 3 → ∃ g, r' g = some (o, s', w')) ∧ (o = .stop 3 → ∀ g o2 s2 w2, r' g = some (o2, s2, w2) → w' <+: w2)
theorem Fu.z (r' : Nat → R α) : Fu none r' := fun _ _ _ h => by cases h
theorem Fu.now {o : Out α} {s : Nat} {w : List Int} (h : o ≠ .stop 3) : Fu (some (o, s, w)) (fun _ => some (o, s, w)) := fun o' s' w' hy => by
  injection hy with hy
  injection hy with a1 hy
  injection hy with a2 a3
  subst a1 a2 a3
  exact ⟨fun _ => ⟨0, rfl⟩, fun h9 => absurd h9 h⟩
theorem Fu.b {r : R α} {r' : Nat → R α} {k : α → Nat → List Int → R β} {k' : Nat → α → Nat → List Int → R β} {F F' s : Nat} {w : List Int} (hm : Mono r') (hkm : ∀ a s w, Mono (fun g => k' g a s w)) (hG : ∀ g a s w, Grows F' s w (k' g a s w)) (hs : s ≤ F) (hgr : Grows F s w r) (h : Fu r r')
    (hk : ∀ a s1 w1, s1 ≤ F → Fu (k a s1 w1) (fun g => k' g a s1 w1)) : Fu (bnd r k) (fun g => bnd (r' g) (k' g)) := by
  intro o s' w' hy
  rcases bnd_some hy with ⟨e, h1, rfl⟩ | ⟨a, s1, w1, h1, h2⟩
  · obtain ⟨p, q⟩ := h _ _ _ h1
    refine ⟨fun hne => ?_, fun he g o2 s2 w2 hy2 => ?_⟩
    · obtain ⟨g, hg⟩ := p (fun h9 => hne (by injection h9 with h9; rw [h9]))
      exact ⟨g, bnd_stop hg⟩
    · have he2 : (Out.stop e : Out α) = .stop 3 := by injection he with he; rw [he]
      rcases bnd_some hy2 with ⟨e2, h3, _⟩ | ⟨a, s1, w1, h3, h4⟩
      · exact q he2 _ _ _ _ h3
      · exact (q he2 _ _ _ _ h3).trans (hG _ _ _ _ _ _ _ h4).pre
  · obtain ⟨g, hg⟩ := (h _ _ _ h1).1 (fun h9 => by cases h9)
    obtain ⟨p, q⟩ := hk a s1 w1 ((hgr _ _ _ h1).fuel hs) _ _ _ h2
    refine ⟨fun hne => ?_, fun he g2 o2 s2 w2 hy2 => ?_⟩
    · obtain ⟨g2, hg2⟩ := p hne
      refine ⟨max g g2, ?_⟩
      have e1 := hm.le (Nat.le_max_left g g2) _ hg
      have e2 := (hkm a s1 w1).le (Nat.le_max_right g g2) _ hg2
      simp only
      rw [bnd_ok e1]
      exact e2
    · rcases bnd_some hy2 with ⟨e2, h3, _⟩ | ⟨a2, s3, w3, h3, h4⟩
      · have := hm.one hg h3
        cases this
      · have := hm.one hg h3
        injection this with t1 t2
        injection t1 with t1
        injection t2 with t2 t3
        subst t1 t2 t3
        exact q he _ _ _ _ h4
end
theorem Mono.r1 (F : Nat) (c : Co) (e : En) (s : Nat) (w : List Int) : Mono (fun g => ev F g c e s w) := fun g => ev_succ F g c e s w
theorem Mono.rL (F : Nat) (cs : List Co) (e : En) (s : Nat) (w : List Int) : Mono (fun g => evL (fun c s w => ev F g c e s w) cs s w) := fun g => Le.evL (fun c s w => ev_succ F g c e s w) cs s w
theorem Mono.rA (F : Nat) (vf va : Va) (s : Nat) (w : List Int) : Mono (fun g => app F (Ev.ev F g) vf va s w) := fun g => Le.app (fun c e s w => ev_succ F g c e s w) vf va s w
theorem Mono.rC {α : Type} (r : R α) : Mono (fun _ => r) := fun _ => Le.refl _
theorem gr_evL (F g : Nat) (cs : List Co) (e : En) (s : Nat) (w : List Int) : Grows F s w (evL (fun c s w => ev F g c e s w) cs s w) := Grows.evL (fun c s w => ev_grows F g c e s w) cs s w
theorem gr_app (F g : Nat) (vf va : Va) (s : Nat) (w : List Int) : Grows F s w (app F (ev F g) vf va s w) := Grows.app (fun c e s w => ev_grows F g c e s w) vf va s w
section
variable {F F' : Nat} (hF : F ≤ F')
/-- All evaluations with so much room. -/
def FuA (F F' g : Nat) : Prop := ∀ c e s w, s ≤ F → Fu (ev F g c e s w) (fun g' => ev F' g' c e s w)
theorem Fu.rL {g : Nat} (h : FuA F F' g) (e : En) : ∀ cs s w, s ≤ F → Fu (evL (fun c s w => ev F g c e s w) cs s w) (fun g' => evL (fun c s w => ev F' g' c e s w) cs s w)
  | [], s, w, _ => Fu.now (fun h => by cases h)
  | c :: cs, s, w, hs => by
    simp only [evL]
    by_cases h9 : cs.length < 900000
    · simp only [if_pos h9]
      exact Fu.b (F := F) (F' := F') (Mono.r1 F' c e s w) (fun a s1 w1 g' => Le.bnd (Mono.rL F' cs e s1 w1 g') (fun _ _ _ => Le.refl _)) (fun g' a s1 w1 => Grows.bnd (gr_evL F' g' cs e s1 w1) (fun _ _ _ => Grows.now)) hs (ev_grows F g c e s w) (h c e s w hs)
          (fun a s1 w1 h1 => Fu.b (F := F) (F' := F') (Mono.rL F' cs e s1 w1) (fun _ _ _ => Mono.rC _) (fun _ _ _ _ => Grows.now) h1 (gr_evL F g cs e s1 w1) (Fu.rL h e cs s1 w1 h1) (fun _ _ _ _ => Fu.now (fun h => by cases h)))
    · simp only [if_neg h9]
      intro o s' w' hy
      cases hy
theorem Fu.rA (hF : F ≤ F') {g : Nat} (h : FuA F F' g) (vf va : Va) (s : Nat) (w : List Int) (hs : s ≤ F) : Fu (app F (ev F g) vf va s w) (fun g' => app F' (ev F' g') vf va s w) := by
  by_cases h1 : s = F
  · have e1 : Ev.app F (ev F g) vf va s w = some (.stop 3, s, w) := by unfold Ev.app; rw [if_pos h1]
    rw [e1]
    intro o s' w' hy
    injection hy with hy
    injection hy with a1 hy
    injection hy with a2 a3
    subst a1 a2 a3
    exact ⟨fun h9 => absurd rfl h9, fun _ g2 o2 s2 w2 hy2 => (gr_app F' g2 vf va s w _ _ _ hy2).pre⟩
  · have h2 : s ≠ F' := by omega
    cases vf with
    | clo x self b e =>
      have e1 : ∀ (F : Nat) (g : Nat), s ≠ F → Ev.app F (ev F g) (.clo x self b e) va s w = ev F g b (.bind x va (around x self b e)) (s + 1) w := fun F g h => by unfold Ev.app; rw [if_neg h]
      rw [e1 F g h1, funext (fun g' => e1 F' g' h2)]
      exact h _ _ _ _ (by omega)
    | num n =>
      have e1 : ∀ (F : Nat) (g : Nat), s ≠ F → Ev.app F (ev F g) (.num n) va s w = some (.stop (-1), s + 1, w) := fun F g h => by unfold Ev.app; rw [if_neg h]
      rw [e1 F g h1, funext (fun g' => e1 F' g' h2)]
      exact Fu.now (fun h => by injection h with h; omega)
    | con t us =>
      have e1 : ∀ (F : Nat) (g : Nat), s ≠ F → Ev.app F (ev F g) (.con t us) va s w = some (.stop (-1), s + 1, w) := fun F g h => by unfold Ev.app; rw [if_neg h]
      rw [e1 F g h1, funext (fun g' => e1 F' g' h2)]
      exact Fu.now (fun h => by injection h with h; omega)
end
theorem Fu.rF (n : Int) (s : Nat) (w : List Int) (vs : List Va) : Fu (field n s w vs) (fun _ => field n s w vs) := by
  unfold Ev.field
  split
  · split
    · exact Fu.now (fun h => by cases h)
    · exact Fu.now (fun h => by injection h with h; omega)
  · exact Fu.now (fun h => by injection h with h; omega)
  · exact Fu.z _
theorem Fu.rP (n : Int) (s : Nat) (w : List Int) (vs : List Va) : Fu (prim n s w vs) (fun _ => prim n s w vs) := by
  unfold Ev.prim
  split
  · split
    · exact Fu.now (fun h => by cases h)
    · exact Fu.now (fun h => by injection h with h; omega)
  · exact Fu.now (fun h => by injection h with h; omega)
  · exact Fu.z _
theorem Fu.rT (s : Nat) (w : List Int) (vs : List Va) : Fu (tell s w vs) (fun _ => tell s w vs) := by
  unfold Ev.tell
  split
  · split
    · exact Fu.now (fun h => by injection h with h; omega)
    · exact Fu.now (fun h => by cases h)
  · exact Fu.now (fun h => by injection h with h; omega)
  · exact Fu.z _
theorem Fu.rW {F F' : Nat} {g : Nat} (h : FuA F F' g) (i : Bool) (ts : List Int) (us : List Co) (e : En) (v : Va) (s : Nat) (w : List Int) (hs : s ≤ F) : Fu (sw (ev F g) i ts us e v s w) (fun g' => sw (ev F' g') i ts us e v s w) := by
  unfold Ev.sw
  cases arm i ts us v with
  | none => exact Fu.now (fun h => by injection h with h; omega)
  | some c => exact h c e s w hs
theorem Fu.same {α : Type} {r : R α} {p : Prop} [Decidable p] (h : Fu r (fun _ => r)) : Fu (if p then r else none) (fun _ => if p then r else none) := by
  split
  · exact h
  · exact Fu.z _
theorem Fu.rS {F F' : Nat} (hF : F ≤ F') {g : Nat} (h : FuA F F' g) (c : Co) (e : En) (s : Nat) (w : List Int) (hs : s ≤ F) : Fu (evS F (ev F g) c e s w) (fun g' => evS F' (ev F' g') c e s w) := by
  obtain ⟨k, x, y, n, i, ts, us⟩ := c
  have hL := fun e cs s w hs => Fu.rL h e cs s w hs
  unfold Ev.evS
  dsimp only
  by_cases h1 : k = 1
  · simp only [if_pos h1]
    split
    · exact Fu.now (fun h => by cases h)
    · exact Fu.z _
  simp only [if_neg h1]
  by_cases h2 : k = 2
  · simp only [if_pos h2]
    split
    · exact Fu.now (fun h => by cases h)
    · exact Fu.z _
  simp only [if_neg h2]
  by_cases h3 : k = 3
  · simp only [if_pos h3]
    split
    · exact Fu.now (fun h => by cases h)
    · exact Fu.z _
  simp only [if_neg h3]
  by_cases h4 : k = 4
  · simp only [if_pos h4]
    split
    · rename_i a b
      exact Fu.b (F := F) (F' := F') (Mono.r1 F' a e s w) (fun vf s1 w1 g' => Le.bnd (Mono.r1 F' b e s1 w1 g') (fun va s2 w2 => Mono.rA F' vf va s2 w2 g')) (fun g' vf s1 w1 => Grows.bnd (ev_grows F' g' b e s1 w1) (fun va s2 w2 => gr_app F' g' vf va s2 w2)) hs (ev_grows F g a e s w) (h a e s w hs)
        (fun vf s1 w1 h1 => Fu.b (F := F) (F' := F') (Mono.r1 F' b e s1 w1) (fun va s2 w2 => Mono.rA F' vf va s2 w2) (fun g' va s2 w2 => gr_app F' g' vf va s2 w2) h1 (ev_grows F g b e s1 w1) (h b e s1 w1 h1) (fun va s2 w2 h2 => Fu.rA hF h vf va s2 w2 h2))
    · exact Fu.z _
  simp only [if_neg h4]
  by_cases h5 : k = 5
  · simp only [if_pos h5]
    split
    · rename_i a b
      exact Fu.b (F := F) (F' := F') (Mono.r1 F' a e s w) (fun v s1 w1 => Mono.r1 F' b (.bind x v e) s1 w1) (fun g' v s1 w1 => ev_grows F' g' b (.bind x v e) s1 w1) hs (ev_grows F g a e s w) (h a e s w hs) (fun v s1 w1 h1 => h b (.bind x v e) s1 w1 h1)
    · exact Fu.z _
  simp only [if_neg h5]
  by_cases h6 : k = 6
  · simp only [if_pos h6]
    split
    · split
      · exact h _ _ _ _ hs
      · exact Fu.z _
    · exact Fu.z _
  simp only [if_neg h6]
  by_cases h7 : k = 7
  · simp only [if_pos h7]
    exact Fu.b (F := F) (F' := F') (Mono.rL F' us e s w) (fun _ _ _ => Mono.rC _) (fun _ _ _ _ => Grows.now) hs (gr_evL F g us e s w) (hL e us s w hs) (fun vs s1 w1 h1 => Fu.now (fun h => by cases h))
  simp only [if_neg h7]
  by_cases h8 : k = 8
  · simp only [if_pos h8]
    refine Fu.b (F := F) (F' := F') (Mono.rL F' us e s w) (fun _ _ _ => Mono.rC _) (fun _ vs s1 w1 => ?_) hs (gr_evL F g us e s w) (hL e us s w hs) (fun vs s1 w1 h1 => Fu.same (Fu.rF n s1 w1 vs))
    split
    · exact Grows.field _ _
    · exact Grows.none
  simp only [if_neg h8]
  by_cases h9 : k = 9
  · simp only [if_pos h9]
    split
    · rename_i a us
      exact Fu.b (F := F) (F' := F') (Mono.r1 F' a e s w) (fun v s1 w1 g' => Le.sw (fun c e s w => ev_succ F' g' c e s w) i ts us e v s1 w1) (fun g' v s1 w1 => Grows.sw (fun c e s w => ev_grows F' g' c e s w) i ts us e v s1 w1) hs (ev_grows F g a e s w) (h a e s w hs) (fun v s1 w1 h1 => Fu.rW h i ts us e v s1 w1 h1)
    · exact Fu.z _
  simp only [if_neg h9]
  by_cases h10 : k = 10
  · simp only [if_pos h10]
    refine Fu.b (F := F) (F' := F') (Mono.rL F' us e s w) (fun _ _ _ => Mono.rC _) (fun _ vs s1 w1 => ?_) hs (gr_evL F g us e s w) (hL e us s w hs) (fun vs s1 w1 h1 => Fu.same (Fu.rP n s1 w1 vs))
    split
    · exact Grows.prim _ _
    · exact Grows.none
  simp only [if_neg h10]
  by_cases h11 : k = 11
  · simp only [if_pos h11]
    exact Fu.b (F := F) (F' := F') (Mono.rL F' us e s w) (fun _ _ _ => Mono.rC _) (fun _ vs s1 w1 => Grows.tell _) hs (gr_evL F g us e s w) (hL e us s w hs) (fun vs s1 w1 h1 => Fu.rT s1 w1 vs)
  simp only [if_neg h11]
  exact Fu.z _
theorem ev_fuel {F F' : Nat} (hF : F ≤ F') : ∀ g, FuA F F' g
  | 0 => fun _ _ _ _ _ => Fu.z _
  | g + 1 => fun c e s w hs => by
    have h := Fu.rS hF (ev_fuel hF g) c e s w hs
    intro o s' w' hy
    obtain ⟨p, q⟩ := h o s' w' hy
    refine ⟨fun hne => ?_, fun he g2 o2 s2 w2 hy2 => ?_⟩
    · obtain ⟨g2, hg2⟩ := p hne
      exact ⟨g2 + 1, hg2⟩
    · cases g2 with
      | zero => cases hy2
      | succ g2 => exact q he g2 o2 s2 w2 hy2
end Ev
end Go.Proofs.Ytdmkjndlobichaa
