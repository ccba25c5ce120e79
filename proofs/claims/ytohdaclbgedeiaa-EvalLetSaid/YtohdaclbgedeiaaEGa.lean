/-
  EVAL, PLAIN: the same evaluation with more bound around, some steps later, behind other writes.
-/
import Derived.Test.YtohdaclbgedeiaaEFuelP
import Derived.Test.YtohdaclbgedeiaaEOpen
import Derived.WalkSpells
import Derived.Test.YtohdaclbgedeiaaEFormedAll
namespace Go.Proofs.Ytohdaclbgedeiaa
set_option linter.all false
namespace Ev
mutual
/-- The same value, but for what is bound around at the tails. -/
inductive RV : Va → Va → Prop
  | num {n : Int} : RV (.num n) (.num n)
  | con {t : Int} {us us' : List Va} : RVs us us' → RV (.con t us) (.con t us')
  | clo {x self : Int} {b : Co} {e e' : En} : RE e e' → RV (.clo x self b e) (.clo x self b e')
inductive RVs : List Va → List Va → Prop
  | nil : RVs [] []
  | cons {v v' : Va} {vs vs' : List Va} : RV v v' → RVs vs vs' → RVs (v :: vs) (v' :: vs')
inductive RE : En → En → Prop
  | nil {e' : En} : RE .nil e'
  | bind {x : Int} {v v' : Va} {e e' : En} : RV v v' → RE e e' → RE (.bind x v e) (.bind x v' e')
end
theorem find_rel : ∀ {e e' : En}, RE e e' → ∀ {x : Int} {v : Va}, e.find x = some v → ∃ v', e'.find x = some v' ∧ RV v v'
  | .nil, _, _, x, v, h => by simp [En.find] at h
  | .bind y u e, _, .bind hu he, x, v, h => by
    by_cases hx : y = x
    · rw [En.find, if_pos hx] at h
      injection h with h
      subst h
      exact ⟨_, by rw [En.find, if_pos hx], hu⟩
    · rw [En.find, if_neg hx] at h
      obtain ⟨v', h1, h2⟩ := find_rel he h
      exact ⟨v', by rw [En.find, if_neg hx]; exact h1, h2⟩
theorem rvs_len : ∀ {us us' : List Va}, RVs us us' → us'.length = us.length
  | _, _, .nil => rfl
  | _, _, .cons _ h => by simp [rvs_len h]
theorem rvs_get : ∀ {us us' : List Va}, RVs us us' → ∀ {i : Nat} {v : Va}, us[i]? = some v → ∃ v', us'[i]? = some v' ∧ RV v v'
  | _, _, .nil, i, v, h => by simp at h
  | _, _, .cons h1 h2, 0, v, h => by simp at h; subst h; exact ⟨_, by simp, h1⟩
  | _, _, .cons h1 h2, i + 1, v, h => by
    obtain ⟨v', h3, h4⟩ := rvs_get h2 (i := i) (by simpa using h)
    exact ⟨v', by simpa using h3, h4⟩
def RO {α : Type} (Rel : α → α → Prop) : Out α → Out α → Prop
  | .ok a, .ok b => Rel a b
  | .stop k, .stop l => k = l
  | _, _ => False
section
variable {α β : Type} {δ : Nat} {p : List Int}
def Sm (δ : Nat) (p : List Int) (Rel : α → α → Prop) (r r' : R α) : Prop := ∀ o s' w', r = some (o, s', w') → (p = [] ∨ p.length + w'.length < 4096) → ∃ o', r' = some (o', s' + δ, p ++ w') ∧ RO Rel o o'
theorem Sm.z {Rel : α → α → Prop} {r' : R α} : Sm δ p Rel none r' := fun _ _ _ h => by cases h
theorem Sm.ok {Rel : α → α → Prop} {a a' : α} {s : Nat} {w : List Int} (h : Rel a a') : Sm δ p Rel (some (.ok a, s, w)) (some (.ok a', s + δ, p ++ w)) := fun o s' w' hy _ => by
  injection hy with hy; injection hy with h1 hy; injection hy with h2 h3
  subst h1 h2 h3
  exact ⟨_, rfl, h⟩
theorem Sm.stop {Rel : α → α → Prop} {k : Int} {s : Nat} {w : List Int} : Sm δ p Rel (some (.stop k, s, w)) (some (.stop k, s + δ, p ++ w)) := fun o s' w' hy _ => by
  injection hy with hy; injection hy with h1 hy; injection hy with h2 h3
  subst h1 h2 h3
  exact ⟨_, rfl, rfl⟩
theorem Sm.bnd {Ra : α → α → Prop} {Rb : β → β → Prop} {r r' : R α} {k k' : α → Nat → List Int → R β} {F : Nat} (h : Sm δ p Ra r r') (hG : ∀ a s1 w1, Grows F s1 w1 (k a s1 w1)) (hk : ∀ a a' s1 w1, Ra a a' → Sm δ p Rb (k a s1 w1) (k' a' (s1 + δ) (p ++ w1))) : Sm δ p Rb (bnd r k) (bnd r' k') := by
  intro o s' w' hy hp
  rcases bnd_some hy with ⟨e, h1, rfl⟩ | ⟨a, s1, w1, h1, h2⟩
  · obtain ⟨o', h3, h4⟩ := h _ _ _ h1 hp
    cases o' with
    | ok a => exact h4.elim
    | stop e' =>
      have : e = e' := h4
      subst this
      exact ⟨.stop e, bnd_stop h3, rfl⟩
  · have hpre := (hG a s1 w1 _ _ _ h2).pre.length_le
    obtain ⟨o', h3, h4⟩ := h _ _ _ h1 (hp.imp id (fun h => by omega))
    cases o' with
    | stop e' => exact h4.elim
    | ok a' =>
      obtain ⟨o2, h5, h6⟩ := hk a a' s1 w1 h4 _ _ _ h2 hp
      exact ⟨o2, by rw [bnd_ok h3]; exact h5, h6⟩
end
section
variable {F δ : Nat} {p : List Int}
theorem Sm.evL {f f' : Co → Nat → List Int → R Va} (h : ∀ c s w, Sm δ p RV (f c s w) (f' c (s + δ) (p ++ w))) (hg : ∀ c s w, Grows F s w (f c s w)) : ∀ cs s w, Sm δ p RVs (evL f cs s w) (evL f' cs (s + δ) (p ++ w))
  | [], s, w => Sm.ok .nil
  | c :: cs, s, w => by
    rw [Ev.evL, Ev.evL]
    by_cases h9 : cs.length < 900000
    · rw [if_pos h9, if_pos h9]
      exact Sm.bnd (F := F) (h c s w) (fun a s1 w1 => Grows.bnd (Grows.evL hg cs s1 w1) (fun _ _ _ => Grows.now)) (fun a a' s1 w1 ha => Sm.bnd (F := F) (Sm.evL h hg cs s1 w1) (fun _ _ _ => Grows.now) (fun b b' s2 w2 hb => Sm.ok (.cons ha hb)))
    · rw [if_neg h9]; exact Sm.z
theorem Sm.field (n : Int) (s : Nat) (w : List Int) {vs vs' : List Va} (h : RVs vs vs') : Sm δ p RV (field n s w vs) (field n (s + δ) (p ++ w) vs') := by
  cases h with
  | nil => exact Sm.z
  | cons h1 h2 =>
    cases h2 with
    | cons _ _ => rename_i v v' _ _ _ _ _ _; cases h1 <;> exact Sm.z
    | nil =>
      cases h1 with
      | num => exact Sm.stop
      | clo _ => exact Sm.stop
      | con hu =>
        rename_i t us us'
        unfold Ev.field
        cases hx : us[n.toNat]? with
        | none =>
          have : us'[n.toNat]? = none := by rw [List.getElem?_eq_none_iff] at hx ⊢; rw [rvs_len hu]; exact hx
          simp only [hx, this]
          exact Sm.stop
        | some v =>
          obtain ⟨v', h3, h4⟩ := rvs_get hu hx
          simp only [hx, h3]
          exact Sm.ok h4
theorem Sm.prim (n : Int) (s : Nat) (w : List Int) {vs vs' : List Va} (h : RVs vs vs') : Sm δ p RV (prim n s w vs) (prim n (s + δ) (p ++ w) vs') := by
  cases h with
  | nil => exact Sm.z
  | cons h1 h2 =>
    cases h2 with
    | nil => cases h1 <;> exact Sm.z
    | cons h3 h4 =>
      cases h4 with
      | cons _ _ => cases h1 <;> cases h3 <;> exact Sm.z
      | nil =>
        cases h1 with
        | con _ => exact Sm.stop
        | clo _ => exact Sm.stop
        | num =>
          cases h3 with
          | con _ => exact Sm.stop
          | clo _ => exact Sm.stop
          | num =>
            rename_i a b
            unfold Ev.prim
            by_cases hd : dok n b = true
            · simp only [hd, if_true]
              refine Sm.ok ?_
              split
              · exact .num
              · exact .con .nil
            · simp only [hd]
              exact Sm.stop
theorem Sm.tell (s : Nat) (w : List Int) {vs vs' : List Va} (h : RVs vs vs') : Sm δ p RV (tell s w vs) (tell (s + δ) (p ++ w) vs') := by
  cases h with
  | nil => exact Sm.z
  | cons h1 h2 =>
    cases h2 with
    | cons _ _ => cases h1 <;> exact Sm.z
    | nil =>
      cases h1 with
      | con _ => exact Sm.stop
      | clo _ => exact Sm.stop
      | num =>
        rename_i a
        unfold Ev.tell
        intro o s' w' hy hp
        dsimp only at hy ⊢
        by_cases hw : w.length = 4096
        · rw [if_pos hw] at hy
          injection hy with hy; injection hy with h1 hy; injection hy with h2 h3
          subst h1 h2 h3
          rcases hp with rfl | hp
          · exact ⟨.stop 4, by rw [if_pos (by simpa using hw)], rfl⟩
          · omega
        · rw [if_neg hw] at hy
          injection hy with hy; injection hy with h1 hy; injection hy with h2 h3
          subst h1 h2 h3
          refine ⟨.ok (.con 0 []), ?_, .con .nil⟩
          rw [if_neg (by
            rcases hp with rfl | hp
            · simpa using hw
            · simp at hp ⊢; omega), List.append_assoc]
theorem arm_rel (i : Bool) (ts : List Int) (us : List Co) {v v' : Va} (h : RV v v') : arm i ts us v' = arm i ts us v := by
  cases h <;> rfl
theorem Sm.app {f f' : Co → En → Nat → List Int → R Va} (h : ∀ c e e' s w, RE e e' → Sm δ p RV (f c e s w) (f' c e' (s + δ) (p ++ w))) {vf vf' va va' : Va} (hf : RV vf vf') (ha : RV va va') (s : Nat) (w : List Int) : Sm δ p RV (app F f vf va s w) (app (F + δ) f' vf' va' (s + δ) (p ++ w)) := by
  unfold Ev.app
  by_cases hs : s = F
  · rw [if_pos hs, if_pos (by omega)]; exact Sm.stop
  · rw [if_neg hs, if_neg (by omega)]
    cases hf with
    | num => rw [show s + δ + 1 = s + 1 + δ by omega]; exact Sm.stop
    | con _ => rw [show s + δ + 1 = s + 1 + δ by omega]; exact Sm.stop
    | clo he =>
      rename_i x self b e e'
      show Sm δ p RV (f b (.bind x va (around x self b e)) (s + 1) w) (f' b (.bind x va' (around x self b e')) (s + δ + 1) (p ++ w))
      rw [show s + δ + 1 = s + 1 + δ by omega]
      refine h _ _ _ _ _ (.bind ha ?_)
      unfold around
      by_cases h9 : 0 < self
      · rw [if_pos h9, if_pos h9]; exact .bind (.clo he) he
      · rw [if_neg h9, if_neg h9]; exact he
theorem Sm.evS {f f' : Co → En → Nat → List Int → R Va} (h : ∀ c e e' s w, RE e e' → Sm δ p RV (f c e s w) (f' c e' (s + δ) (p ++ w))) (hg : ∀ c e s w, Grows F s w (f c e s w)) (c : Co) (e e' : En) (s : Nat) (w : List Int) (he : RE e e') : Sm δ p RV (evS F f c e s w) (evS (F + δ) f' c e' (s + δ) (p ++ w)) := by
  obtain ⟨k, x, y, n, i, ts, us⟩ := c
  have hL : ∀ us s w, Sm δ p RVs (Ev.evL (fun c s w => f c e s w) us s w) (Ev.evL (fun c s w => f' c e' s w) us (s + δ) (p ++ w)) := Sm.evL (fun c s w => h c e e' s w he) (fun c s w => hg c e s w)
  unfold Ev.evS
  dsimp only
  by_cases h1 : k = 1
  · rw [if_pos h1, if_pos h1]
    cases us with
    | cons _ _ => exact Sm.z
    | nil =>
      cases hf : e.find x with
      | none => exact Sm.z
      | some v =>
        obtain ⟨v', h3, h4⟩ := find_rel he hf
        rw [h3]
        exact Sm.ok h4
  rw [if_neg h1, if_neg h1]
  by_cases h2 : k = 2
  · rw [if_pos h2, if_pos h2]
    cases us with
    | cons _ _ => exact Sm.z
    | nil => exact Sm.ok .num
  rw [if_neg h2, if_neg h2]
  by_cases h3 : k = 3
  · rw [if_pos h3, if_pos h3]
    match us with
    | [] => exact Sm.z
    | [b] => exact Sm.ok (.clo he)
    | _ :: _ :: _ => exact Sm.z
  rw [if_neg h3, if_neg h3]
  by_cases h4 : k = 4
  · rw [if_pos h4, if_pos h4]
    match us with
    | [] => exact Sm.z
    | [_] => exact Sm.z
    | _ :: _ :: _ :: _ => exact Sm.z
    | [a, b] => exact Sm.bnd (F := F) (h a e e' s w he) (fun vf s1 w1 => Grows.bnd (hg b e s1 w1) (fun va s2 w2 => Grows.app hg vf va s2 w2)) (fun vf vf' s1 w1 hvf => Sm.bnd (F := F) (h b e e' s1 w1 he) (fun va s2 w2 => Grows.app hg vf va s2 w2) (fun va va' s2 w2 hva => Sm.app h hvf hva s2 w2))
  rw [if_neg h4, if_neg h4]
  by_cases h5 : k = 5
  · rw [if_pos h5, if_pos h5]
    match us with
    | [] => exact Sm.z
    | [_] => exact Sm.z
    | _ :: _ :: _ :: _ => exact Sm.z
    | [a, b] => exact Sm.bnd (F := F) (h a e e' s w he) (fun v s1 w1 => hg b (.bind x v e) s1 w1) (fun v v' s1 w1 hv => h b _ _ s1 w1 (.bind hv he))
  rw [if_neg h5, if_neg h5]
  by_cases h6 : k = 6
  · rw [if_pos h6, if_pos h6]
    match us with
    | [] => exact Sm.z
    | [_] => exact Sm.z
    | _ :: _ :: _ :: _ => exact Sm.z
    | [a, b] =>
      by_cases hx : 0 < x
      · simp only [if_pos hx]
        exact h b _ _ s w (.bind (.clo he) he)
      · simp only [if_neg hx]; exact Sm.z
  rw [if_neg h6, if_neg h6]
  by_cases h7 : k = 7
  · rw [if_pos h7, if_pos h7]
    exact Sm.bnd (F := F) (hL us s w) (fun _ _ _ => Grows.now) (fun vs vs' s1 w1 hv => Sm.ok (.con hv))
  rw [if_neg h7, if_neg h7]
  by_cases h8 : k = 8
  · rw [if_pos h8, if_pos h8]
    refine Sm.bnd (F := F) (hL us s w) (fun vs s1 w1 => ?_) (fun vs vs' s1 w1 hv => ?_)
    · split
      · exact Grows.field _ _
      · exact Grows.none
    · by_cases hn : 0 ≤ n
      · rw [if_pos hn, if_pos hn]; exact Sm.field n s1 w1 hv
      · rw [if_neg hn]; exact Sm.z
  rw [if_neg h8, if_neg h8]
  by_cases h9 : k = 9
  · rw [if_pos h9, if_pos h9]
    match us with
    | [] => exact Sm.z
    | a :: us =>
      refine Sm.bnd (F := F) (h a e e' s w he) (fun v s1 w1 => Grows.sw hg i ts us e v s1 w1) (fun v v' s1 w1 hv => ?_)
      unfold Ev.sw
      rw [arm_rel i ts us hv]
      cases arm i ts us v with
      | none => exact Sm.stop
      | some c => exact h c e e' s1 w1 he
  rw [if_neg h9, if_neg h9]
  by_cases h10 : k = 10
  · rw [if_pos h10, if_pos h10]
    refine Sm.bnd (F := F) (hL us s w) (fun vs s1 w1 => ?_) (fun vs vs' s1 w1 hv => ?_)
    · split
      · exact Grows.prim _ _
      · exact Grows.none
    · by_cases hn : 1 ≤ n ∧ n ≤ 7
      · rw [if_pos hn, if_pos hn]; exact Sm.prim n s1 w1 hv
      · rw [if_neg hn]; exact Sm.z
  rw [if_neg h10, if_neg h10]
  by_cases h11 : k = 11
  · rw [if_pos h11, if_pos h11]
    exact Sm.bnd (F := F) (hL us s w) (fun vs s1 w1 => Grows.tell _) (fun vs vs' s1 w1 hv => Sm.tell s1 w1 hv)
  rw [if_neg h11]
  exact Sm.z
/-- The same evaluation, elsewhere. -/
theorem ev_sim : ∀ g c e e' s w, RE e e' → Sm δ p RV (ev F g c e s w) (ev (F + δ) g c e' (s + δ) (p ++ w))
  | 0, _, _, _, _, _, _ => Sm.z
  | g + 1, c, e, e', s, w, he => Sm.evS (fun c e e' s w he => ev_sim g c e e' s w he) (fun c e s w => ev_grows F g c e s w) c e e' s w he
end
mutual
theorem RV.refl : ∀ v : Va, RV v v
  | .num _ => .num
  | .con _ us => .con (RVs.refl us)
  | .clo _ _ _ e => .clo (RE.refl e)
theorem RVs.refl : ∀ us : List Va, RVs us us
  | [] => .nil
  | v :: vs => .cons (RV.refl v) (RVs.refl vs)
theorem RE.refl : ∀ e : En, RE e e
  | .nil => .nil
  | .bind _ v e => .bind (RV.refl v) (RE.refl e)
end
mutual
theorem show_rel : ∀ {v v' : Va}, RV v v' → ∀ l, showV v' l = showV v l
  | _, _, .num, l => rfl
  | _, _, .con (us := us) (us' := us') h, l => by
    rw [showV, showV]
    split
    · rfl
    · exact showL_rel h _
  | _, _, .clo _, l => by rw [showV, showV]
theorem showL_rel : ∀ {us us' : List Va}, RVs us us' → ∀ l, showL us' l = showL us l
  | _, _, .nil, l => rfl
  | _, _, .cons h1 h2, l => by
    rw [showL, showL, show_rel h1 l]
    split
    · exact showL_rel h2 _
    · rfl
end
end Ev
end Go.Proofs.Ytohdaclbgedeiaa
/-
  EVAL, PLAIN: bound by a let around, and by a function that is applied, a whole expression is evaluated to the same.
-/
namespace Go.Proofs.Ytohdaclbgedeiaa
set_option linter.all false
namespace Ev
/-- A variable; a let around; a function that is applied. -/
def varT (x : Int) : Co := .mk 1 x 0 0 false [] []
def letT (x : Int) (c : Co) : Co := .mk 5 x 0 0 false [] [c, varT x]
def lamT (x : Int) : Co := .mk 3 x 0 0 false [] [varT x]
def appT (x : Int) (c : Co) : Co := .mk 4 0 0 0 false [] [lamT x, c]
theorem bnd_id {α : Type} (r : R α) : bnd r (fun a s w => some (.ok a, s, w)) = r := by
  match r with
  | none => rfl
  | some (.stop _, _, _) => rfl
  | some (.ok _, _, _) => rfl
theorem var_ev (F g : Nat) (x : Int) (v : Va) (e : En) (s : Nat) (w : List Int) : ev F (g + 1) (varT x) (.bind x v e) s w = some (.ok v, s, w) := by
  show evS F (ev F g) (.mk 1 x 0 0 false [] []) (.bind x v e) s w = _
  unfold evS
  dsimp only
  rw [if_pos rfl, En.find, if_pos rfl]
theorem let_ev (F g : Nat) (x : Int) (c : Co) : ev F (g + 2) (letT x c) .nil 0 [] = ev F (g + 1) c .nil 0 [] := by
  show evS F (ev F (g + 1)) (.mk 5 x 0 0 false [] [c, varT x]) .nil 0 [] = _
  unfold evS
  dsimp only
  rw [if_neg (by omega), if_neg (by omega), if_neg (by omega), if_neg (by omega), if_pos rfl]
  rw [show (fun v s1 w1 => ev F (g + 1) (varT x) (.bind x v .nil) s1 w1) = (fun (v : Va) (s1 : Nat) (w1 : List Int) => (some (.ok v, s1, w1) : R Va)) from by funext v s1 w1; exact var_ev F g x v .nil s1 w1]
  exact bnd_id _
theorem let_whole {F g : Nat} {c : Co} {l : List Int} {y : Out Va × Nat × List Int} (x : Int) (h : whole F g c l = some y) : ∃ g', whole F g' (letT x c) l = some y := by
  cases g with
  | zero => cases h
  | succ g =>
    refine ⟨g + 2, ?_⟩
    unfold whole at h ⊢
    rw [let_ev]
    exact Le.bnd (Le.refl _) (fun f s w => Mono.rA F f (inputV l) s w (g + 1)) y h
/-- The function is applied. -/
def stepJ (F : Nat) (v : Va) (s : Nat) (w : List Int) : R Va := if s = F then some (.stop 3, s, w) else some (.ok v, s + 1, w)
theorem lam_ev (F g : Nat) (x : Int) : ev F (g + 1) (lamT x) .nil 0 [] = some (.ok (.clo x 0 (varT x) .nil), 0, []) := by
  show evS F (ev F g) (.mk 3 x 0 0 false [] [varT x]) .nil 0 [] = _
  unfold evS
  dsimp only
  rw [if_neg (by omega), if_neg (by omega), if_pos rfl]
theorem app_ev (F g : Nat) (x : Int) (c : Co) : ev F (g + 2) (appT x c) .nil 0 [] = bnd (ev F (g + 1) c .nil 0 []) (stepJ F) := by
  show evS F (ev F (g + 1)) (.mk 4 0 0 0 false [] [lamT x, c]) .nil 0 [] = _
  unfold evS
  dsimp only
  rw [if_neg (by omega), if_neg (by omega), if_neg (by omega), if_pos rfl, bnd_ok (lam_ev F g x)]
  congr 1
  funext va s w
  unfold app stepJ
  by_cases h : s = F
  · rw [if_pos h, if_pos h]
  · rw [if_neg h, if_neg h]
    exact var_ev F g x va _ _ w
theorem app_whole {F g s : Nat} {c : Co} {l : List Int} {o : Out Va} {ws : List Int} (x : Int) (h : whole F g c l = some (o, s, ws)) :
    (∃ g' o' s', whole (F + 1) g' (appT x c) l = some (o', s', ws) ∧ RO RV o o') ∨ (o = .stop 3 ∧ ∀ g' o' s' w', whole (F + 1) g' (appT x c) l = some (o', s', w') → ws <+: w') := by
  unfold whole at h
  have hF : Fu (ev F g c .nil 0 []) (fun g' => ev (F + 1) g' c .nil 0 []) := ev_fuel (by omega) g c .nil 0 [] (by omega)
  rcases bnd_some h with ⟨e, h1, rfl⟩ | ⟨a, s1, w1, h1, h2⟩
  · obtain ⟨p, q⟩ := hF _ _ _ h1
    by_cases he : e = 3
    · subst he
      refine .inr ⟨rfl, fun g' o' s' w' hy => ?_⟩
      have hy2 : whole (F + 1) (g' + 2) (appT x c) l = some (o', s', w') := (mono_whole (F + 1) (appT x c) l).le (by omega) _ hy
      unfold whole at hy2
      rw [app_ev] at hy2
      have hJ : ∀ {o2 : Out Va} {s2 : Nat} {w2 : List Int}, bnd (ev (F + 1) (g' + 1) c .nil 0 []) (stepJ (F + 1)) = some (o2, s2, w2) → ws <+: w2 := by
        intro o2 s2 w2 h9
        rcases bnd_some h9 with ⟨e2, h3, _⟩ | ⟨a, s3, w3, h3, h4⟩
        · exact q rfl _ _ _ _ h3
        · have h5 := q rfl _ _ _ _ h3
          unfold stepJ at h4
          by_cases h6 : s3 = F + 1
          · rw [if_pos h6] at h4; cases h4; exact h5
          · rw [if_neg h6] at h4; cases h4; exact h5
      rcases bnd_some hy2 with ⟨e2, h3, _⟩ | ⟨a, s3, w3, h3, h4⟩
      · exact hJ h3
      · exact (hJ h3).trans (gr_app (F + 1) (g' + 2) a (inputV l) s3 w3 _ _ _ h4).pre
    · obtain ⟨g2, hg2⟩ := p (fun h9 => he (by injection h9))
      have hg3 : ev (F + 1) (g2 + 1) c .nil 0 [] = some (.stop e, s, ws) := ev_succ (F + 1) g2 c .nil 0 [] _ hg2
      refine .inl ⟨g2 + 2, .stop e, s, ?_, rfl⟩
      unfold whole
      rw [app_ev]
      exact bnd_stop (bnd_stop hg3)
  · obtain ⟨g2, hg2⟩ := (hF _ _ _ h1).1 (fun h9 => by cases h9)
    have hs1 : s1 ≤ F := (ev_grows F g c .nil 0 [] _ _ _ h1).fuel (by omega)
    obtain ⟨o', h3, h4⟩ := Sm.app (δ := 1) (p := []) (fun c e e' s w he => ev_sim g c e e' s w he) (RV.refl a) (RV.refl (inputV l)) s1 w1 _ _ _ h2 (.inl rfl)
    simp only [List.nil_append] at h3
    refine .inl ⟨max g g2 + 2, o', s + 1, ?_, h4⟩
    unfold whole
    have e1 : ev (F + 1) (max g g2 + 1) c .nil 0 [] = some (.ok a, s1, w1) := (Mono.r1 (F + 1) c .nil 0 []).le (by omega) _ hg2
    have e2 : bnd (ev (F + 1) (max g g2 + 1) c .nil 0 []) (stepJ (F + 1)) = some (.ok a, s1 + 1, w1) := by
      rw [bnd_ok e1]
      unfold stepJ
      rw [if_neg (by omega)]
    rw [app_ev, bnd_ok e2]
    exact (Mono.rA (F + 1) a (inputV l) (s1 + 1) w1).le (show g ≤ max g g2 + 2 by omega) _ h3
theorem fin_rel {o o' : Out Va} (h : RO RV o o') (ws : List Int) : fin (resO o') ws = fin (resO o) ws := by
  cases o with
  | ok a =>
    cases o' with
    | ok b =>
      have h2 : RV a b := h
      show fin (showV b []) ws = fin (showV a []) ws
      rw [show_rel h2 []]
    | stop k => exact h.elim
  | stop k =>
    cases o' with
    | ok b => exact h.elim
    | stop k2 =>
      have h2 : k = k2 := h
      rw [h2]
theorem runs_whole {c : Co} {l : List Int} {fuel : Int} {r : Int × List Int × List Int × Int} {n : Nat} (hc : goodB c = true) (hl : l.length ≤ 256) (h0 : 0 ≤ fuel) (h1 : fuel ≤ 65536) (h : RunIs c l fuel r n) : ∃ g o ws, whole fuel.toNat g c l = some (o, n, ws) ∧ r = fin (resO o) ws := by
  rcases h with ⟨k1, _⟩ | ⟨_, k2, _⟩ | ⟨_, _, _, _, k⟩
  · rw [hc] at k1; cases k1
  · omega
  · exact k
/-- What the law asks of the three runs. -/
theorem let_law {c : Co} {l : List Int} {x fuel : Int} {r s t : Int × List Int × List Int × Int} {n1 n2 n3 : Nat} (hc : goodB c = true) (hl : goodB (letT x c) = true) (hm : goodB (appT x c) = true) (hi : l.length ≤ 256) (h0 : 0 ≤ fuel) (h1 : fuel ≤ 3000) (R : RunIs c l fuel r n1) (S : RunIs (letT x c) l fuel s n2) (T : RunIs (appT x c) l (fuel + 1) t n3) :
    r = s ∧ (r = t ∨ r.1 = 3 ∧ r.2.2.2 = 0 ∧ (t.2.2.2 ≠ 0 ∨ r.2.1 <+: t.2.1)) := by
  obtain ⟨g1, o1, w1, e1, rfl⟩ := runs_whole hc hi h0 (by omega) R
  obtain ⟨g2, o2, w2, e2, rfl⟩ := runs_whole hl hi h0 (by omega) S
  obtain ⟨g3, o3, w3, e3, rfl⟩ := runs_whole hm hi (by omega) (by omega) T
  rw [show (fuel + 1).toNat = fuel.toNat + 1 by omega] at e3
  obtain ⟨g4, e4⟩ := let_whole x e1
  have q1 := whole_one e4 e2
  injection q1 with q1 q2
  injection q2 with q2 q3
  subst q1 q3
  refine ⟨rfl, ?_⟩
  rcases app_whole x e1 with ⟨g5, o5, s5, e5, hr⟩ | ⟨rfl, hp⟩
  · have q5 := whole_one e5 e3
    injection q5 with q5 q6
    injection q6 with q6 q7
    subst q5 q7
    exact .inl (fin_rel hr _).symm
  · refine .inr ⟨rfl, rfl, ?_⟩
    have h9 := hp _ _ _ _ e3
    cases hq : resO o3 with
    | ok l2 => exact .inr h9
    | stop k =>
      rw [fin]
      by_cases hk : k < 0
      · rw [if_pos hk]; exact .inl (by decide)
      · rw [if_neg hk]; exact .inr h9
end Ev
end Go.Proofs.Ytohdaclbgedeiaa
/-
  THE WALKS OF athanorref10.In, AND OF athanorref20's binder, once, Tags.
-/
namespace Go.Proofs.Ytohdaclbgedeiaa
set_option linter.all false
open Go.ChangeShapes Go.WideShapes Go.ChangeAt Go.RowKit
open Ev (Co tagsB tagIn)
set_option maxHeartbeats 2000000 in
theorem ref20_binder (n : Int) (w : World) : Calls Try.prog 52 #[.int .i64 n] w fun e w' => e = .returned (.bool (decide (1 ≤ n ∧ n ≤ 65536))) ∧ w' = w := by
  by_cases h1 : 1 ≤ n
  · by_cases h2 : n ≤ 65536
    all_goals
      go_enter Try.func52, Try.ntmps52
      go_wp2
      go_ret
      exact ⟨ret_bool (by simp; omega), rfl⟩
  · go_enter Try.func52, Try.ntmps52
    go_wp2
    go_ret
    exact ⟨ret_bool (by simp; omega), rfl⟩
/-- It says yes only where this holds. -/
def OnlyP (p : Prop) (w : World) (e : Ending) (w' : World) : Prop := (∃ b : Bool, e = .returned (.bool b) ∧ (b = true → p)) ∧ Below w.heap.size w w'
theorem nodup_of {l : List Int} (h : ∀ i, (hi : i < l.length) → ∀ k, (hk : k < i) → l[k]'(by omega) ≠ l[i]) : l.Nodup := by
  unfold List.Nodup
  rw [List.pairwise_iff_getElem]
  intro i j hi hj hij
  exact h j hj i hij
theorem tags_of {i : Bool} : ∀ {ts seen : List Int}, (∀ n ∈ ts, tagIn i n = true) → (seen ++ ts).Nodup → tagsB i seen ts = true
  | [], _, _, _ => by rw [tagsB]
  | n :: ts, seen, h1, h2 => by
    rw [tagsB]
    have h3 : (seen ++ [n]) ++ ts = seen ++ (n :: ts) := by simp
    have h4 := tags_of (ts := ts) (seen := seen ++ [n]) (fun m hm => h1 m (by simp [hm])) (by rw [h3]; exact h2)
    have h5 : ¬ n ∈ seen := fun hm => by
      unfold List.Nodup at h2
      rw [List.pairwise_append] at h2
      exact h2.2.2 n hm n (by simp) rfl
    rw [h4, h1 n (by simp)]
    simp [h5]
set_option maxHeartbeats 4000000 in
set_option maxRecDepth 100000 in
theorem ref20_once (l : List Int) (T : Option Addr) (tc : Nat) (S : Nat → Prop) (w : World) (hI : IAt w S l T tc) : Calls Try.prog 65 #[.slice T l.length tc] w (OnlyP l.Nodup w) := by
  have HI := hid hI
  have ht := hI.1.2.2.2
  clear hI
  go_enter Try.func65, Try.ntmps65
  go_wp2
  go_loopg [3] l.length (fun g z wr => ∃ i : Nat, i + g = l.length ∧ z = .int .i64 i ∧ Hid (Below w.heap.size w wr) ∧ Hid (∀ j, (hj : j < l.length) → j < i → ∀ k, (hk : k < j) → l[k]'(by omega) ≠ l[j]))
  case atStart => exact ⟨0, by omega, rfl, hid (Below.refl _ _), hid (fun j hj h => by omega)⟩
  case round =>
    obtain ⟨i, hi, rfl, hb, hn⟩ := hrel
    have Hi := hid hi
    by_cases hlt : i < l.length
    case neg =>
      obtain rfl : i = l.length := by omega
      clear hi
      go_wp2
      go_ret
      exact ⟨⟨true, rfl, fun _ => nodup_of (fun i hi k hk => hn.out i hi hi k hk)⟩, hb.out⟩
    have hlt' : (i : Int) < l.length := by omega
    have HLT := hid hlt
    obtain ⟨W, hW⟩ : ∃ W, W = wr := ⟨_, rfl⟩
    subst hW
    obtain ⟨gi, hgi⟩ : ∃ gi, gi = gk := ⟨_, rfl⟩
    subst hgi
    clear hi
    go_wp2
    go_loopg [4] i (fun g z wr => ∃ k : Nat, k + g = i ∧ z = .int .i64 k ∧ Hid (Below w.heap.size w wr) ∧ Hid (∀ j, (hj : j < i) → j < k → l[j]'(by have := HLT.out; omega) ≠ l[i]'HLT.out))
    case atStart => exact ⟨0, by omega, rfl, hb, hid (fun j hj h => by omega)⟩
    case round =>
      obtain ⟨k, hk, rfl, hbb, hkk⟩ := hrel
      have Hk := hid hk
      by_cases hlk : k < i
      case neg =>
        obtain rfl : k = i := by omega
        clear hk
        go_wp2
        have hgk := Hi.out
        go_roundg (gi - 1)
        case rel => exact ⟨k + 1, by omega, by go_num, hbb, hid (fun j hj hji m hm => by
          by_cases e : j = k
          · subst e; exact hkk.out m hm hm
          · exact hn.out j hj (by omega) m hm)⟩
        case measure => omega
      have hlk' : (k : Int) < i := by omega
      have hlk2 : (k : Int) < l.length := by omega
      obtain ⟨ad, rfl, hS9, y0, _⟩ := (HI.out.keep (fun b hb' hl => ⟨hbb.out.block b hl, hb'⟩)).2 k (by omega)
      obtain ⟨ad', e9, hS8, y1, _⟩ := (HI.out.keep (fun b hb' hl => ⟨hbb.out.block b hl, hb'⟩)).2 i HLT.out
      injection e9 with e9
      subst e9
      obtain ⟨t, ht9⟩ : ∃ t, t = l[k]'(by omega) := ⟨_, rfl⟩
      obtain ⟨u, hu9⟩ : ∃ u, u = l[i]'HLT.out := ⟨_, rfl⟩
      replace y0 : wr.cell? (ad.add k) = some (.int .i64 t) := by rw [ht9]; exact y0
      replace y1 : wr.cell? (ad.add i) = some (.int .i64 u) := by rw [hu9]; exact y1
      have HT := hid (And.intro ht9 hu9)
      have HK := hid hlk
      clear hk ht9 hu9 hS8 hS9
      by_cases he : t = u
      · subst he
        go_wp2
        go_region
        go_wp2
        go_ret
        exact ⟨⟨false, rfl, fun h => by cases h⟩, hbb.out.drew⟩
      · have HE := hid he
        go_wp2
        go_region
        go_wp2
        have hgk := Hk.out
        have hlk9 := HK.out
        go_roundg (gk - 1)
        case rel => exact ⟨k + 1, by omega, by go_num, hid hbb.out.drew, hid (fun j hj hjk => by
          by_cases e : j = k
          · subst e; rw [← HT.out.1, ← HT.out.2]; exact HE.out
          · exact hkk.out j hj (by omega))⟩
        case measure => omega
set_option maxHeartbeats 4000000 in
set_option maxRecDepth 100000 in
theorem tags_ints (l : List Int) (T : Option Addr) (tc : Nat) (S : Nat → Prop) (w : World) (hI : IAt w S l T tc) : Calls Try.prog 53 #[.slice T l.length tc, .bool true] w (OnlyP (tagsB true [] l = true) w) := by
  have HI := hid hI
  have ht := hI.1.2.2.2
  clear hI
  go_enter Try.func53, Try.ntmps53
  go_wp2
  go_loopg [5] l.length (fun g z wr => ∃ i : Nat, i + g = l.length ∧ z = .int .i64 i ∧ Hid (Below w.heap.size w wr) ∧ Hid (∀ j, (hj : j < l.length) → j < i → tagIn true l[j] = true))
  case atStart => exact ⟨0, by omega, rfl, hid (Below.refl _ _), hid (fun j hj h => by omega)⟩
  case round =>
    obtain ⟨i, hi, rfl, hb, hn⟩ := hrel
    have Hi := hid hi
    by_cases hlt : i < l.length
    case neg =>
      obtain rfl : i = l.length := by omega
      clear hi
      go_wp2_with (go_at_call 65; (refine (ref20_once l T tc S _ (HI.out.keep (fun b hb' hl => ⟨hb.out.block b hl, hb'⟩))).mono ?_); rintro e w1 ⟨⟨b, rfl, hnd⟩, b1⟩; have B1 := hid (And.intro hnd b1); clear hnd b1)
      all_goals go_ret
      all_goals first
        | exact ⟨⟨_, rfl, fun h => tags_of (fun n hm => by obtain ⟨j, hj, rfl⟩ := List.getElem_of_mem hm; exact hn.out j hj hj) (by simpa using B1.out.1 (by simpa using h))⟩, below_hop B1.out.2 hb.out⟩
        | exact ⟨⟨false, rfl, fun h => by cases h⟩, hb.out⟩
    have hlt' : (i : Int) < l.length := by omega
    have HLT := hid hlt
    obtain ⟨ad, rfl, hS9, y0, hwf⟩ := (HI.out.keep (fun b hb' hl => ⟨hb.out.block b hl, hb'⟩)).2 i hlt
    obtain ⟨t, ht9⟩ : ∃ t, t = l[i]'hlt := ⟨_, rfl⟩
    have HT := hid ht9
    replace y0 : wr.cell? (ad.add i) = some (.int .i64 t) := by rw [ht9]; exact y0
    clear hi ht9 hwf hS9
    cases he : in31 t with
    | true =>
      have HE := hid (show tagIn true t = true by unfold tagIn; simpa using he)
      have he2 := he
      go_wp2_with (go_at_call 51; (refine (ref10_In t _).mono ?_); rw [he]; rintro e w1 ⟨rfl, h9⟩; have h8 := h9.symm; subst h8; clear h9)
      have hgk := Hi.out
      have hlt9 := HLT.out
      go_roundg (gk - 1)
      case rel => exact ⟨i + 1, by omega, by go_num, hb, hid (fun j hj hji => by
        by_cases e : j = i
        · subst e; rw [← HT.out]; exact HE.out
        · exact hn.out j hj (by omega))⟩
      case measure => omega
    | false =>
      go_wp2_with (go_at_call 51; (refine (ref10_In t _).mono ?_); rw [he]; rintro e w1 ⟨rfl, h9⟩; have h8 := h9.symm; subst h8; clear h9)
      go_ret
      exact ⟨⟨false, rfl, fun h => by cases h⟩, hb.out⟩
set_option maxHeartbeats 4000000 in
set_option maxRecDepth 100000 in
theorem tags_cons (l : List Int) (T : Option Addr) (tc : Nat) (S : Nat → Prop) (w : World) (hI : IAt w S l T tc) : Calls Try.prog 53 #[.slice T l.length tc, .bool false] w (OnlyP (tagsB false [] l = true) w) := by
  have HI := hid hI
  have ht := hI.1.2.2.2
  clear hI
  go_enter Try.func53, Try.ntmps53
  go_wp2
  go_loopg [5] l.length (fun g z wr => ∃ i : Nat, i + g = l.length ∧ z = .int .i64 i ∧ Hid (Below w.heap.size w wr) ∧ Hid (∀ j, (hj : j < l.length) → j < i → tagIn false l[j] = true))
  case atStart => exact ⟨0, by omega, rfl, hid (Below.refl _ _), hid (fun j hj h => by omega)⟩
  case round =>
    obtain ⟨i, hi, rfl, hb, hn⟩ := hrel
    have Hi := hid hi
    by_cases hlt : i < l.length
    case neg =>
      obtain rfl : i = l.length := by omega
      clear hi
      go_wp2_with (go_at_call 65; (refine (ref20_once l T tc S _ (HI.out.keep (fun b hb' hl => ⟨hb.out.block b hl, hb'⟩))).mono ?_); rintro e w1 ⟨⟨b, rfl, hnd⟩, b1⟩; have B1 := hid (And.intro hnd b1); clear hnd b1)
      all_goals go_ret
      all_goals first
        | exact ⟨⟨_, rfl, fun h => tags_of (fun n hm => by obtain ⟨j, hj, rfl⟩ := List.getElem_of_mem hm; exact hn.out j hj hj) (by simpa using B1.out.1 (by simpa using h))⟩, below_hop B1.out.2 hb.out⟩
        | exact ⟨⟨false, rfl, fun h => by cases h⟩, hb.out⟩
    have hlt' : (i : Int) < l.length := by omega
    have HLT := hid hlt
    obtain ⟨ad, rfl, hS9, y0, hwf⟩ := (HI.out.keep (fun b hb' hl => ⟨hb.out.block b hl, hb'⟩)).2 i hlt
    obtain ⟨t, ht9⟩ : ∃ t, t = l[i]'hlt := ⟨_, rfl⟩
    have HT := hid ht9
    replace y0 : wr.cell? (ad.add i) = some (.int .i64 t) := by rw [ht9]; exact y0
    clear hi ht9 hwf hS9
    by_cases he : t < 0
    · go_wp2
      go_ret
      exact ⟨⟨false, rfl, fun h => by cases h⟩, hb.out⟩
    by_cases he2 : 31 < t
    · go_wp2
      go_ret
      exact ⟨⟨false, rfl, fun h => by cases h⟩, hb.out⟩
    · have HE := hid (show tagIn false t = true by unfold tagIn; simp; omega)
      go_wp2
      have hgk := Hi.out
      have hlt9 := HLT.out
      go_roundg (gk - 1)
      case rel => exact ⟨i + 1, by omega, by go_num, hb, hid (fun j hj hji => by
        by_cases e : j = i
        · subst e; rw [← HT.out]; exact HE.out
        · exact hn.out j hj (by omega))⟩
      case measure => omega
theorem ref20_Tags (l : List Int) (b : Bool) (T : Option Addr) (tc : Nat) (S : Nat → Prop) (w : World) (hI : IAt w S l T tc) : Calls Try.prog 53 #[.slice T l.length tc, .bool b] w (OnlyP (tagsB b [] l = true) w) := by
  cases b
  · exact tags_cons l T tc S w hI
  · exact tags_ints l T tc S w hI
end Go.Proofs.Ytohdaclbgedeiaa
/-
  THE WALK OF athanorref20.shape: it says yes only of a node that has what its kind has.
-/
namespace Go.Proofs.Ytohdaclbgedeiaa
set_option linter.all false
open Go.ChangeShapes Go.WideShapes Go.ChangeAt Go.RowKit
open Ev (Co tagsB tagIn formB plainB taggedB bindL)
/-- A node that has what its kind has, its binders in range. -/
def ShapeIs (k x y n : Int) (b : Bool) (ts : List Int) (l : Nat) : Prop := formB k x y n b ts l = true ∧ ∀ z ∈ bindL k x y, 1 ≤ z ∧ z ≤ 65536
theorem no_of {p : Prop} {w w' : World} {b : Bool} (h : b = false) (hb : Below w.heap.size w w') : OnlyP p w (.returned (.bool b)) w' := ⟨⟨b, rfl, fun h2 => by rw [h] at h2; cases h2⟩, hb⟩
theorem yes_of {p : Prop} {w w' : World} {b : Bool} (h : b = true → p) (hb : Below w.heap.size w w') : OnlyP p w (.returned (.bool b)) w' := ⟨⟨b, rfl, h⟩, hb⟩
theorem ref20_Tags' (l : List Int) (b : Bool) (T : Option Addr) (tl tc : Nat) (S : Nat → Prop) (w : World) (htl : tl = l.length) (hI : IAt w S l T tc) : Calls Try.prog 53 #[.slice T tl tc, .bool b] w (OnlyP (tagsB b [] l = true) w) := by
  subst htl
  exact ref20_Tags l b T tc S w hI

theorem leaf1 {x y m : Int} {ts : List Int} {l : Nat} (h : ts = []) (hy : (y != 0) = false) (h2 : l = 0) (h3 : (m == 0) = true) : ShapeIs 1 x y m false ts l := by
  subst h
  simp at *
  refine ⟨?_, fun z hz => ?_⟩
  · unfold formB plainB
    simp [*]
    try omega
  · simp [bindL] at hz
    try (first | (subst hz; assumption) | (rcases hz with rfl | rfl; assumption; assumption))

set_option maxHeartbeats 8000000 in
set_option maxRecDepth 100000 in
theorem shape1 (x y m : Int) (b : Bool) (T A : Option Addr) (tc : Nat) (ts : List Int) (l c : Nat) (w : World) : Calls Try.prog 38 #[.agg #[.int .i64 1, .int .i64 x, .int .i64 y, .int .i64 m, .bool b, .slice T ts.length tc, .slice A l c]] w (OnlyP (ShapeIs 1 x y m b ts l) w) := by
  obtain ⟨P, hP⟩ : ∃ P, P = ShapeIs 1 x y m b ts l := ⟨_, rfl⟩
  rw [← hP]
  have HP := hid hP
  clear hP
  cases b
  all_goals
    go_enter Try.func38, Try.ntmps38
    go_wp2_with (first
    | (go_at_call 52; (refine (ref20_binder _ _).mono ?_); rintro e9 w1 ⟨rfl, h9⟩; subst h9)
    | (go_at_call 51; (refine (ref10_In _ _).mono ?_); rintro e9 w1 ⟨rfl, h9⟩; have h8 := h9.symm; subst h8; clear h9))
    all_goals first
      | exact absurd (List.length_pos_iff.2 (by assumption)) (by assumption)
      | go_ret
    all_goals (try first | exact no_of rfl (al1 _ _))
    all_goals exact yes_of (fun h => HP.out ▸ leaf1 (by assumption) (by assumption) (by assumption) (by assumption)) (al1 _ _)

theorem leaf2 {x y m : Int} {ts : List Int} {l : Nat} (h : ts = []) (hy : (y != 0) = false) (h2 : l = 0) (h3 : x = 0) (h4 : in31 m = true) : ShapeIs 2 x y m false ts l := by
  subst h
  simp at *
  refine ⟨?_, fun z hz => ?_⟩
  · unfold formB plainB
    simp [*]
    try omega
  · simp [bindL] at hz
    try (first | (subst hz; assumption) | (rcases hz with rfl | rfl; assumption; assumption))

set_option maxHeartbeats 8000000 in
set_option maxRecDepth 100000 in
theorem shape2 (x y m : Int) (b : Bool) (T A : Option Addr) (tc : Nat) (ts : List Int) (l c : Nat) (w : World) : Calls Try.prog 38 #[.agg #[.int .i64 2, .int .i64 x, .int .i64 y, .int .i64 m, .bool b, .slice T ts.length tc, .slice A l c]] w (OnlyP (ShapeIs 2 x y m b ts l) w) := by
  obtain ⟨P, hP⟩ : ∃ P, P = ShapeIs 2 x y m b ts l := ⟨_, rfl⟩
  rw [← hP]
  have HP := hid hP
  clear hP
  cases b
  all_goals
    go_enter Try.func38, Try.ntmps38
    go_wp2_with (first
    | (go_at_call 52; (refine (ref20_binder _ _).mono ?_); rintro e9 w1 ⟨rfl, h9⟩; subst h9)
    | (go_at_call 51; (refine (ref10_In _ _).mono ?_); rintro e9 w1 ⟨rfl, h9⟩; have h8 := h9.symm; subst h8; clear h9))
    all_goals first
      | exact absurd (List.length_pos_iff.2 (by assumption)) (by assumption)
      | go_ret
    all_goals (try first | exact no_of rfl (al1 _ _))
    all_goals exact yes_of (fun h => HP.out ▸ leaf2 (by assumption) (by assumption) (by assumption) (by assumption) (by assumption)) (al1 _ _)

theorem leaf3 {x y m : Int} {ts : List Int} {l : Nat} (h : ts = []) (hy : (y != 0) = false) (h2 : (l : Int) = 1) (h3 : m = 0) (h4 : (decide (1 ≤ x) && decide (x ≤ 65536)) = true) : ShapeIs 3 x y m false ts l := by
  subst h
  simp at *
  refine ⟨?_, fun z hz => ?_⟩
  · unfold formB plainB
    simp [*]
    try omega
  · simp [bindL] at hz
    try (first | (subst hz; assumption) | (rcases hz with rfl | rfl; assumption; assumption))

set_option maxHeartbeats 8000000 in
set_option maxRecDepth 100000 in
theorem shape3 (x y m : Int) (b : Bool) (T A : Option Addr) (tc : Nat) (ts : List Int) (l c : Nat) (w : World) : Calls Try.prog 38 #[.agg #[.int .i64 3, .int .i64 x, .int .i64 y, .int .i64 m, .bool b, .slice T ts.length tc, .slice A l c]] w (OnlyP (ShapeIs 3 x y m b ts l) w) := by
  obtain ⟨P, hP⟩ : ∃ P, P = ShapeIs 3 x y m b ts l := ⟨_, rfl⟩
  rw [← hP]
  have HP := hid hP
  clear hP
  cases b
  all_goals
    go_enter Try.func38, Try.ntmps38
    go_wp2_with (first
    | (go_at_call 52; (refine (ref20_binder _ _).mono ?_); rintro e9 w1 ⟨rfl, h9⟩; subst h9)
    | (go_at_call 51; (refine (ref10_In _ _).mono ?_); rintro e9 w1 ⟨rfl, h9⟩; have h8 := h9.symm; subst h8; clear h9))
    all_goals first
      | exact absurd (List.length_pos_iff.2 (by assumption)) (by assumption)
      | go_ret
    all_goals (try first | exact no_of rfl (al1 _ _))
    all_goals exact yes_of (fun h => HP.out ▸ leaf3 (by assumption) (by assumption) (by assumption) (by assumption) (by assumption)) (al1 _ _)

theorem leaf5 {x y m : Int} {ts : List Int} {l : Nat} (h : ts = []) (hy : (y != 0) = false) (h2 : (l : Int) = 2) (h3 : m = 0) (h4 : (decide (1 ≤ x) && decide (x ≤ 65536)) = true) : ShapeIs 5 x y m false ts l := by
  subst h
  simp at *
  refine ⟨?_, fun z hz => ?_⟩
  · unfold formB plainB
    simp [*]
    try omega
  · simp [bindL] at hz
    try (first | (subst hz; assumption) | (rcases hz with rfl | rfl; assumption; assumption))

set_option maxHeartbeats 8000000 in
set_option maxRecDepth 100000 in
theorem shape5 (x y m : Int) (b : Bool) (T A : Option Addr) (tc : Nat) (ts : List Int) (l c : Nat) (w : World) : Calls Try.prog 38 #[.agg #[.int .i64 5, .int .i64 x, .int .i64 y, .int .i64 m, .bool b, .slice T ts.length tc, .slice A l c]] w (OnlyP (ShapeIs 5 x y m b ts l) w) := by
  obtain ⟨P, hP⟩ : ∃ P, P = ShapeIs 5 x y m b ts l := ⟨_, rfl⟩
  rw [← hP]
  have HP := hid hP
  clear hP
  cases b
  all_goals
    go_enter Try.func38, Try.ntmps38
    go_wp2_with (first
    | (go_at_call 52; (refine (ref20_binder _ _).mono ?_); rintro e9 w1 ⟨rfl, h9⟩; subst h9)
    | (go_at_call 51; (refine (ref10_In _ _).mono ?_); rintro e9 w1 ⟨rfl, h9⟩; have h8 := h9.symm; subst h8; clear h9))
    all_goals first
      | exact absurd (List.length_pos_iff.2 (by assumption)) (by assumption)
      | go_ret
    all_goals (try first | exact no_of rfl (al1 _ _))
    all_goals exact yes_of (fun h => HP.out ▸ leaf5 (by assumption) (by assumption) (by assumption) (by assumption) (by assumption)) (al1 _ _)

theorem leaf6 {x y m : Int} {ts : List Int} {l : Nat} (h : ts = []) (h2 : (l : Int) = 2) (h3 : m = 0) (h4 : 1 ≤ x ∧ x ≤ 65536) (h5 : (decide (1 ≤ y) && decide (y ≤ 65536)) = true) : ShapeIs 6 x y m false ts l := by
  subst h
  simp at *
  refine ⟨?_, fun z hz => ?_⟩
  · unfold formB plainB
    simp [*]
    try omega
  · simp [bindL] at hz
    try (first | (subst hz; assumption) | (rcases hz with rfl | rfl; assumption; assumption))

set_option maxHeartbeats 8000000 in
set_option maxRecDepth 100000 in
theorem shape6 (x y m : Int) (b : Bool) (T A : Option Addr) (tc : Nat) (ts : List Int) (l c : Nat) (w : World) : Calls Try.prog 38 #[.agg #[.int .i64 6, .int .i64 x, .int .i64 y, .int .i64 m, .bool b, .slice T ts.length tc, .slice A l c]] w (OnlyP (ShapeIs 6 x y m b ts l) w) := by
  obtain ⟨P, hP⟩ : ∃ P, P = ShapeIs 6 x y m b ts l := ⟨_, rfl⟩
  rw [← hP]
  have HP := hid hP
  clear hP
  cases b
  all_goals
    go_enter Try.func38, Try.ntmps38
    go_wp2_with (first
    | (go_at_call 52; (refine (ref20_binder _ _).mono ?_); rintro e9 w1 ⟨rfl, h9⟩; subst h9)
    | (go_at_call 51; (refine (ref10_In _ _).mono ?_); rintro e9 w1 ⟨rfl, h9⟩; have h8 := h9.symm; subst h8; clear h9))
    all_goals first
      | exact absurd (List.length_pos_iff.2 (by assumption)) (by assumption)
      | go_ret
    all_goals (try first | exact no_of rfl (al1 _ _))
    all_goals exact yes_of (fun h => HP.out ▸ leaf6 (by assumption) (by assumption) (by assumption) (by assumption) (by assumption)) (al1 _ _)

theorem leaf4 {x y m : Int} {ts : List Int} {l : Nat} (h : ts = []) (hy : (y != 0) = false) (h1 : (x != 0) = false) (h2 : (l : Int) = 2) (h3 : (m == 0) = true) : ShapeIs 4 x y m false ts l := by
  subst h
  simp at *
  refine ⟨?_, fun z hz => ?_⟩
  · unfold formB plainB
    simp [*]
    try omega
  · simp [bindL] at hz
    try (first | (subst hz; assumption) | (rcases hz with rfl | rfl; assumption; assumption))

set_option maxHeartbeats 8000000 in
set_option maxRecDepth 100000 in
theorem shape4 (x y m : Int) (b : Bool) (T A : Option Addr) (tc : Nat) (ts : List Int) (l c : Nat) (w : World) : Calls Try.prog 38 #[.agg #[.int .i64 4, .int .i64 x, .int .i64 y, .int .i64 m, .bool b, .slice T ts.length tc, .slice A l c]] w (OnlyP (ShapeIs 4 x y m b ts l) w) := by
  obtain ⟨P, hP⟩ : ∃ P, P = ShapeIs 4 x y m b ts l := ⟨_, rfl⟩
  rw [← hP]
  have HP := hid hP
  clear hP
  cases b
  all_goals
    go_enter Try.func38, Try.ntmps38
    go_wp2_with (first
    | (go_at_call 52; (refine (ref20_binder _ _).mono ?_); rintro e9 w1 ⟨rfl, h9⟩; subst h9)
    | (go_at_call 51; (refine (ref10_In _ _).mono ?_); rintro e9 w1 ⟨rfl, h9⟩; have h8 := h9.symm; subst h8; clear h9))
    all_goals first
      | exact absurd (List.length_pos_iff.2 (by assumption)) (by assumption)
      | go_ret
    all_goals (try first | exact no_of rfl (al1 _ _))
    all_goals exact yes_of (fun h => HP.out ▸ leaf4 (by assumption) (by assumption) (by assumption) (by assumption) (by assumption)) (al1 _ _)

theorem leaf11 {x y m : Int} {ts : List Int} {l : Nat} (h : ts = []) (hy : (y != 0) = false) (h1 : (x != 0) = false) (h2 : (l : Int) = 1) (h3 : (m == 0) = true) : ShapeIs 11 x y m false ts l := by
  subst h
  simp at *
  refine ⟨?_, fun z hz => ?_⟩
  · unfold formB plainB
    simp [*]
    try omega
  · simp [bindL] at hz
    try (first | (subst hz; assumption) | (rcases hz with rfl | rfl; assumption; assumption))

set_option maxHeartbeats 8000000 in
set_option maxRecDepth 100000 in
theorem shape11 (x y m : Int) (b : Bool) (T A : Option Addr) (tc : Nat) (ts : List Int) (l c : Nat) (w : World) : Calls Try.prog 38 #[.agg #[.int .i64 11, .int .i64 x, .int .i64 y, .int .i64 m, .bool b, .slice T ts.length tc, .slice A l c]] w (OnlyP (ShapeIs 11 x y m b ts l) w) := by
  obtain ⟨P, hP⟩ : ∃ P, P = ShapeIs 11 x y m b ts l := ⟨_, rfl⟩
  rw [← hP]
  have HP := hid hP
  clear hP
  cases b
  all_goals
    go_enter Try.func38, Try.ntmps38
    go_wp2_with (first
    | (go_at_call 52; (refine (ref20_binder _ _).mono ?_); rintro e9 w1 ⟨rfl, h9⟩; subst h9)
    | (go_at_call 51; (refine (ref10_In _ _).mono ?_); rintro e9 w1 ⟨rfl, h9⟩; have h8 := h9.symm; subst h8; clear h9))
    all_goals first
      | exact absurd (List.length_pos_iff.2 (by assumption)) (by assumption)
      | go_ret
    all_goals (try first | exact no_of rfl (al1 _ _))
    all_goals exact yes_of (fun h => HP.out ▸ leaf11 (by assumption) (by assumption) (by assumption) (by assumption) (by assumption)) (al1 _ _)

theorem leaf7 {x y m : Int} {ts : List Int} {l : Nat} (h : ts = []) (hy : (y != 0) = false) (h1 : (x != 0) = false) (h2 : (l : Int) ≤ 8) (h3 : 0 ≤ m) (h4 : decide (m < 32) = true) : ShapeIs 7 x y m false ts l := by
  subst h
  simp at *
  refine ⟨?_, fun z hz => ?_⟩
  · unfold formB plainB
    simp [*]
    try omega
  · simp [bindL] at hz
    try (first | (subst hz; assumption) | (rcases hz with rfl | rfl; assumption; assumption))

set_option maxHeartbeats 8000000 in
set_option maxRecDepth 100000 in
theorem shape7 (x y m : Int) (b : Bool) (T A : Option Addr) (tc : Nat) (ts : List Int) (l c : Nat) (w : World) : Calls Try.prog 38 #[.agg #[.int .i64 7, .int .i64 x, .int .i64 y, .int .i64 m, .bool b, .slice T ts.length tc, .slice A l c]] w (OnlyP (ShapeIs 7 x y m b ts l) w) := by
  obtain ⟨P, hP⟩ : ∃ P, P = ShapeIs 7 x y m b ts l := ⟨_, rfl⟩
  rw [← hP]
  have HP := hid hP
  clear hP
  cases b
  all_goals
    go_enter Try.func38, Try.ntmps38
    go_wp2_with (first
    | (go_at_call 52; (refine (ref20_binder _ _).mono ?_); rintro e9 w1 ⟨rfl, h9⟩; subst h9)
    | (go_at_call 51; (refine (ref10_In _ _).mono ?_); rintro e9 w1 ⟨rfl, h9⟩; have h8 := h9.symm; subst h8; clear h9))
    all_goals first
      | exact absurd (List.length_pos_iff.2 (by assumption)) (by assumption)
      | go_ret
    all_goals (try first | exact no_of rfl (al1 _ _))
    all_goals exact yes_of (fun h => HP.out ▸ leaf7 (by assumption) (by assumption) (by assumption) (by assumption) (by assumption) (by assumption)) (al1 _ _)

theorem leaf8 {x y m : Int} {ts : List Int} {l : Nat} (h : ts = []) (hy : (y != 0) = false) (h1 : (x != 0) = false) (h2 : (l : Int) = 1) (h3 : 0 ≤ m) (h4 : decide (m < 8) = true) : ShapeIs 8 x y m false ts l := by
  subst h
  simp at *
  refine ⟨?_, fun z hz => ?_⟩
  · unfold formB plainB
    simp [*]
    try omega
  · simp [bindL] at hz
    try (first | (subst hz; assumption) | (rcases hz with rfl | rfl; assumption; assumption))

set_option maxHeartbeats 8000000 in
set_option maxRecDepth 100000 in
theorem shape8 (x y m : Int) (b : Bool) (T A : Option Addr) (tc : Nat) (ts : List Int) (l c : Nat) (w : World) : Calls Try.prog 38 #[.agg #[.int .i64 8, .int .i64 x, .int .i64 y, .int .i64 m, .bool b, .slice T ts.length tc, .slice A l c]] w (OnlyP (ShapeIs 8 x y m b ts l) w) := by
  obtain ⟨P, hP⟩ : ∃ P, P = ShapeIs 8 x y m b ts l := ⟨_, rfl⟩
  rw [← hP]
  have HP := hid hP
  clear hP
  cases b
  all_goals
    go_enter Try.func38, Try.ntmps38
    go_wp2_with (first
    | (go_at_call 52; (refine (ref20_binder _ _).mono ?_); rintro e9 w1 ⟨rfl, h9⟩; subst h9)
    | (go_at_call 51; (refine (ref10_In _ _).mono ?_); rintro e9 w1 ⟨rfl, h9⟩; have h8 := h9.symm; subst h8; clear h9))
    all_goals first
      | exact absurd (List.length_pos_iff.2 (by assumption)) (by assumption)
      | go_ret
    all_goals (try first | exact no_of rfl (al1 _ _))
    all_goals exact yes_of (fun h => HP.out ▸ leaf8 (by assumption) (by assumption) (by assumption) (by assumption) (by assumption) (by assumption)) (al1 _ _)

theorem leaf10 {x y m : Int} {ts : List Int} {l : Nat} (h : ts = []) (hy : (y != 0) = false) (h1 : (x != 0) = false) (h2 : (l : Int) = 2) (h3 : 1 ≤ m) (h4 : decide (m ≤ 7) = true) : ShapeIs 10 x y m false ts l := by
  subst h
  simp at *
  refine ⟨?_, fun z hz => ?_⟩
  · unfold formB plainB
    simp [*]
    try omega
  · simp [bindL] at hz
    try (first | (subst hz; assumption) | (rcases hz with rfl | rfl; assumption; assumption))

set_option maxHeartbeats 8000000 in
set_option maxRecDepth 100000 in
theorem shape10 (x y m : Int) (b : Bool) (T A : Option Addr) (tc : Nat) (ts : List Int) (l c : Nat) (w : World) : Calls Try.prog 38 #[.agg #[.int .i64 10, .int .i64 x, .int .i64 y, .int .i64 m, .bool b, .slice T ts.length tc, .slice A l c]] w (OnlyP (ShapeIs 10 x y m b ts l) w) := by
  obtain ⟨P, hP⟩ : ∃ P, P = ShapeIs 10 x y m b ts l := ⟨_, rfl⟩
  rw [← hP]
  have HP := hid hP
  clear hP
  cases b
  all_goals
    go_enter Try.func38, Try.ntmps38
    go_wp2_with (first
    | (go_at_call 52; (refine (ref20_binder _ _).mono ?_); rintro e9 w1 ⟨rfl, h9⟩; subst h9)
    | (go_at_call 51; (refine (ref10_In _ _).mono ?_); rintro e9 w1 ⟨rfl, h9⟩; have h8 := h9.symm; subst h8; clear h9))
    all_goals first
      | exact absurd (List.length_pos_iff.2 (by assumption)) (by assumption)
      | go_ret
    all_goals (try first | exact no_of rfl (al1 _ _))
    all_goals exact yes_of (fun h => HP.out ▸ leaf10 (by assumption) (by assumption) (by assumption) (by assumption) (by assumption) (by assumption)) (al1 _ _)

theorem leaf9 {x y m : Int} {b : Bool} {ts : List Int} {l tl : Nat} (htl : tl = ts.length) (hy : (y != 0) = false) (hx : (x != 0) = false) (hm : m = 0) (h2 : 2 ≤ (l : Int)) (h3 : (l : Int) = tl + 1 ∨ (l : Int) = tl + 2) (h : tagsB b [] ts = true) : ShapeIs 9 x y m b ts l := by
  simp at hx hy
  refine ⟨?_, fun z hz => ?_⟩
  · unfold formB taggedB
    simp [*]
    omega
  · simp [bindL] at hz
set_option maxHeartbeats 8000000 in
set_option maxRecDepth 100000 in
theorem shape9 (x y m : Int) (b : Bool) (T A : Option Addr) (tc : Nat) (ts : List Int) (l c : Nat) (S : Nat → Prop) (w : World) (hI : IAt w S ts T tc) (hl : l ≤ 17592186044416) : Calls Try.prog 38 #[.agg #[.int .i64 9, .int .i64 x, .int .i64 y, .int .i64 m, .bool b, .slice T ts.length tc, .slice A l c]] w (OnlyP (ShapeIs 9 x y m b ts l) w) := by
  have ht := hI.1.2.2.2
  obtain ⟨P, hP⟩ : ∃ P, P = ShapeIs 9 x y m b ts l := ⟨_, rfl⟩
  rw [← hP]
  have HP := hid hP
  have HI := hid hI
  obtain ⟨tl, htl⟩ : ∃ tl, tl = ts.length := ⟨_, rfl⟩
  rw [← htl]
  have HTL := hid htl
  have htm : tl ≤ 17592186044416 := by omega
  clear hI ht htl
  clear hP
  go_enter Try.func38, Try.ntmps38
  go_wp2_with (first | (go_at_call 53; (refine (ref20_Tags' ts _ T tl tc S _ HTL.out (HI.out.keep (fun b9 hb' hl => ⟨(al1 w _).block b9 hl, hb'⟩))).mono ?_); rintro e9 w1 ⟨⟨tb, rfl, htb⟩, b1⟩; have B1 := hid (And.intro htb b1); clear htb b1))
  all_goals go_ret
  all_goals (try first | exact no_of rfl (al1 _ _))
  all_goals first
    | exact yes_of (fun h => HP.out ▸ leaf9 HTL.out (by assumption) (by assumption) (by assumption) (by assumption) (Or.inl (by assumption)) (B1.out.1 h)) (below_hop B1.out.2 (al1 _ _))
    | exact yes_of (fun h => HP.out ▸ leaf9 HTL.out (by assumption) (by assumption) (by assumption) (by assumption) (Or.inr (by assumption)) (B1.out.1 h)) (below_hop B1.out.2 (al1 _ _))
set_option maxHeartbeats 8000000 in
set_option maxRecDepth 100000 in
theorem shape0 (k x y m : Int) (b : Bool) (T A : Option Addr) (tl tc : Nat) (l c : Nat) (P : Prop) (w : World) (h1 : (k == 1) = false) (h2 : (k == 2) = false) (h3 : (k == 3) = false) (h4 : (k == 4) = false) (h5 : (k == 5) = false) (h6 : (k == 6) = false) (h7 : (k == 7) = false) (h8 : (k == 8) = false) (h9 : (k == 9) = false) (h10 : (k == 10) = false) (h11 : (k == 11) = false) :
    Calls Try.prog 38 #[.agg #[.int .i64 k, .int .i64 x, .int .i64 y, .int .i64 m, .bool b, .slice T tl tc, .slice A l c]] w (OnlyP P w) := by
  have g6 : (k != 6) = true := by simpa using h6
  have g9 : (k != 9) = true := by simpa using h9
  cases b
  all_goals
    go_enter Try.func38, Try.ntmps38
    go_wp2
    all_goals go_ret
    all_goals exact no_of rfl (al1 _ _)
theorem ref20_shape (k x y m : Int) (b : Bool) (T A : Option Addr) (tc : Nat) (ts : List Int) (l c : Nat) (S : Nat → Prop) (w : World) (hI : IAt w S ts T tc) (hl : l ≤ 17592186044416) :
    Calls Try.prog 38 #[.agg #[.int .i64 k, .int .i64 x, .int .i64 y, .int .i64 m, .bool b, .slice T ts.length tc, .slice A l c]] w (OnlyP (ShapeIs k x y m b ts l) w) := by
  by_cases h1 : k = 1
  · subst h1; exact shape1 x y m b T A tc ts l c w
  by_cases h2 : k = 2
  · subst h2; exact shape2 x y m b T A tc ts l c w
  by_cases h3 : k = 3
  · subst h3; exact shape3 x y m b T A tc ts l c w
  by_cases h4 : k = 4
  · subst h4; exact shape4 x y m b T A tc ts l c w
  by_cases h5 : k = 5
  · subst h5; exact shape5 x y m b T A tc ts l c w
  by_cases h6 : k = 6
  · subst h6; exact shape6 x y m b T A tc ts l c w
  by_cases h7 : k = 7
  · subst h7; exact shape7 x y m b T A tc ts l c w
  by_cases h8 : k = 8
  · subst h8; exact shape8 x y m b T A tc ts l c w
  by_cases h9 : k = 9
  · subst h9; exact shape9 x y m b T A tc ts l c S w hI hl
  by_cases h10 : k = 10
  · subst h10; exact shape10 x y m b T A tc ts l c w
  by_cases h11 : k = 11
  · subst h11; exact shape11 x y m b T A tc ts l c w
  have e : ∀ {a b : Int}, a ≠ b → (a == b) = false := fun h => by simpa using h
  exact shape0 k x y m b T A ts.length tc l c _ w (e h1) (e h2) (e h3) (e h4) (e h5) (e h6) (e h7) (e h8) (e h9) (e h10) (e h11)
end Go.Proofs.Ytohdaclbgedeiaa
/-
  THE WALKS OF athanorref20's in AND deep.
-/
namespace Go.Proofs.Ytohdaclbgedeiaa
set_option linter.all false
open Go.ChangeShapes Go.WideShapes Go.ChangeAt Go.RowKit
open Ev (Co)
set_option maxHeartbeats 4000000 in
set_option maxRecDepth 100000 in
theorem ref20_in (l : List Int) (T : Option Addr) (tc : Nat) (n : Int) (S : Nat → Prop) (w : World) (hI : IAt w S l T tc) : Calls Try.prog 54 #[.slice T l.length tc, .int .i64 n] w (OnlyP (n ∈ l) w) := by
  have HI := hid hI
  have ht := hI.1.2.2.2
  have q1 : IntKind.i64.wrap ((l.length : Int) - 1) = (l.length : Int) - 1 := IntWalk.i64_in _ (by omega)
  clear hI
  go_enter Try.func54, Try.ntmps54
  go_wp2
  go_loopg [5] l.length (fun g z wr => z = .int .i64 ((g : Int) - 1) ∧ Hid (g ≤ l.length) ∧ Hid (Below w.heap.size w wr))
  case atStart => exact ⟨rfl, hid (Nat.le_refl _), hid (Below.refl _ _)⟩
  case round =>
    obtain ⟨rfl, hg, hb⟩ := hrel
    rcases Nat.eq_zero_or_pos gk with rfl | hp
    · go_wp2
      go_ret
      exact no_of rfl hb.out
    obtain ⟨i, hi⟩ : ∃ i, gk = i + 1 := ⟨gk - 1, by omega⟩
    subst hi
    have e1 : ((i + 1 : Nat) : Int) - 1 = i := by omega
    have hlt : i < l.length := by have := hg.out; omega
    have hlt' : (i : Int) < l.length := by omega
    have hi0 : (0 : Int) ≤ i := by omega
    rw [e1]
    obtain ⟨ad, rfl, hS9, y0, _⟩ := (HI.out.keep (fun b hb' hl => ⟨hb.out.block b hl, hb'⟩)).2 i hlt
    obtain ⟨t, ht9⟩ : ∃ t, t = l[i]'hlt := ⟨_, rfl⟩
    rw [← ht9] at y0
    have HM := hid (show t ∈ l by rw [ht9]; exact List.getElem_mem hlt)
    have q2 : IntKind.i64.wrap ((i : Int) - 1) = (i : Int) - 1 := IntWalk.i64_in _ (by omega)
    clear ht9 hS9 e1
    by_cases he : t = n
    · subst he
      go_wp2
      go_ret
      exact yes_of (fun _ => HM.out) hb.out
    · go_wp2
      go_roundg i
      case rel => exact ⟨rfl, hid (by omega), hb⟩
      case measure => omega
mutual
/-- Does nothing stand so deep? -/
def lowM : Co → Nat → Prop
  | .mk k x y n i ts us, d => 0 < d ∧ lowML us (d - 1)
def lowML : List Co → Nat → Prop
  | [], _ => True
  | c :: cs, d => lowM c d ∧ lowML cs d
end
theorem lowML_of : ∀ {us : List Co} {d : Nat}, (∀ u ∈ us, lowM u d) → lowML us d
  | [], d, _ => by rw [lowML]; trivial
  | c :: cs, d, h => by
    rw [lowML]
    exact ⟨h c (by simp), lowML_of (fun u hu => h u (by simp [hu]))⟩
def LowP (p : Prop) (w : World) (e : Ending) (w' : World) : Prop := (∃ b : Bool, e = .returned (.bool b) ∧ (b = false → p)) ∧ Below w.heap.size w w'
theorem low_yes {p : Prop} {w w' : World} (hb : Below w.heap.size w w') : LowP p w (.returned (.bool true)) w' := ⟨⟨true, rfl, fun h2 => by cases h2⟩, hb⟩
theorem low_no {p : Prop} {w w' : World} (h : p) (hb : Below w.heap.size w w') : LowP p w (.returned (.bool false)) w' := ⟨⟨false, rfl, fun _ => h⟩, hb⟩
set_option maxHeartbeats 4000000 in
set_option maxRecDepth 100000 in
theorem r20deep_zero (k x y m : Int) (b : Bool) (T A : Option Addr) (tl tc : Nat) (l c : Nat) (p : Prop) (w : World) :
    Calls Try.prog 26 #[.agg #[.int .i64 k, .int .i64 x, .int .i64 y, .int .i64 m, .bool b, .slice T tl tc, .slice A l c], .int .i64 0] w (LowP p w) := by
  go_enter Try.func26, Try.ntmps26
  go_wp2
  go_ret
  exact low_yes (al1 _ _)
set_option maxHeartbeats 4000000 in
set_option maxRecDepth 100000 in
theorem r20deep_node (k x y m : Int) (b : Bool) (T A : Option Addr) (tc : Nat) (ts : List Int) (us : List Co) (c d : Nat) (S : Nat → Prop) (w : World) (hm : us.length ≤ 17592186044416) (hd : d < 17592186044416) (hrow : CRow w S us A 0)
    (ih : ∀ t ∈ us, ∀ (v : Value) (S : Nat → Prop) (w : World), CAt w S t v → Calls Try.prog 26 #[v, .int .i64 d] w (LowP (lowM t d) w)) :
    Calls Try.prog 26 #[.agg #[.int .i64 k, .int .i64 x, .int .i64 y, .int .i64 m, .bool b, .slice T ts.length tc, .slice A us.length c], .int .i64 ((d : Int) + 1)] w (LowP (lowM (.mk k x y m b ts us) (d + 1)) w) := by
  have hL : us.length ≤ 281474976710656 := by omega
  have H := hid (And.intro hm (And.intro hrow ih))
  have e0 : ((d : Int) + 1 == 0) = false := by simp; omega
  have q1 : IntKind.i64.wrap ((d : Int) + 1 - 1) = (d : Int) := by rw [IntWalk.i64_in _ (by omega)]; omega
  obtain ⟨z0, hz0⟩ : ∃ z : Int, z = (d : Int) + 1 := ⟨_, rfl⟩
  rw [← hz0] at e0 q1 ⊢
  clear hm hrow ih hz0
  go_enter Try.func26, Try.ntmps26
  go_wp2
  go_loopg [5] us.length (fun g z wr => ∃ (i : Nat), i + g = us.length ∧ z = .int .i64 i ∧ Hid (∀ j, (hj : j < us.length) → j < i → lowM us[j] d) ∧ Hid (Blk wr w.heap.size 25 #[.int .i64 k, .int .i64 x, .int .i64 y, .int .i64 m, .bool b, .slice T ts.length tc, .slice A us.length c]) ∧ Hid (Below w.heap.size w wr))
  case atStart => exact ⟨0, by omega, rfl, hid (fun j hj h => by omega), hid (Blk.new _ _ _), hid (al1 _ _)⟩
  case round =>
    obtain ⟨i, hi, rfl, hall, hb, hbl⟩ := hrel
    have Hi := hid hi
    have x6 : wr.cell? ⟨w.heap.size, 6, none⟩ = some (.slice A us.length c) := hb.out.cell 6
    by_cases hlt : i < us.length
    · have hlt' : (i : Int) < us.length := by omega
      obtain ⟨ad, k2, x2, y2, n2, i2, T2, tl2, tc2, A2, m2', c2, rfl, hSb, hab, ⟨y0, y1, y2', y3, y4, y5, y6⟩, hel⟩ := (H.out.2.1.up hbl.out).elem hlt
      obtain ⟨t, ht⟩ : ∃ t, t = us[i] := ⟨_, rfl⟩
      rw [← ht] at hel
      have Q := hid (And.intro hel (And.intro (show t ∈ us by rw [ht]; exact List.getElem_mem hlt) ht))
      clear hi hel hSb hab ht
      go_wp2_with (go_at_call 26; go_must (refine (H.out.2.2 t Q.out.2.1 _ _ _ Q.out.1).mono ?_); rintro e w1 ⟨⟨r, rfl, hr⟩, b1⟩; have R := hid (And.intro hr b1); clear hr b1)
      · go_ret
        exact low_yes (below_hop R.out.2 hbl.out)
      · have hgk := Hi.out
        have hbm := hb.out.lt
        go_roundg (gk - 1)
        case rel => exact ⟨i + 1, by omega, by go_num, hid (fun j hj hji => by
          by_cases e : j = i
          · subst e; rw [← Q.out.2.2]; exact R.out.1 (by first | rfl | assumption | simp_all)
          · exact hall.out j hj (by omega)), hid (hb.out.below R.out.2 hbm), hid (below_hop R.out.2 hbl.out)⟩
        case measure => omega
    · obtain rfl : i = us.length := by omega
      clear hi
      go_wp2
      go_ret
      refine low_no ?_ hbl.out
      rw [lowM]
      exact ⟨by omega, lowML_of (fun u hu => by obtain ⟨j, hj, rfl⟩ := List.getElem_of_mem hu; exact hall.out j hj hj)⟩
theorem ref20_deep : ∀ (N : Nat) (t : Co), SizeOf.sizeOf t ≤ N → ∀ (d : Nat), d < 17592186044416 → ∀ (v : Value) (S : Nat → Prop) (w : World), CAt w S t v → Calls Try.prog 26 #[v, .int .i64 d] w (LowP (lowM t d) w) := by
  intro N
  induction N with
  | zero => intro t ht; cases t; simp at ht
  | succ N ih =>
  intro t ht d hd v S w hv
  obtain ⟨k, x, y, m, i, ts, us⟩ := t
  obtain ⟨T, tc, A, c, rfl, hI, hc, hrow, _⟩ := hv.parts
  cases d with
  | zero => exact r20deep_zero k x y m i T A ts.length tc us.length c _ w
  | succ d => exact r20deep_node k x y m i T A tc ts us c d S w hc.2.2.2 (by omega) hrow (fun t hm v S w => ih t (by have := co_lt (k := k) (x := x) (y := y) (n := m) (i := i) (ts := ts) hm; omega) d (by omega) v S w)
end Go.Proofs.Ytohdaclbgedeiaa
