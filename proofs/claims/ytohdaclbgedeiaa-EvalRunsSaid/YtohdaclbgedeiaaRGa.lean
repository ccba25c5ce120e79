/-
  EVAL, PLAIN: the same evaluation with more bound around, some steps later, behind other writes.
-/
import Derived.Test.YtohdaclbgedeiaaEFuelP
import Derived.Test.YtohdaclbgedeiaaEOpen
import Derived.WalkSpells
import Derived.Test.YtohdaclbgedeiaaEFormedAll
import Derived.Test.YtohdaclbgedeiaaEClosed
import Derived.Maps.AppendAt
import Derived.Test.YtohdaclbgedeiaaEWeigh
import Derived.Test.YtohdaclbgedeiaaEGoodA
import Derived.Test.YtohdaclbgedeiaaESimE
import Derived.Deep.RegionHeld2
namespace Go.Proofs.Ytohdaclbgedeiaa
set_option linter.all false
namespace Ev
mutual
/-- The same value, but for what is bound around at the tails. -/
inductive RV : Va → Va → Prop
  | num {n : Int} : RV (.num n) (.num n)
  | con {t : Int} {us us' : List Va} : RVs us us' → RV (.con t us) (.con t us')
  | clo {x self : Int} {b : Co} {e e' : En} : RE e e' → RV (.clo x self b e) (.clo x self b e')
inductive RVs : List Va → List Va → Prop
  | nil : RVs [] []
  | cons {v v' : Va} {vs vs' : List Va} : RV v v' → RVs vs vs' → RVs (v :: vs) (v' :: vs')
inductive RE : En → En → Prop
  | nil {e' : En} : RE .nil e'
  | bind {x : Int} {v v' : Va} {e e' : En} : RV v v' → RE e e' → RE (.bind x v e) (.bind x v' e')
end
theorem find_rel : ∀ {e e' : En}, RE e e' → ∀ {x : Int} {v : Va}, e.find x = some v → ∃ v', e'.find x = some v' ∧ RV v v'
  | .nil, _, _, x, v, h => by simp [En.find] at h
  | .bind y u e, _, .bind hu he, x, v, h => by
    by_cases hx : y = x
    · rw [En.find, if_pos hx] at h
      injection h with h
      subst h
      exact ⟨_, by rw [En.find, if_pos hx], hu⟩
    · rw [En.find, if_neg hx] at h
      obtain ⟨v', h1, h2⟩ := find_rel he h
      exact ⟨v', by rw [En.find, if_neg hx]; exact h1, h2⟩
theorem rvs_len : ∀ {us us' : List Va}, RVs us us' → us'.length = us.length
  | _, _, .nil => rfl
  | _, _, .cons _ h => by simp [rvs_len h]
theorem rvs_get : ∀ {us us' : List Va}, RVs us us' → ∀ {i : Nat} {v : Va}, us[i]? = some v → ∃ v', us'[i]? = some v' ∧ RV v v'
  | _, _, .nil, i, v, h => by simp at h
  | _, _, .cons h1 h2, 0, v, h => by simp at h; subst h; exact ⟨_, by simp, h1⟩
  | _, _, .cons h1 h2, i + 1, v, h => by
    obtain ⟨v', h3, h4⟩ := rvs_get h2 (i := i) (by simpa using h)
    exact ⟨v', by simpa using h3, h4⟩
def RO {α : Type} (Rel : α → α → Prop) : Out α → Out α → Prop
  | .ok a, .ok b => Rel a b
  | .stop k, .stop l => k = l
  | _, _ => False
section
variable {α β : Type} {δ : Nat} {p : List Int}
def Sm (δ : Nat) (p : List Int) (Rel : α → α → Prop) (r r' : R α) : Prop := ∀ o s' w', r = some (o, s', w') → (p = [] ∨ p.length + w'.length < 4096) → ∃ o', r' = some (o', s' + δ, p ++ w') ∧ RO Rel o o'
theorem Sm.z {Rel : α → α → Prop} {r' : R α} : Sm δ p Rel none r' := fun _ _ _ h => by cases h
theorem Sm.ok {Rel : α → α → Prop} {a a' : α} {s : Nat} {w : List Int} (h : Rel a a') : Sm δ p Rel (some (.ok a, s, w)) (some (.ok a', s + δ, p ++ w)) := fun o s' w' hy _ => by
  injection hy with hy; injection hy with h1 hy; injection hy with h2 h3
  subst h1 h2 h3
  exact ⟨_, rfl, h⟩
theorem Sm.stop {Rel : α → α → Prop} {k : Int} {s : Nat} {w : List Int} : Sm δ p Rel (some (.stop k, s, w)) (some (.stop k, s + δ, p ++ w)) := fun o s' w' hy _ => by
  injection hy with hy; injection hy with h1 hy; injection hy with h2 h3
  subst h1 h2 h3
  exact ⟨_, rfl, rfl⟩
theorem Sm.bnd {Ra : α → α → Prop} {Rb : β → β → Prop} {r r' : R α} {k k' : α → Nat → List Int → R β} {F : Nat} (h : Sm δ p Ra r r') (hG : ∀ a s1 w1, Grows F s1 w1 (k a s1 w1)) (hk : ∀ a a' s1 w1, Ra a a' → Sm δ p Rb (k a s1 w1) (k' a' (s1 + δ) (p ++ w1))) : Sm δ p Rb (bnd r k) (bnd r' k') := by
  intro o s' w' hy hp
  rcases bnd_some hy with ⟨e, h1, rfl⟩ | ⟨a, s1, w1, h1, h2⟩
  · obtain ⟨o', h3, h4⟩ := h _ _ _ h1 hp
    cases o' with
    | ok a => exact h4.elim
    | stop e' =>
      have : e = e' := h4
      subst this
      exact ⟨.stop e, bnd_stop h3, rfl⟩
  · have hpre := (hG a s1 w1 _ _ _ h2).pre.length_le
    obtain ⟨o', h3, h4⟩ := h _ _ _ h1 (hp.imp id (fun h => by omega))
    cases o' with
    | stop e' => exact h4.elim
    | ok a' =>
      obtain ⟨o2, h5, h6⟩ := hk a a' s1 w1 h4 _ _ _ h2 hp
      exact ⟨o2, by rw [bnd_ok h3]; exact h5, h6⟩
end
section
variable {F δ : Nat} {p : List Int}
theorem Sm.evL {f f' : Co → Nat → List Int → R Va} (h : ∀ c s w, Sm δ p RV (f c s w) (f' c (s + δ) (p ++ w))) (hg : ∀ c s w, Grows F s w (f c s w)) : ∀ cs s w, Sm δ p RVs (evL f cs s w) (evL f' cs (s + δ) (p ++ w))
  | [], s, w => Sm.ok .nil
  | c :: cs, s, w => by
    rw [Ev.evL, Ev.evL]
    by_cases h9 : cs.length < 900000
    · rw [if_pos h9, if_pos h9]
      exact Sm.bnd (F := F) (h c s w) (fun a s1 w1 => Grows.bnd (Grows.evL hg cs s1 w1) (fun _ _ _ => Grows.now)) (fun a a' s1 w1 ha => Sm.bnd (F := F) (Sm.evL h hg cs s1 w1) (fun _ _ _ => Grows.now) (fun b b' s2 w2 hb => Sm.ok (.cons ha hb)))
    · rw [if_neg h9]; exact Sm.z
theorem Sm.field (n : Int) (s : Nat) (w : List Int) {vs vs' : List Va} (h : RVs vs vs') : Sm δ p RV (field n s w vs) (field n (s + δ) (p ++ w) vs') := by
  cases h with
  | nil => exact Sm.z
  | cons h1 h2 =>
    cases h2 with
    | cons _ _ => rename_i v v' _ _ _ _ _ _; cases h1 <;> exact Sm.z
    | nil =>
      cases h1 with
      | num => exact Sm.stop
      | clo _ => exact Sm.stop
      | con hu =>
        rename_i t us us'
        unfold Ev.field
        cases hx : us[n.toNat]? with
        | none =>
          have : us'[n.toNat]? = none := by rw [List.getElem?_eq_none_iff] at hx ⊢; rw [rvs_len hu]; exact hx
          simp only [hx, this]
          exact Sm.stop
        | some v =>
          obtain ⟨v', h3, h4⟩ := rvs_get hu hx
          simp only [hx, h3]
          exact Sm.ok h4
theorem Sm.prim (n : Int) (s : Nat) (w : List Int) {vs vs' : List Va} (h : RVs vs vs') : Sm δ p RV (prim n s w vs) (prim n (s + δ) (p ++ w) vs') := by
  cases h with
  | nil => exact Sm.z
  | cons h1 h2 =>
    cases h2 with
    | nil => cases h1 <;> exact Sm.z
    | cons h3 h4 =>
      cases h4 with
      | cons _ _ => cases h1 <;> cases h3 <;> exact Sm.z
      | nil =>
        cases h1 with
        | con _ => exact Sm.stop
        | clo _ => exact Sm.stop
        | num =>
          cases h3 with
          | con _ => exact Sm.stop
          | clo _ => exact Sm.stop
          | num =>
            rename_i a b
            unfold Ev.prim
            by_cases hd : dok n b = true
            · simp only [hd, if_true]
              refine Sm.ok ?_
              split
              · exact .num
              · exact .con .nil
            · simp only [hd]
              exact Sm.stop
theorem Sm.tell (s : Nat) (w : List Int) {vs vs' : List Va} (h : RVs vs vs') : Sm δ p RV (tell s w vs) (tell (s + δ) (p ++ w) vs') := by
  cases h with
  | nil => exact Sm.z
  | cons h1 h2 =>
    cases h2 with
    | cons _ _ => cases h1 <;> exact Sm.z
    | nil =>
      cases h1 with
      | con _ => exact Sm.stop
      | clo _ => exact Sm.stop
      | num =>
        rename_i a
        unfold Ev.tell
        intro o s' w' hy hp
        dsimp only at hy ⊢
        by_cases hw : w.length = 4096
        · rw [if_pos hw] at hy
          injection hy with hy; injection hy with h1 hy; injection hy with h2 h3
          subst h1 h2 h3
          rcases hp with rfl | hp
          · exact ⟨.stop 4, by rw [if_pos (by simpa using hw)], rfl⟩
          · omega
        · rw [if_neg hw] at hy
          injection hy with hy; injection hy with h1 hy; injection hy with h2 h3
          subst h1 h2 h3
          refine ⟨.ok (.con 0 []), ?_, .con .nil⟩
          rw [if_neg (by
            rcases hp with rfl | hp
            · simpa using hw
            · simp at hp ⊢; omega), List.append_assoc]
theorem arm_rel (i : Bool) (ts : List Int) (us : List Co) {v v' : Va} (h : RV v v') : arm i ts us v' = arm i ts us v := by
  cases h <;> rfl
theorem Sm.app {f f' : Co → En → Nat → List Int → R Va} (h : ∀ c e e' s w, RE e e' → Sm δ p RV (f c e s w) (f' c e' (s + δ) (p ++ w))) {vf vf' va va' : Va} (hf : RV vf vf') (ha : RV va va') (s : Nat) (w : List Int) : Sm δ p RV (app F f vf va s w) (app (F + δ) f' vf' va' (s + δ) (p ++ w)) := by
  unfold Ev.app
  by_cases hs : s = F
  · rw [if_pos hs, if_pos (by omega)]; exact Sm.stop
  · rw [if_neg hs, if_neg (by omega)]
    cases hf with
    | num => rw [show s + δ + 1 = s + 1 + δ by omega]; exact Sm.stop
    | con _ => rw [show s + δ + 1 = s + 1 + δ by omega]; exact Sm.stop
    | clo he =>
      rename_i x self b e e'
      show Sm δ p RV (f b (.bind x va (around x self b e)) (s + 1) w) (f' b (.bind x va' (around x self b e')) (s + δ + 1) (p ++ w))
      rw [show s + δ + 1 = s + 1 + δ by omega]
      refine h _ _ _ _ _ (.bind ha ?_)
      unfold around
      by_cases h9 : 0 < self
      · rw [if_pos h9, if_pos h9]; exact .bind (.clo he) he
      · rw [if_neg h9, if_neg h9]; exact he
theorem Sm.evS {f f' : Co → En → Nat → List Int → R Va} (h : ∀ c e e' s w, RE e e' → Sm δ p RV (f c e s w) (f' c e' (s + δ) (p ++ w))) (hg : ∀ c e s w, Grows F s w (f c e s w)) (c : Co) (e e' : En) (s : Nat) (w : List Int) (he : RE e e') : Sm δ p RV (evS F f c e s w) (evS (F + δ) f' c e' (s + δ) (p ++ w)) := by
  obtain ⟨k, x, y, n, i, ts, us⟩ := c
  have hL : ∀ us s w, Sm δ p RVs (Ev.evL (fun c s w => f c e s w) us s w) (Ev.evL (fun c s w => f' c e' s w) us (s + δ) (p ++ w)) := Sm.evL (fun c s w => h c e e' s w he) (fun c s w => hg c e s w)
  unfold Ev.evS
  dsimp only
  by_cases h1 : k = 1
  · rw [if_pos h1, if_pos h1]
    cases us with
    | cons _ _ => exact Sm.z
    | nil =>
      cases hf : e.find x with
      | none => exact Sm.z
      | some v =>
        obtain ⟨v', h3, h4⟩ := find_rel he hf
        rw [h3]
        exact Sm.ok h4
  rw [if_neg h1, if_neg h1]
  by_cases h2 : k = 2
  · rw [if_pos h2, if_pos h2]
    cases us with
    | cons _ _ => exact Sm.z
    | nil => exact Sm.ok .num
  rw [if_neg h2, if_neg h2]
  by_cases h3 : k = 3
  · rw [if_pos h3, if_pos h3]
    match us with
    | [] => exact Sm.z
    | [b] => exact Sm.ok (.clo he)
    | _ :: _ :: _ => exact Sm.z
  rw [if_neg h3, if_neg h3]
  by_cases h4 : k = 4
  · rw [if_pos h4, if_pos h4]
    match us with
    | [] => exact Sm.z
    | [_] => exact Sm.z
    | _ :: _ :: _ :: _ => exact Sm.z
    | [a, b] => exact Sm.bnd (F := F) (h a e e' s w he) (fun vf s1 w1 => Grows.bnd (hg b e s1 w1) (fun va s2 w2 => Grows.app hg vf va s2 w2)) (fun vf vf' s1 w1 hvf => Sm.bnd (F := F) (h b e e' s1 w1 he) (fun va s2 w2 => Grows.app hg vf va s2 w2) (fun va va' s2 w2 hva => Sm.app h hvf hva s2 w2))
  rw [if_neg h4, if_neg h4]
  by_cases h5 : k = 5
  · rw [if_pos h5, if_pos h5]
    match us with
    | [] => exact Sm.z
    | [_] => exact Sm.z
    | _ :: _ :: _ :: _ => exact Sm.z
    | [a, b] => exact Sm.bnd (F := F) (h a e e' s w he) (fun v s1 w1 => hg b (.bind x v e) s1 w1) (fun v v' s1 w1 hv => h b _ _ s1 w1 (.bind hv he))
  rw [if_neg h5, if_neg h5]
  by_cases h6 : k = 6
  · rw [if_pos h6, if_pos h6]
    match us with
    | [] => exact Sm.z
    | [_] => exact Sm.z
    | _ :: _ :: _ :: _ => exact Sm.z
    | [a, b] =>
      by_cases hx : 0 < x
      · simp only [if_pos hx]
        exact h b _ _ s w (.bind (.clo he) he)
      · simp only [if_neg hx]; exact Sm.z
  rw [if_neg h6, if_neg h6]
  by_cases h7 : k = 7
  · rw [if_pos h7, if_pos h7]
    exact Sm.bnd (F := F) (hL us s w) (fun _ _ _ => Grows.now) (fun vs vs' s1 w1 hv => Sm.ok (.con hv))
  rw [if_neg h7, if_neg h7]
  by_cases h8 : k = 8
  · rw [if_pos h8, if_pos h8]
    refine Sm.bnd (F := F) (hL us s w) (fun vs s1 w1 => ?_) (fun vs vs' s1 w1 hv => ?_)
    · split
      · exact Grows.field _ _
      · exact Grows.none
    · by_cases hn : 0 ≤ n
      · rw [if_pos hn, if_pos hn]; exact Sm.field n s1 w1 hv
      · rw [if_neg hn]; exact Sm.z
  rw [if_neg h8, if_neg h8]
  by_cases h9 : k = 9
  · rw [if_pos h9, if_pos h9]
    match us with
    | [] => exact Sm.z
    | a :: us =>
      refine Sm.bnd (F := F) (h a e e' s w he) (fun v s1 w1 => Grows.sw hg i ts us e v s1 w1) (fun v v' s1 w1 hv => ?_)
      unfold Ev.sw
      rw [arm_rel i ts us hv]
      cases arm i ts us v with
      | none => exact Sm.stop
      | some c => exact h c e e' s1 w1 he
  rw [if_neg h9, if_neg h9]
  by_cases h10 : k = 10
  · rw [if_pos h10, if_pos h10]
    refine Sm.bnd (F := F) (hL us s w) (fun vs s1 w1 => ?_) (fun vs vs' s1 w1 hv => ?_)
    · split
      · exact Grows.prim _ _
      · exact Grows.none
    · by_cases hn : 1 ≤ n ∧ n ≤ 7
      · rw [if_pos hn, if_pos hn]; exact Sm.prim n s1 w1 hv
      · rw [if_neg hn]; exact Sm.z
  rw [if_neg h10, if_neg h10]
  by_cases h11 : k = 11
  · rw [if_pos h11, if_pos h11]
    exact Sm.bnd (F := F) (hL us s w) (fun vs s1 w1 => Grows.tell _) (fun vs vs' s1 w1 hv => Sm.tell s1 w1 hv)
  rw [if_neg h11]
  exact Sm.z
/-- The same evaluation, elsewhere. -/
theorem ev_sim : ∀ g c e e' s w, RE e e' → Sm δ p RV (ev F g c e s w) (ev (F + δ) g c e' (s + δ) (p ++ w))
  | 0, _, _, _, _, _, _ => Sm.z
  | g + 1, c, e, e', s, w, he => Sm.evS (fun c e e' s w he => ev_sim g c e e' s w he) (fun c e s w => ev_grows F g c e s w) c e e' s w he
end
mutual
theorem RV.refl : ∀ v : Va, RV v v
  | .num _ => .num
  | .con _ us => .con (RVs.refl us)
  | .clo _ _ _ e => .clo (RE.refl e)
theorem RVs.refl : ∀ us : List Va, RVs us us
  | [] => .nil
  | v :: vs => .cons (RV.refl v) (RVs.refl vs)
theorem RE.refl : ∀ e : En, RE e e
  | .nil => .nil
  | .bind _ v e => .bind (RV.refl v) (RE.refl e)
end
mutual
theorem show_rel : ∀ {v v' : Va}, RV v v' → ∀ l, showV v' l = showV v l
  | _, _, .num, l => rfl
  | _, _, .con (us := us) (us' := us') h, l => by
    rw [showV, showV]
    split
    · rfl
    · exact showL_rel h _
  | _, _, .clo _, l => by rw [showV, showV]
theorem showL_rel : ∀ {us us' : List Va}, RVs us us' → ∀ l, showL us' l = showL us l
  | _, _, .nil, l => rfl
  | _, _, .cons h1 h2, l => by
    rw [showL, showL, show_rel h1 l]
    split
    · exact showL_rel h2 _
    · rfl
end
end Ev
end Go.Proofs.Ytohdaclbgedeiaa
/-
  EVAL, PLAIN: bound by a let around, and by a function that is applied, a whole expression is evaluated to the same.
-/
namespace Go.Proofs.Ytohdaclbgedeiaa
set_option linter.all false
namespace Ev
/-- A variable; a let around; a function that is applied. -/
def varT (x : Int) : Co := .mk 1 x 0 0 false [] []
def letT (x : Int) (c : Co) : Co := .mk 5 x 0 0 false [] [c, varT x]
def lamT (x : Int) : Co := .mk 3 x 0 0 false [] [varT x]
def appT (x : Int) (c : Co) : Co := .mk 4 0 0 0 false [] [lamT x, c]
theorem bnd_id {α : Type} (r : R α) : bnd r (fun a s w => some (.ok a, s, w)) = r := by
  match r with
  | none => rfl
  | some (.stop _, _, _) => rfl
  | some (.ok _, _, _) => rfl
theorem var_ev (F g : Nat) (x : Int) (v : Va) (e : En) (s : Nat) (w : List Int) : ev F (g + 1) (varT x) (.bind x v e) s w = some (.ok v, s, w) := by
  show evS F (ev F g) (.mk 1 x 0 0 false [] []) (.bind x v e) s w = _
  unfold evS
  dsimp only
  rw [if_pos rfl, En.find, if_pos rfl]
theorem let_ev (F g : Nat) (x : Int) (c : Co) : ev F (g + 2) (letT x c) .nil 0 [] = ev F (g + 1) c .nil 0 [] := by
  show evS F (ev F (g + 1)) (.mk 5 x 0 0 false [] [c, varT x]) .nil 0 [] = _
  unfold evS
  dsimp only
  rw [if_neg (by omega), if_neg (by omega), if_neg (by omega), if_neg (by omega), if_pos rfl]
  rw [show (fun v s1 w1 => ev F (g + 1) (varT x) (.bind x v .nil) s1 w1) = (fun (v : Va) (s1 : Nat) (w1 : List Int) => (some (.ok v, s1, w1) : R Va)) from by funext v s1 w1; exact var_ev F g x v .nil s1 w1]
  exact bnd_id _
theorem let_whole {F g : Nat} {c : Co} {l : List Int} {y : Out Va × Nat × List Int} (x : Int) (h : whole F g c l = some y) : ∃ g', whole F g' (letT x c) l = some y := by
  cases g with
  | zero => cases h
  | succ g =>
    refine ⟨g + 2, ?_⟩
    unfold whole at h ⊢
    rw [let_ev]
    exact Le.bnd (Le.refl _) (fun f s w => Mono.rA F f (inputV l) s w (g + 1)) y h
/-- The function is applied. -/
def stepJ (F : Nat) (v : Va) (s : Nat) (w : List Int) : R Va := if s = F then some (.stop 3, s, w) else some (.ok v, s + 1, w)
theorem lam_ev (F g : Nat) (x : Int) : ev F (g + 1) (lamT x) .nil 0 [] = some (.ok (.clo x 0 (varT x) .nil), 0, []) := by
  show evS F (ev F g) (.mk 3 x 0 0 false [] [varT x]) .nil 0 [] = _
  unfold evS
  dsimp only
  rw [if_neg (by omega), if_neg (by omega), if_pos rfl]
theorem app_ev (F g : Nat) (x : Int) (c : Co) : ev F (g + 2) (appT x c) .nil 0 [] = bnd (ev F (g + 1) c .nil 0 []) (stepJ F) := by
  show evS F (ev F (g + 1)) (.mk 4 0 0 0 false [] [lamT x, c]) .nil 0 [] = _
  unfold evS
  dsimp only
  rw [if_neg (by omega), if_neg (by omega), if_neg (by omega), if_pos rfl, bnd_ok (lam_ev F g x)]
  congr 1
  funext va s w
  unfold app stepJ
  by_cases h : s = F
  · rw [if_pos h, if_pos h]
  · rw [if_neg h, if_neg h]
    exact var_ev F g x va _ _ w
theorem app_whole {F g s : Nat} {c : Co} {l : List Int} {o : Out Va} {ws : List Int} (x : Int) (h : whole F g c l = some (o, s, ws)) :
    (∃ g' o' s', whole (F + 1) g' (appT x c) l = some (o', s', ws) ∧ RO RV o o') ∨ (o = .stop 3 ∧ ∀ g' o' s' w', whole (F + 1) g' (appT x c) l = some (o', s', w') → ws <+: w') := by
  unfold whole at h
  have hF : Fu (ev F g c .nil 0 []) (fun g' => ev (F + 1) g' c .nil 0 []) := ev_fuel (by omega) g c .nil 0 [] (by omega)
  rcases bnd_some h with ⟨e, h1, rfl⟩ | ⟨a, s1, w1, h1, h2⟩
  · obtain ⟨p, q⟩ := hF _ _ _ h1
    by_cases he : e = 3
    · subst he
      refine .inr ⟨rfl, fun g' o' s' w' hy => ?_⟩
      have hy2 : whole (F + 1) (g' + 2) (appT x c) l = some (o', s', w') := (mono_whole (F + 1) (appT x c) l).le (by omega) _ hy
      unfold whole at hy2
      rw [app_ev] at hy2
      have hJ : ∀ {o2 : Out Va} {s2 : Nat} {w2 : List Int}, bnd (ev (F + 1) (g' + 1) c .nil 0 []) (stepJ (F + 1)) = some (o2, s2, w2) → ws <+: w2 := by
        intro o2 s2 w2 h9
        rcases bnd_some h9 with ⟨e2, h3, _⟩ | ⟨a, s3, w3, h3, h4⟩
        · exact q rfl _ _ _ _ h3
        · have h5 := q rfl _ _ _ _ h3
          unfold stepJ at h4
          by_cases h6 : s3 = F + 1
          · rw [if_pos h6] at h4; cases h4; exact h5
          · rw [if_neg h6] at h4; cases h4; exact h5
      rcases bnd_some hy2 with ⟨e2, h3, _⟩ | ⟨a, s3, w3, h3, h4⟩
      · exact hJ h3
      · exact (hJ h3).trans (gr_app (F + 1) (g' + 2) a (inputV l) s3 w3 _ _ _ h4).pre
    · obtain ⟨g2, hg2⟩ := p (fun h9 => he (by injection h9))
      have hg3 : ev (F + 1) (g2 + 1) c .nil 0 [] = some (.stop e, s, ws) := ev_succ (F + 1) g2 c .nil 0 [] _ hg2
      refine .inl ⟨g2 + 2, .stop e, s, ?_, rfl⟩
      unfold whole
      rw [app_ev]
      exact bnd_stop (bnd_stop hg3)
  · obtain ⟨g2, hg2⟩ := (hF _ _ _ h1).1 (fun h9 => by cases h9)
    have hs1 : s1 ≤ F := (ev_grows F g c .nil 0 [] _ _ _ h1).fuel (by omega)
    obtain ⟨o', h3, h4⟩ := Sm.app (δ := 1) (p := []) (fun c e e' s w he => ev_sim g c e e' s w he) (RV.refl a) (RV.refl (inputV l)) s1 w1 _ _ _ h2 (.inl rfl)
    simp only [List.nil_append] at h3
    refine .inl ⟨max g g2 + 2, o', s + 1, ?_, h4⟩
    unfold whole
    have e1 : ev (F + 1) (max g g2 + 1) c .nil 0 [] = some (.ok a, s1, w1) := (Mono.r1 (F + 1) c .nil 0 []).le (by omega) _ hg2
    have e2 : bnd (ev (F + 1) (max g g2 + 1) c .nil 0 []) (stepJ (F + 1)) = some (.ok a, s1 + 1, w1) := by
      rw [bnd_ok e1]
      unfold stepJ
      rw [if_neg (by omega)]
    rw [app_ev, bnd_ok e2]
    exact (Mono.rA (F + 1) a (inputV l) (s1 + 1) w1).le (show g ≤ max g g2 + 2 by omega) _ h3
theorem fin_rel {o o' : Out Va} (h : RO RV o o') (ws : List Int) : fin (resO o') ws = fin (resO o) ws := by
  cases o with
  | ok a =>
    cases o' with
    | ok b =>
      have h2 : RV a b := h
      show fin (showV b []) ws = fin (showV a []) ws
      rw [show_rel h2 []]
    | stop k => exact h.elim
  | stop k =>
    cases o' with
    | ok b => exact h.elim
    | stop k2 =>
      have h2 : k = k2 := h
      rw [h2]
theorem runs_whole {c : Co} {l : List Int} {fuel : Int} {r : Int × List Int × List Int × Int} {n : Nat} (hc : goodB c = true) (hl : l.length ≤ 256) (h0 : 0 ≤ fuel) (h1 : fuel ≤ 65536) (h : RunIs c l fuel r n) : ∃ g o ws, whole fuel.toNat g c l = some (o, n, ws) ∧ r = fin (resO o) ws := by
  rcases h with ⟨k1, _⟩ | ⟨_, k2, _⟩ | ⟨_, _, _, _, k⟩
  · rw [hc] at k1; cases k1
  · omega
  · exact k
/-- What the law asks of the three runs. -/
theorem let_law {c : Co} {l : List Int} {x fuel : Int} {r s t : Int × List Int × List Int × Int} {n1 n2 n3 : Nat} (hc : goodB c = true) (hl : goodB (letT x c) = true) (hm : goodB (appT x c) = true) (hi : l.length ≤ 256) (h0 : 0 ≤ fuel) (h1 : fuel ≤ 3000) (R : RunIs c l fuel r n1) (S : RunIs (letT x c) l fuel s n2) (T : RunIs (appT x c) l (fuel + 1) t n3) :
    r = s ∧ (r = t ∨ r.1 = 3 ∧ r.2.2.2 = 0 ∧ (t.2.2.2 ≠ 0 ∨ r.2.1 <+: t.2.1)) := by
  obtain ⟨g1, o1, w1, e1, rfl⟩ := runs_whole hc hi h0 (by omega) R
  obtain ⟨g2, o2, w2, e2, rfl⟩ := runs_whole hl hi h0 (by omega) S
  obtain ⟨g3, o3, w3, e3, rfl⟩ := runs_whole hm hi (by omega) (by omega) T
  rw [show (fuel + 1).toNat = fuel.toNat + 1 by omega] at e3
  obtain ⟨g4, e4⟩ := let_whole x e1
  have q1 := whole_one e4 e2
  injection q1 with q1 q2
  injection q2 with q2 q3
  subst q1 q3
  refine ⟨rfl, ?_⟩
  rcases app_whole x e1 with ⟨g5, o5, s5, e5, hr⟩ | ⟨rfl, hp⟩
  · have q5 := whole_one e5 e3
    injection q5 with q5 q6
    injection q6 with q6 q7
    subst q5 q7
    exact .inl (fin_rel hr _).symm
  · refine .inr ⟨rfl, rfl, ?_⟩
    have h9 := hp _ _ _ _ e3
    cases hq : resO o3 with
    | ok l2 => exact .inr h9
    | stop k =>
      rw [fin]
      by_cases hk : k < 0
      · rw [if_pos hk]; exact .inl (by decide)
      · rw [if_neg hk]; exact .inr h9
end Ev
end Go.Proofs.Ytohdaclbgedeiaa
/-
  THE WALKS OF athanorref10.In, AND OF athanorref20's binder, once, Tags.
-/
namespace Go.Proofs.Ytohdaclbgedeiaa
set_option linter.all false
open Go.ChangeShapes Go.WideShapes Go.ChangeAt Go.RowKit
open Ev (Co tagsB tagIn)
set_option maxHeartbeats 2000000 in
theorem ref20_binder (n : Int) (w : World) : Calls Try.prog 52 #[.int .i64 n] w fun e w' => e = .returned (.bool (decide (1 ≤ n ∧ n ≤ 65536))) ∧ w' = w := by
  by_cases h1 : 1 ≤ n
  · by_cases h2 : n ≤ 65536
    all_goals
      go_enter Try.func52, Try.ntmps52
      go_wp2
      go_ret
      exact ⟨ret_bool (by simp; omega), rfl⟩
  · go_enter Try.func52, Try.ntmps52
    go_wp2
    go_ret
    exact ⟨ret_bool (by simp; omega), rfl⟩
/-- It says yes only where this holds. -/
def OnlyP (p : Prop) (w : World) (e : Ending) (w' : World) : Prop := (∃ b : Bool, e = .returned (.bool b) ∧ (b = true → p)) ∧ Below w.heap.size w w'
theorem nodup_of {l : List Int} (h : ∀ i, (hi : i < l.length) → ∀ k, (hk : k < i) → l[k]'(by omega) ≠ l[i]) : l.Nodup := by
  unfold List.Nodup
  rw [List.pairwise_iff_getElem]
  intro i j hi hj hij
  exact h j hj i hij
theorem tags_of {i : Bool} : ∀ {ts seen : List Int}, (∀ n ∈ ts, tagIn i n = true) → (seen ++ ts).Nodup → tagsB i seen ts = true
  | [], _, _, _ => by rw [tagsB]
  | n :: ts, seen, h1, h2 => by
    rw [tagsB]
    have h3 : (seen ++ [n]) ++ ts = seen ++ (n :: ts) := by simp
    have h4 := tags_of (ts := ts) (seen := seen ++ [n]) (fun m hm => h1 m (by simp [hm])) (by rw [h3]; exact h2)
    have h5 : ¬ n ∈ seen := fun hm => by
      unfold List.Nodup at h2
      rw [List.pairwise_append] at h2
      exact h2.2.2 n hm n (by simp) rfl
    rw [h4, h1 n (by simp)]
    simp [h5]
set_option maxHeartbeats 4000000 in
set_option maxRecDepth 100000 in
theorem ref20_once (l : List Int) (T : Option Addr) (tc : Nat) (S : Nat → Prop) (w : World) (hI : IAt w S l T tc) : Calls Try.prog 65 #[.slice T l.length tc] w (OnlyP l.Nodup w) := by
  have HI := hid hI
  have ht := hI.1.2.2.2
  clear hI
  go_enter Try.func65, Try.ntmps65
  go_wp2
  go_loopg [3] l.length (fun g z wr => ∃ i : Nat, i + g = l.length ∧ z = .int .i64 i ∧ Hid (Below w.heap.size w wr) ∧ Hid (∀ j, (hj : j < l.length) → j < i → ∀ k, (hk : k < j) → l[k]'(by omega) ≠ l[j]))
  case atStart => exact ⟨0, by omega, rfl, hid (Below.refl _ _), hid (fun j hj h => by omega)⟩
  case round =>
    obtain ⟨i, hi, rfl, hb, hn⟩ := hrel
    have Hi := hid hi
    by_cases hlt : i < l.length
    case neg =>
      obtain rfl : i = l.length := by omega
      clear hi
      go_wp2
      go_ret
      exact ⟨⟨true, rfl, fun _ => nodup_of (fun i hi k hk => hn.out i hi hi k hk)⟩, hb.out⟩
    have hlt' : (i : Int) < l.length := by omega
    have HLT := hid hlt
    obtain ⟨W, hW⟩ : ∃ W, W = wr := ⟨_, rfl⟩
    subst hW
    obtain ⟨gi, hgi⟩ : ∃ gi, gi = gk := ⟨_, rfl⟩
    subst hgi
    clear hi
    go_wp2
    go_loopg [4] i (fun g z wr => ∃ k : Nat, k + g = i ∧ z = .int .i64 k ∧ Hid (Below w.heap.size w wr) ∧ Hid (∀ j, (hj : j < i) → j < k → l[j]'(by have := HLT.out; omega) ≠ l[i]'HLT.out))
    case atStart => exact ⟨0, by omega, rfl, hb, hid (fun j hj h => by omega)⟩
    case round =>
      obtain ⟨k, hk, rfl, hbb, hkk⟩ := hrel
      have Hk := hid hk
      by_cases hlk : k < i
      case neg =>
        obtain rfl : k = i := by omega
        clear hk
        go_wp2
        have hgk := Hi.out
        go_roundg (gi - 1)
        case rel => exact ⟨k + 1, by omega, by go_num, hbb, hid (fun j hj hji m hm => by
          by_cases e : j = k
          · subst e; exact hkk.out m hm hm
          · exact hn.out j hj (by omega) m hm)⟩
        case measure => omega
      have hlk' : (k : Int) < i := by omega
      have hlk2 : (k : Int) < l.length := by omega
      obtain ⟨ad, rfl, hS9, y0, _⟩ := (HI.out.keep (fun b hb' hl => ⟨hbb.out.block b hl, hb'⟩)).2 k (by omega)
      obtain ⟨ad', e9, hS8, y1, _⟩ := (HI.out.keep (fun b hb' hl => ⟨hbb.out.block b hl, hb'⟩)).2 i HLT.out
      injection e9 with e9
      subst e9
      obtain ⟨t, ht9⟩ : ∃ t, t = l[k]'(by omega) := ⟨_, rfl⟩
      obtain ⟨u, hu9⟩ : ∃ u, u = l[i]'HLT.out := ⟨_, rfl⟩
      replace y0 : wr.cell? (ad.add k) = some (.int .i64 t) := by rw [ht9]; exact y0
      replace y1 : wr.cell? (ad.add i) = some (.int .i64 u) := by rw [hu9]; exact y1
      have HT := hid (And.intro ht9 hu9)
      have HK := hid hlk
      clear hk ht9 hu9 hS8 hS9
      by_cases he : t = u
      · subst he
        go_wp2
        go_region
        go_wp2
        go_ret
        exact ⟨⟨false, rfl, fun h => by cases h⟩, hbb.out.drew⟩
      · have HE := hid he
        go_wp2
        go_region
        go_wp2
        have hgk := Hk.out
        have hlk9 := HK.out
        go_roundg (gk - 1)
        case rel => exact ⟨k + 1, by omega, by go_num, hid hbb.out.drew, hid (fun j hj hjk => by
          by_cases e : j = k
          · subst e; rw [← HT.out.1, ← HT.out.2]; exact HE.out
          · exact hkk.out j hj (by omega))⟩
        case measure => omega
set_option maxHeartbeats 4000000 in
set_option maxRecDepth 100000 in
theorem tags_ints (l : List Int) (T : Option Addr) (tc : Nat) (S : Nat → Prop) (w : World) (hI : IAt w S l T tc) : Calls Try.prog 53 #[.slice T l.length tc, .bool true] w (OnlyP (tagsB true [] l = true) w) := by
  have HI := hid hI
  have ht := hI.1.2.2.2
  clear hI
  go_enter Try.func53, Try.ntmps53
  go_wp2
  go_loopg [5] l.length (fun g z wr => ∃ i : Nat, i + g = l.length ∧ z = .int .i64 i ∧ Hid (Below w.heap.size w wr) ∧ Hid (∀ j, (hj : j < l.length) → j < i → tagIn true l[j] = true))
  case atStart => exact ⟨0, by omega, rfl, hid (Below.refl _ _), hid (fun j hj h => by omega)⟩
  case round =>
    obtain ⟨i, hi, rfl, hb, hn⟩ := hrel
    have Hi := hid hi
    by_cases hlt : i < l.length
    case neg =>
      obtain rfl : i = l.length := by omega
      clear hi
      go_wp2_with (go_at_call 65; (refine (ref20_once l T tc S _ (HI.out.keep (fun b hb' hl => ⟨hb.out.block b hl, hb'⟩))).mono ?_); rintro e w1 ⟨⟨b, rfl, hnd⟩, b1⟩; have B1 := hid (And.intro hnd b1); clear hnd b1)
      all_goals go_ret
      all_goals first
        | exact ⟨⟨_, rfl, fun h => tags_of (fun n hm => by obtain ⟨j, hj, rfl⟩ := List.getElem_of_mem hm; exact hn.out j hj hj) (by simpa using B1.out.1 (by simpa using h))⟩, below_hop B1.out.2 hb.out⟩
        | exact ⟨⟨false, rfl, fun h => by cases h⟩, hb.out⟩
    have hlt' : (i : Int) < l.length := by omega
    have HLT := hid hlt
    obtain ⟨ad, rfl, hS9, y0, hwf⟩ := (HI.out.keep (fun b hb' hl => ⟨hb.out.block b hl, hb'⟩)).2 i hlt
    obtain ⟨t, ht9⟩ : ∃ t, t = l[i]'hlt := ⟨_, rfl⟩
    have HT := hid ht9
    replace y0 : wr.cell? (ad.add i) = some (.int .i64 t) := by rw [ht9]; exact y0
    clear hi ht9 hwf hS9
    cases he : in31 t with
    | true =>
      have HE := hid (show tagIn true t = true by unfold tagIn; simpa using he)
      have he2 := he
      go_wp2_with (go_at_call 51; (refine (ref10_In t _).mono ?_); rw [he]; rintro e w1 ⟨rfl, h9⟩; have h8 := h9.symm; subst h8; clear h9)
      have hgk := Hi.out
      have hlt9 := HLT.out
      go_roundg (gk - 1)
      case rel => exact ⟨i + 1, by omega, by go_num, hb, hid (fun j hj hji => by
        by_cases e : j = i
        · subst e; rw [← HT.out]; exact HE.out
        · exact hn.out j hj (by omega))⟩
      case measure => omega
    | false =>
      go_wp2_with (go_at_call 51; (refine (ref10_In t _).mono ?_); rw [he]; rintro e w1 ⟨rfl, h9⟩; have h8 := h9.symm; subst h8; clear h9)
      go_ret
      exact ⟨⟨false, rfl, fun h => by cases h⟩, hb.out⟩
set_option maxHeartbeats 4000000 in
set_option maxRecDepth 100000 in
theorem tags_cons (l : List Int) (T : Option Addr) (tc : Nat) (S : Nat → Prop) (w : World) (hI : IAt w S l T tc) : Calls Try.prog 53 #[.slice T l.length tc, .bool false] w (OnlyP (tagsB false [] l = true) w) := by
  have HI := hid hI
  have ht := hI.1.2.2.2
  clear hI
  go_enter Try.func53, Try.ntmps53
  go_wp2
  go_loopg [5] l.length (fun g z wr => ∃ i : Nat, i + g = l.length ∧ z = .int .i64 i ∧ Hid (Below w.heap.size w wr) ∧ Hid (∀ j, (hj : j < l.length) → j < i → tagIn false l[j] = true))
  case atStart => exact ⟨0, by omega, rfl, hid (Below.refl _ _), hid (fun j hj h => by omega)⟩
  case round =>
    obtain ⟨i, hi, rfl, hb, hn⟩ := hrel
    have Hi := hid hi
    by_cases hlt : i < l.length
    case neg =>
      obtain rfl : i = l.length := by omega
      clear hi
      go_wp2_with (go_at_call 65; (refine (ref20_once l T tc S _ (HI.out.keep (fun b hb' hl => ⟨hb.out.block b hl, hb'⟩))).mono ?_); rintro e w1 ⟨⟨b, rfl, hnd⟩, b1⟩; have B1 := hid (And.intro hnd b1); clear hnd b1)
      all_goals go_ret
      all_goals first
        | exact ⟨⟨_, rfl, fun h => tags_of (fun n hm => by obtain ⟨j, hj, rfl⟩ := List.getElem_of_mem hm; exact hn.out j hj hj) (by simpa using B1.out.1 (by simpa using h))⟩, below_hop B1.out.2 hb.out⟩
        | exact ⟨⟨false, rfl, fun h => by cases h⟩, hb.out⟩
    have hlt' : (i : Int) < l.length := by omega
    have HLT := hid hlt
    obtain ⟨ad, rfl, hS9, y0, hwf⟩ := (HI.out.keep (fun b hb' hl => ⟨hb.out.block b hl, hb'⟩)).2 i hlt
    obtain ⟨t, ht9⟩ : ∃ t, t = l[i]'hlt := ⟨_, rfl⟩
    have HT := hid ht9
    replace y0 : wr.cell? (ad.add i) = some (.int .i64 t) := by rw [ht9]; exact y0
    clear hi ht9 hwf hS9
    by_cases he : t < 0
    · go_wp2
      go_ret
      exact ⟨⟨false, rfl, fun h => by cases h⟩, hb.out⟩
    by_cases he2 : 31 < t
    · go_wp2
      go_ret
      exact ⟨⟨false, rfl, fun h => by cases h⟩, hb.out⟩
    · have HE := hid (show tagIn false t = true by unfold tagIn; simp; omega)
      go_wp2
      have hgk := Hi.out
      have hlt9 := HLT.out
      go_roundg (gk - 1)
      case rel => exact ⟨i + 1, by omega, by go_num, hb, hid (fun j hj hji => by
        by_cases e : j = i
        · subst e; rw [← HT.out]; exact HE.out
        · exact hn.out j hj (by omega))⟩
      case measure => omega
theorem ref20_Tags (l : List Int) (b : Bool) (T : Option Addr) (tc : Nat) (S : Nat → Prop) (w : World) (hI : IAt w S l T tc) : Calls Try.prog 53 #[.slice T l.length tc, .bool b] w (OnlyP (tagsB b [] l = true) w) := by
  cases b
  · exact tags_cons l T tc S w hI
  · exact tags_ints l T tc S w hI
end Go.Proofs.Ytohdaclbgedeiaa
/-
  THE WALK OF athanorref20.shape: it says yes only of a node that has what its kind has.
-/
namespace Go.Proofs.Ytohdaclbgedeiaa
set_option linter.all false
open Go.ChangeShapes Go.WideShapes Go.ChangeAt Go.RowKit
open Ev (Co tagsB tagIn formB plainB taggedB bindL)
/-- A node that has what its kind has, its binders in range. -/
def ShapeIs (k x y n : Int) (b : Bool) (ts : List Int) (l : Nat) : Prop := formB k x y n b ts l = true ∧ ∀ z ∈ bindL k x y, 1 ≤ z ∧ z ≤ 65536
theorem no_of {p : Prop} {w w' : World} {b : Bool} (h : b = false) (hb : Below w.heap.size w w') : OnlyP p w (.returned (.bool b)) w' := ⟨⟨b, rfl, fun h2 => by rw [h] at h2; cases h2⟩, hb⟩
theorem yes_of {p : Prop} {w w' : World} {b : Bool} (h : b = true → p) (hb : Below w.heap.size w w') : OnlyP p w (.returned (.bool b)) w' := ⟨⟨b, rfl, h⟩, hb⟩
theorem ref20_Tags' (l : List Int) (b : Bool) (T : Option Addr) (tl tc : Nat) (S : Nat → Prop) (w : World) (htl : tl = l.length) (hI : IAt w S l T tc) : Calls Try.prog 53 #[.slice T tl tc, .bool b] w (OnlyP (tagsB b [] l = true) w) := by
  subst htl
  exact ref20_Tags l b T tc S w hI

theorem leaf1 {x y m : Int} {ts : List Int} {l : Nat} (h : ts = []) (hy : (y != 0) = false) (h2 : l = 0) (h3 : (m == 0) = true) : ShapeIs 1 x y m false ts l := by
  subst h
  simp at *
  refine ⟨?_, fun z hz => ?_⟩
  · unfold formB plainB
    simp [*]
    try omega
  · simp [bindL] at hz
    try (first | (subst hz; assumption) | (rcases hz with rfl | rfl; assumption; assumption))

set_option maxHeartbeats 8000000 in
set_option maxRecDepth 100000 in
theorem shape1 (x y m : Int) (b : Bool) (T A : Option Addr) (tc : Nat) (ts : List Int) (l c : Nat) (w : World) : Calls Try.prog 38 #[.agg #[.int .i64 1, .int .i64 x, .int .i64 y, .int .i64 m, .bool b, .slice T ts.length tc, .slice A l c]] w (OnlyP (ShapeIs 1 x y m b ts l) w) := by
  obtain ⟨P, hP⟩ : ∃ P, P = ShapeIs 1 x y m b ts l := ⟨_, rfl⟩
  rw [← hP]
  have HP := hid hP
  clear hP
  cases b
  all_goals
    go_enter Try.func38, Try.ntmps38
    go_wp2_with (first
    | (go_at_call 52; (refine (ref20_binder _ _).mono ?_); rintro e9 w1 ⟨rfl, h9⟩; subst h9)
    | (go_at_call 51; (refine (ref10_In _ _).mono ?_); rintro e9 w1 ⟨rfl, h9⟩; have h8 := h9.symm; subst h8; clear h9))
    all_goals first
      | exact absurd (List.length_pos_iff.2 (by assumption)) (by assumption)
      | go_ret
    all_goals (try first | exact no_of rfl (al1 _ _))
    all_goals exact yes_of (fun h => HP.out ▸ leaf1 (by assumption) (by assumption) (by assumption) (by assumption)) (al1 _ _)

theorem leaf2 {x y m : Int} {ts : List Int} {l : Nat} (h : ts = []) (hy : (y != 0) = false) (h2 : l = 0) (h3 : x = 0) (h4 : in31 m = true) : ShapeIs 2 x y m false ts l := by
  subst h
  simp at *
  refine ⟨?_, fun z hz => ?_⟩
  · unfold formB plainB
    simp [*]
    try omega
  · simp [bindL] at hz
    try (first | (subst hz; assumption) | (rcases hz with rfl | rfl; assumption; assumption))

set_option maxHeartbeats 8000000 in
set_option maxRecDepth 100000 in
theorem shape2 (x y m : Int) (b : Bool) (T A : Option Addr) (tc : Nat) (ts : List Int) (l c : Nat) (w : World) : Calls Try.prog 38 #[.agg #[.int .i64 2, .int .i64 x, .int .i64 y, .int .i64 m, .bool b, .slice T ts.length tc, .slice A l c]] w (OnlyP (ShapeIs 2 x y m b ts l) w) := by
  obtain ⟨P, hP⟩ : ∃ P, P = ShapeIs 2 x y m b ts l := ⟨_, rfl⟩
  rw [← hP]
  have HP := hid hP
  clear hP
  cases b
  all_goals
    go_enter Try.func38, Try.ntmps38
    go_wp2_with (first
    | (go_at_call 52; (refine (ref20_binder _ _).mono ?_); rintro e9 w1 ⟨rfl, h9⟩; subst h9)
    | (go_at_call 51; (refine (ref10_In _ _).mono ?_); rintro e9 w1 ⟨rfl, h9⟩; have h8 := h9.symm; subst h8; clear h9))
    all_goals first
      | exact absurd (List.length_pos_iff.2 (by assumption)) (by assumption)
      | go_ret
    all_goals (try first | exact no_of rfl (al1 _ _))
    all_goals exact yes_of (fun h => HP.out ▸ leaf2 (by assumption) (by assumption) (by assumption) (by assumption) (by assumption)) (al1 _ _)

theorem leaf3 {x y m : Int} {ts : List Int} {l : Nat} (h : ts = []) (hy : (y != 0) = false) (h2 : (l : Int) = 1) (h3 : m = 0) (h4 : (decide (1 ≤ x) && decide (x ≤ 65536)) = true) : ShapeIs 3 x y m false ts l := by
  subst h
  simp at *
  refine ⟨?_, fun z hz => ?_⟩
  · unfold formB plainB
    simp [*]
    try omega
  · simp [bindL] at hz
    try (first | (subst hz; assumption) | (rcases hz with rfl | rfl; assumption; assumption))

set_option maxHeartbeats 8000000 in
set_option maxRecDepth 100000 in
theorem shape3 (x y m : Int) (b : Bool) (T A : Option Addr) (tc : Nat) (ts : List Int) (l c : Nat) (w : World) : Calls Try.prog 38 #[.agg #[.int .i64 3, .int .i64 x, .int .i64 y, .int .i64 m, .bool b, .slice T ts.length tc, .slice A l c]] w (OnlyP (ShapeIs 3 x y m b ts l) w) := by
  obtain ⟨P, hP⟩ : ∃ P, P = ShapeIs 3 x y m b ts l := ⟨_, rfl⟩
  rw [← hP]
  have HP := hid hP
  clear hP
  cases b
  all_goals
    go_enter Try.func38, Try.ntmps38
    go_wp2_with (first
    | (go_at_call 52; (refine (ref20_binder _ _).mono ?_); rintro e9 w1 ⟨rfl, h9⟩; subst h9)
    | (go_at_call 51; (refine (ref10_In _ _).mono ?_); rintro e9 w1 ⟨rfl, h9⟩; have h8 := h9.symm; subst h8; clear h9))
    all_goals first
      | exact absurd (List.length_pos_iff.2 (by assumption)) (by assumption)
      | go_ret
    all_goals (try first | exact no_of rfl (al1 _ _))
    all_goals exact yes_of (fun h => HP.out ▸ leaf3 (by assumption) (by assumption) (by assumption) (by assumption) (by assumption)) (al1 _ _)

theorem leaf5 {x y m : Int} {ts : List Int} {l : Nat} (h : ts = []) (hy : (y != 0) = false) (h2 : (l : Int) = 2) (h3 : m = 0) (h4 : (decide (1 ≤ x) && decide (x ≤ 65536)) = true) : ShapeIs 5 x y m false ts l := by
  subst h
  simp at *
  refine ⟨?_, fun z hz => ?_⟩
  · unfold formB plainB
    simp [*]
    try omega
  · simp [bindL] at hz
    try (first | (subst hz; assumption) | (rcases hz with rfl | rfl; assumption; assumption))

set_option maxHeartbeats 8000000 in
set_option maxRecDepth 100000 in
theorem shape5 (x y m : Int) (b : Bool) (T A : Option Addr) (tc : Nat) (ts : List Int) (l c : Nat) (w : World) : Calls Try.prog 38 #[.agg #[.int .i64 5, .int .i64 x, .int .i64 y, .int .i64 m, .bool b, .slice T ts.length tc, .slice A l c]] w (OnlyP (ShapeIs 5 x y m b ts l) w) := by
  obtain ⟨P, hP⟩ : ∃ P, P = ShapeIs 5 x y m b ts l := ⟨_, rfl⟩
  rw [← hP]
  have HP := hid hP
  clear hP
  cases b
  all_goals
    go_enter Try.func38, Try.ntmps38
    go_wp2_with (first
    | (go_at_call 52; (refine (ref20_binder _ _).mono ?_); rintro e9 w1 ⟨rfl, h9⟩; subst h9)
    | (go_at_call 51; (refine (ref10_In _ _).mono ?_); rintro e9 w1 ⟨rfl, h9⟩; have h8 := h9.symm; subst h8; clear h9))
    all_goals first
      | exact absurd (List.length_pos_iff.2 (by assumption)) (by assumption)
      | go_ret
    all_goals (try first | exact no_of rfl (al1 _ _))
    all_goals exact yes_of (fun h => HP.out ▸ leaf5 (by assumption) (by assumption) (by assumption) (by assumption) (by assumption)) (al1 _ _)

theorem leaf6 {x y m : Int} {ts : List Int} {l : Nat} (h : ts = []) (h2 : (l : Int) = 2) (h3 : m = 0) (h4 : 1 ≤ x ∧ x ≤ 65536) (h5 : (decide (1 ≤ y) && decide (y ≤ 65536)) = true) : ShapeIs 6 x y m false ts l := by
  subst h
  simp at *
  refine ⟨?_, fun z hz => ?_⟩
  · unfold formB plainB
    simp [*]
    try omega
  · simp [bindL] at hz
    try (first | (subst hz; assumption) | (rcases hz with rfl | rfl; assumption; assumption))

set_option maxHeartbeats 8000000 in
set_option maxRecDepth 100000 in
theorem shape6 (x y m : Int) (b : Bool) (T A : Option Addr) (tc : Nat) (ts : List Int) (l c : Nat) (w : World) : Calls Try.prog 38 #[.agg #[.int .i64 6, .int .i64 x, .int .i64 y, .int .i64 m, .bool b, .slice T ts.length tc, .slice A l c]] w (OnlyP (ShapeIs 6 x y m b ts l) w) := by
  obtain ⟨P, hP⟩ : ∃ P, P = ShapeIs 6 x y m b ts l := ⟨_, rfl⟩
  rw [← hP]
  have HP := hid hP
  clear hP
  cases b
  all_goals
    go_enter Try.func38, Try.ntmps38
    go_wp2_with (first
    | (go_at_call 52; (refine (ref20_binder _ _).mono ?_); rintro e9 w1 ⟨rfl, h9⟩; subst h9)
    | (go_at_call 51; (refine (ref10_In _ _).mono ?_); rintro e9 w1 ⟨rfl, h9⟩; have h8 := h9.symm; subst h8; clear h9))
    all_goals first
      | exact absurd (List.length_pos_iff.2 (by assumption)) (by assumption)
      | go_ret
    all_goals (try first | exact no_of rfl (al1 _ _))
    all_goals exact yes_of (fun h => HP.out ▸ leaf6 (by assumption) (by assumption) (by assumption) (by assumption) (by assumption)) (al1 _ _)

theorem leaf4 {x y m : Int} {ts : List Int} {l : Nat} (h : ts = []) (hy : (y != 0) = false) (h1 : (x != 0) = false) (h2 : (l : Int) = 2) (h3 : (m == 0) = true) : ShapeIs 4 x y m false ts l := by
  subst h
  simp at *
  refine ⟨?_, fun z hz => ?_⟩
  · unfold formB plainB
    simp [*]
    try omega
  · simp [bindL] at hz
    try (first | (subst hz; assumption) | (rcases hz with rfl | rfl; assumption; assumption))

set_option maxHeartbeats 8000000 in
set_option maxRecDepth 100000 in
theorem shape4 (x y m : Int) (b : Bool) (T A : Option Addr) (tc : Nat) (ts : List Int) (l c : Nat) (w : World) : Calls Try.prog 38 #[.agg #[.int .i64 4, .int .i64 x, .int .i64 y, .int .i64 m, .bool b, .slice T ts.length tc, .slice A l c]] w (OnlyP (ShapeIs 4 x y m b ts l) w) := by
  obtain ⟨P, hP⟩ : ∃ P, P = ShapeIs 4 x y m b ts l := ⟨_, rfl⟩
  rw [← hP]
  have HP := hid hP
  clear hP
  cases b
  all_goals
    go_enter Try.func38, Try.ntmps38
    go_wp2_with (first
    | (go_at_call 52; (refine (ref20_binder _ _).mono ?_); rintro e9 w1 ⟨rfl, h9⟩; subst h9)
    | (go_at_call 51; (refine (ref10_In _ _).mono ?_); rintro e9 w1 ⟨rfl, h9⟩; have h8 := h9.symm; subst h8; clear h9))
    all_goals first
      | exact absurd (List.length_pos_iff.2 (by assumption)) (by assumption)
      | go_ret
    all_goals (try first | exact no_of rfl (al1 _ _))
    all_goals exact yes_of (fun h => HP.out ▸ leaf4 (by assumption) (by assumption) (by assumption) (by assumption) (by assumption)) (al1 _ _)

theorem leaf11 {x y m : Int} {ts : List Int} {l : Nat} (h : ts = []) (hy : (y != 0) = false) (h1 : (x != 0) = false) (h2 : (l : Int) = 1) (h3 : (m == 0) = true) : ShapeIs 11 x y m false ts l := by
  subst h
  simp at *
  refine ⟨?_, fun z hz => ?_⟩
  · unfold formB plainB
    simp [*]
    try omega
  · simp [bindL] at hz
    try (first | (subst hz; assumption) | (rcases hz with rfl | rfl; assumption; assumption))

set_option maxHeartbeats 8000000 in
set_option maxRecDepth 100000 in
theorem shape11 (x y m : Int) (b : Bool) (T A : Option Addr) (tc : Nat) (ts : List Int) (l c : Nat) (w : World) : Calls Try.prog 38 #[.agg #[.int .i64 11, .int .i64 x, .int .i64 y, .int .i64 m, .bool b, .slice T ts.length tc, .slice A l c]] w (OnlyP (ShapeIs 11 x y m b ts l) w) := by
  obtain ⟨P, hP⟩ : ∃ P, P = ShapeIs 11 x y m b ts l := ⟨_, rfl⟩
  rw [← hP]
  have HP := hid hP
  clear hP
  cases b
  all_goals
    go_enter Try.func38, Try.ntmps38
    go_wp2_with (first
    | (go_at_call 52; (refine (ref20_binder _ _).mono ?_); rintro e9 w1 ⟨rfl, h9⟩; subst h9)
    | (go_at_call 51; (refine (ref10_In _ _).mono ?_); rintro e9 w1 ⟨rfl, h9⟩; have h8 := h9.symm; subst h8; clear h9))
    all_goals first
      | exact absurd (List.length_pos_iff.2 (by assumption)) (by assumption)
      | go_ret
    all_goals (try first | exact no_of rfl (al1 _ _))
    all_goals exact yes_of (fun h => HP.out ▸ leaf11 (by assumption) (by assumption) (by assumption) (by assumption) (by assumption)) (al1 _ _)

theorem leaf7 {x y m : Int} {ts : List Int} {l : Nat} (h : ts = []) (hy : (y != 0) = false) (h1 : (x != 0) = false) (h2 : (l : Int) ≤ 8) (h3 : 0 ≤ m) (h4 : decide (m < 32) = true) : ShapeIs 7 x y m false ts l := by
  subst h
  simp at *
  refine ⟨?_, fun z hz => ?_⟩
  · unfold formB plainB
    simp [*]
    try omega
  · simp [bindL] at hz
    try (first | (subst hz; assumption) | (rcases hz with rfl | rfl; assumption; assumption))

set_option maxHeartbeats 8000000 in
set_option maxRecDepth 100000 in
theorem shape7 (x y m : Int) (b : Bool) (T A : Option Addr) (tc : Nat) (ts : List Int) (l c : Nat) (w : World) : Calls Try.prog 38 #[.agg #[.int .i64 7, .int .i64 x, .int .i64 y, .int .i64 m, .bool b, .slice T ts.length tc, .slice A l c]] w (OnlyP (ShapeIs 7 x y m b ts l) w) := by
  obtain ⟨P, hP⟩ : ∃ P, P = ShapeIs 7 x y m b ts l := ⟨_, rfl⟩
  rw [← hP]
  have HP := hid hP
  clear hP
  cases b
  all_goals
    go_enter Try.func38, Try.ntmps38
    go_wp2_with (first
    | (go_at_call 52; (refine (ref20_binder _ _).mono ?_); rintro e9 w1 ⟨rfl, h9⟩; subst h9)
    | (go_at_call 51; (refine (ref10_In _ _).mono ?_); rintro e9 w1 ⟨rfl, h9⟩; have h8 := h9.symm; subst h8; clear h9))
    all_goals first
      | exact absurd (List.length_pos_iff.2 (by assumption)) (by assumption)
      | go_ret
    all_goals (try first | exact no_of rfl (al1 _ _))
    all_goals exact yes_of (fun h => HP.out ▸ leaf7 (by assumption) (by assumption) (by assumption) (by assumption) (by assumption) (by assumption)) (al1 _ _)

theorem leaf8 {x y m : Int} {ts : List Int} {l : Nat} (h : ts = []) (hy : (y != 0) = false) (h1 : (x != 0) = false) (h2 : (l : Int) = 1) (h3 : 0 ≤ m) (h4 : decide (m < 8) = true) : ShapeIs 8 x y m false ts l := by
  subst h
  simp at *
  refine ⟨?_, fun z hz => ?_⟩
  · unfold formB plainB
    simp [*]
    try omega
  · simp [bindL] at hz
    try (first | (subst hz; assumption) | (rcases hz with rfl | rfl; assumption; assumption))

set_option maxHeartbeats 8000000 in
set_option maxRecDepth 100000 in
theorem shape8 (x y m : Int) (b : Bool) (T A : Option Addr) (tc : Nat) (ts : List Int) (l c : Nat) (w : World) : Calls Try.prog 38 #[.agg #[.int .i64 8, .int .i64 x, .int .i64 y, .int .i64 m, .bool b, .slice T ts.length tc, .slice A l c]] w (OnlyP (ShapeIs 8 x y m b ts l) w) := by
  obtain ⟨P, hP⟩ : ∃ P, P = ShapeIs 8 x y m b ts l := ⟨_, rfl⟩
  rw [← hP]
  have HP := hid hP
  clear hP
  cases b
  all_goals
    go_enter Try.func38, Try.ntmps38
    go_wp2_with (first
    | (go_at_call 52; (refine (ref20_binder _ _).mono ?_); rintro e9 w1 ⟨rfl, h9⟩; subst h9)
    | (go_at_call 51; (refine (ref10_In _ _).mono ?_); rintro e9 w1 ⟨rfl, h9⟩; have h8 := h9.symm; subst h8; clear h9))
    all_goals first
      | exact absurd (List.length_pos_iff.2 (by assumption)) (by assumption)
      | go_ret
    all_goals (try first | exact no_of rfl (al1 _ _))
    all_goals exact yes_of (fun h => HP.out ▸ leaf8 (by assumption) (by assumption) (by assumption) (by assumption) (by assumption) (by assumption)) (al1 _ _)

theorem leaf10 {x y m : Int} {ts : List Int} {l : Nat} (h : ts = []) (hy : (y != 0) = false) (h1 : (x != 0) = false) (h2 : (l : Int) = 2) (h3 : 1 ≤ m) (h4 : decide (m ≤ 7) = true) : ShapeIs 10 x y m false ts l := by
  subst h
  simp at *
  refine ⟨?_, fun z hz => ?_⟩
  · unfold formB plainB
    simp [*]
    try omega
  · simp [bindL] at hz
    try (first | (subst hz; assumption) | (rcases hz with rfl | rfl; assumption; assumption))

set_option maxHeartbeats 8000000 in
set_option maxRecDepth 100000 in
theorem shape10 (x y m : Int) (b : Bool) (T A : Option Addr) (tc : Nat) (ts : List Int) (l c : Nat) (w : World) : Calls Try.prog 38 #[.agg #[.int .i64 10, .int .i64 x, .int .i64 y, .int .i64 m, .bool b, .slice T ts.length tc, .slice A l c]] w (OnlyP (ShapeIs 10 x y m b ts l) w) := by
  obtain ⟨P, hP⟩ : ∃ P, P = ShapeIs 10 x y m b ts l := ⟨_, rfl⟩
  rw [← hP]
  have HP := hid hP
  clear hP
  cases b
  all_goals
    go_enter Try.func38, Try.ntmps38
    go_wp2_with (first
    | (go_at_call 52; (refine (ref20_binder _ _).mono ?_); rintro e9 w1 ⟨rfl, h9⟩; subst h9)
    | (go_at_call 51; (refine (ref10_In _ _).mono ?_); rintro e9 w1 ⟨rfl, h9⟩; have h8 := h9.symm; subst h8; clear h9))
    all_goals first
      | exact absurd (List.length_pos_iff.2 (by assumption)) (by assumption)
      | go_ret
    all_goals (try first | exact no_of rfl (al1 _ _))
    all_goals exact yes_of (fun h => HP.out ▸ leaf10 (by assumption) (by assumption) (by assumption) (by assumption) (by assumption) (by assumption)) (al1 _ _)

theorem leaf9 {x y m : Int} {b : Bool} {ts : List Int} {l tl : Nat} (htl : tl = ts.length) (hy : (y != 0) = false) (hx : (x != 0) = false) (hm : m = 0) (h2 : 2 ≤ (l : Int)) (h3 : (l : Int) = tl + 1 ∨ (l : Int) = tl + 2) (h : tagsB b [] ts = true) : ShapeIs 9 x y m b ts l := by
  simp at hx hy
  refine ⟨?_, fun z hz => ?_⟩
  · unfold formB taggedB
    simp [*]
    omega
  · simp [bindL] at hz
set_option maxHeartbeats 8000000 in
set_option maxRecDepth 100000 in
theorem shape9 (x y m : Int) (b : Bool) (T A : Option Addr) (tc : Nat) (ts : List Int) (l c : Nat) (S : Nat → Prop) (w : World) (hI : IAt w S ts T tc) (hl : l ≤ 17592186044416) : Calls Try.prog 38 #[.agg #[.int .i64 9, .int .i64 x, .int .i64 y, .int .i64 m, .bool b, .slice T ts.length tc, .slice A l c]] w (OnlyP (ShapeIs 9 x y m b ts l) w) := by
  have ht := hI.1.2.2.2
  obtain ⟨P, hP⟩ : ∃ P, P = ShapeIs 9 x y m b ts l := ⟨_, rfl⟩
  rw [← hP]
  have HP := hid hP
  have HI := hid hI
  obtain ⟨tl, htl⟩ : ∃ tl, tl = ts.length := ⟨_, rfl⟩
  rw [← htl]
  have HTL := hid htl
  have htm : tl ≤ 17592186044416 := by omega
  clear hI ht htl
  clear hP
  go_enter Try.func38, Try.ntmps38
  go_wp2_with (first | (go_at_call 53; (refine (ref20_Tags' ts _ T tl tc S _ HTL.out (HI.out.keep (fun b9 hb' hl => ⟨(al1 w _).block b9 hl, hb'⟩))).mono ?_); rintro e9 w1 ⟨⟨tb, rfl, htb⟩, b1⟩; have B1 := hid (And.intro htb b1); clear htb b1))
  all_goals go_ret
  all_goals (try first | exact no_of rfl (al1 _ _))
  all_goals first
    | exact yes_of (fun h => HP.out ▸ leaf9 HTL.out (by assumption) (by assumption) (by assumption) (by assumption) (Or.inl (by assumption)) (B1.out.1 h)) (below_hop B1.out.2 (al1 _ _))
    | exact yes_of (fun h => HP.out ▸ leaf9 HTL.out (by assumption) (by assumption) (by assumption) (by assumption) (Or.inr (by assumption)) (B1.out.1 h)) (below_hop B1.out.2 (al1 _ _))
set_option maxHeartbeats 8000000 in
set_option maxRecDepth 100000 in
theorem shape0 (k x y m : Int) (b : Bool) (T A : Option Addr) (tl tc : Nat) (l c : Nat) (P : Prop) (w : World) (h1 : (k == 1) = false) (h2 : (k == 2) = false) (h3 : (k == 3) = false) (h4 : (k == 4) = false) (h5 : (k == 5) = false) (h6 : (k == 6) = false) (h7 : (k == 7) = false) (h8 : (k == 8) = false) (h9 : (k == 9) = false) (h10 : (k == 10) = false) (h11 : (k == 11) = false) :
    Calls Try.prog 38 #[.agg #[.int .i64 k, .int .i64 x, .int .i64 y, .int .i64 m, .bool b, .slice T tl tc, .slice A l c]] w (OnlyP P w) := by
  have g6 : (k != 6) = true := by simpa using h6
  have g9 : (k != 9) = true := by simpa using h9
  cases b
  all_goals
    go_enter Try.func38, Try.ntmps38
    go_wp2
    all_goals go_ret
    all_goals exact no_of rfl (al1 _ _)
theorem ref20_shape (k x y m : Int) (b : Bool) (T A : Option Addr) (tc : Nat) (ts : List Int) (l c : Nat) (S : Nat → Prop) (w : World) (hI : IAt w S ts T tc) (hl : l ≤ 17592186044416) :
    Calls Try.prog 38 #[.agg #[.int .i64 k, .int .i64 x, .int .i64 y, .int .i64 m, .bool b, .slice T ts.length tc, .slice A l c]] w (OnlyP (ShapeIs k x y m b ts l) w) := by
  by_cases h1 : k = 1
  · subst h1; exact shape1 x y m b T A tc ts l c w
  by_cases h2 : k = 2
  · subst h2; exact shape2 x y m b T A tc ts l c w
  by_cases h3 : k = 3
  · subst h3; exact shape3 x y m b T A tc ts l c w
  by_cases h4 : k = 4
  · subst h4; exact shape4 x y m b T A tc ts l c w
  by_cases h5 : k = 5
  · subst h5; exact shape5 x y m b T A tc ts l c w
  by_cases h6 : k = 6
  · subst h6; exact shape6 x y m b T A tc ts l c w
  by_cases h7 : k = 7
  · subst h7; exact shape7 x y m b T A tc ts l c w
  by_cases h8 : k = 8
  · subst h8; exact shape8 x y m b T A tc ts l c w
  by_cases h9 : k = 9
  · subst h9; exact shape9 x y m b T A tc ts l c S w hI hl
  by_cases h10 : k = 10
  · subst h10; exact shape10 x y m b T A tc ts l c w
  by_cases h11 : k = 11
  · subst h11; exact shape11 x y m b T A tc ts l c w
  have e : ∀ {a b : Int}, a ≠ b → (a == b) = false := fun h => by simpa using h
  exact shape0 k x y m b T A ts.length tc l c _ w (e h1) (e h2) (e h3) (e h4) (e h5) (e h6) (e h7) (e h8) (e h9) (e h10) (e h11)
end Go.Proofs.Ytohdaclbgedeiaa
/-
  THE WALKS OF athanorref20's in AND deep.
-/
namespace Go.Proofs.Ytohdaclbgedeiaa
set_option linter.all false
open Go.ChangeShapes Go.WideShapes Go.ChangeAt Go.RowKit
open Ev (Co)
set_option maxHeartbeats 4000000 in
set_option maxRecDepth 100000 in
theorem ref20_in (l : List Int) (T : Option Addr) (tc : Nat) (n : Int) (S : Nat → Prop) (w : World) (hI : IAt w S l T tc) : Calls Try.prog 54 #[.slice T l.length tc, .int .i64 n] w (OnlyP (n ∈ l) w) := by
  have HI := hid hI
  have ht := hI.1.2.2.2
  have q1 : IntKind.i64.wrap ((l.length : Int) - 1) = (l.length : Int) - 1 := IntWalk.i64_in _ (by omega)
  clear hI
  go_enter Try.func54, Try.ntmps54
  go_wp2
  go_loopg [5] l.length (fun g z wr => z = .int .i64 ((g : Int) - 1) ∧ Hid (g ≤ l.length) ∧ Hid (Below w.heap.size w wr))
  case atStart => exact ⟨rfl, hid (Nat.le_refl _), hid (Below.refl _ _)⟩
  case round =>
    obtain ⟨rfl, hg, hb⟩ := hrel
    rcases Nat.eq_zero_or_pos gk with rfl | hp
    · go_wp2
      go_ret
      exact no_of rfl hb.out
    obtain ⟨i, hi⟩ : ∃ i, gk = i + 1 := ⟨gk - 1, by omega⟩
    subst hi
    have e1 : ((i + 1 : Nat) : Int) - 1 = i := by omega
    have hlt : i < l.length := by have := hg.out; omega
    have hlt' : (i : Int) < l.length := by omega
    have hi0 : (0 : Int) ≤ i := by omega
    rw [e1]
    obtain ⟨ad, rfl, hS9, y0, _⟩ := (HI.out.keep (fun b hb' hl => ⟨hb.out.block b hl, hb'⟩)).2 i hlt
    obtain ⟨t, ht9⟩ : ∃ t, t = l[i]'hlt := ⟨_, rfl⟩
    rw [← ht9] at y0
    have HM := hid (show t ∈ l by rw [ht9]; exact List.getElem_mem hlt)
    have q2 : IntKind.i64.wrap ((i : Int) - 1) = (i : Int) - 1 := IntWalk.i64_in _ (by omega)
    clear ht9 hS9 e1
    by_cases he : t = n
    · subst he
      go_wp2
      go_ret
      exact yes_of (fun _ => HM.out) hb.out
    · go_wp2
      go_roundg i
      case rel => exact ⟨rfl, hid (by omega), hb⟩
      case measure => omega
mutual
/-- Does nothing stand so deep? -/
def lowM : Co → Nat → Prop
  | .mk k x y n i ts us, d => 0 < d ∧ lowML us (d - 1)
def lowML : List Co → Nat → Prop
  | [], _ => True
  | c :: cs, d => lowM c d ∧ lowML cs d
end
theorem lowML_of : ∀ {us : List Co} {d : Nat}, (∀ u ∈ us, lowM u d) → lowML us d
  | [], d, _ => by rw [lowML]; trivial
  | c :: cs, d, h => by
    rw [lowML]
    exact ⟨h c (by simp), lowML_of (fun u hu => h u (by simp [hu]))⟩
def LowP (p : Prop) (w : World) (e : Ending) (w' : World) : Prop := (∃ b : Bool, e = .returned (.bool b) ∧ (b = false → p)) ∧ Below w.heap.size w w'
theorem low_yes {p : Prop} {w w' : World} (hb : Below w.heap.size w w') : LowP p w (.returned (.bool true)) w' := ⟨⟨true, rfl, fun h2 => by cases h2⟩, hb⟩
theorem low_no {p : Prop} {w w' : World} (h : p) (hb : Below w.heap.size w w') : LowP p w (.returned (.bool false)) w' := ⟨⟨false, rfl, fun _ => h⟩, hb⟩
set_option maxHeartbeats 4000000 in
set_option maxRecDepth 100000 in
theorem r20deep_zero (k x y m : Int) (b : Bool) (T A : Option Addr) (tl tc : Nat) (l c : Nat) (p : Prop) (w : World) :
    Calls Try.prog 26 #[.agg #[.int .i64 k, .int .i64 x, .int .i64 y, .int .i64 m, .bool b, .slice T tl tc, .slice A l c], .int .i64 0] w (LowP p w) := by
  go_enter Try.func26, Try.ntmps26
  go_wp2
  go_ret
  exact low_yes (al1 _ _)
set_option maxHeartbeats 4000000 in
set_option maxRecDepth 100000 in
theorem r20deep_node (k x y m : Int) (b : Bool) (T A : Option Addr) (tc : Nat) (ts : List Int) (us : List Co) (c d : Nat) (S : Nat → Prop) (w : World) (hm : us.length ≤ 17592186044416) (hd : d < 17592186044416) (hrow : CRow w S us A 0)
    (ih : ∀ t ∈ us, ∀ (v : Value) (S : Nat → Prop) (w : World), CAt w S t v → Calls Try.prog 26 #[v, .int .i64 d] w (LowP (lowM t d) w)) :
    Calls Try.prog 26 #[.agg #[.int .i64 k, .int .i64 x, .int .i64 y, .int .i64 m, .bool b, .slice T ts.length tc, .slice A us.length c], .int .i64 ((d : Int) + 1)] w (LowP (lowM (.mk k x y m b ts us) (d + 1)) w) := by
  have hL : us.length ≤ 281474976710656 := by omega
  have H := hid (And.intro hm (And.intro hrow ih))
  have e0 : ((d : Int) + 1 == 0) = false := by simp; omega
  have q1 : IntKind.i64.wrap ((d : Int) + 1 - 1) = (d : Int) := by rw [IntWalk.i64_in _ (by omega)]; omega
  obtain ⟨z0, hz0⟩ : ∃ z : Int, z = (d : Int) + 1 := ⟨_, rfl⟩
  rw [← hz0] at e0 q1 ⊢
  clear hm hrow ih hz0
  go_enter Try.func26, Try.ntmps26
  go_wp2
  go_loopg [5] us.length (fun g z wr => ∃ (i : Nat), i + g = us.length ∧ z = .int .i64 i ∧ Hid (∀ j, (hj : j < us.length) → j < i → lowM us[j] d) ∧ Hid (Blk wr w.heap.size 25 #[.int .i64 k, .int .i64 x, .int .i64 y, .int .i64 m, .bool b, .slice T ts.length tc, .slice A us.length c]) ∧ Hid (Below w.heap.size w wr))
  case atStart => exact ⟨0, by omega, rfl, hid (fun j hj h => by omega), hid (Blk.new _ _ _), hid (al1 _ _)⟩
  case round =>
    obtain ⟨i, hi, rfl, hall, hb, hbl⟩ := hrel
    have Hi := hid hi
    have x6 : wr.cell? ⟨w.heap.size, 6, none⟩ = some (.slice A us.length c) := hb.out.cell 6
    by_cases hlt : i < us.length
    · have hlt' : (i : Int) < us.length := by omega
      obtain ⟨ad, k2, x2, y2, n2, i2, T2, tl2, tc2, A2, m2', c2, rfl, hSb, hab, ⟨y0, y1, y2', y3, y4, y5, y6⟩, hel⟩ := (H.out.2.1.up hbl.out).elem hlt
      obtain ⟨t, ht⟩ : ∃ t, t = us[i] := ⟨_, rfl⟩
      rw [← ht] at hel
      have Q := hid (And.intro hel (And.intro (show t ∈ us by rw [ht]; exact List.getElem_mem hlt) ht))
      clear hi hel hSb hab ht
      go_wp2_with (go_at_call 26; go_must (refine (H.out.2.2 t Q.out.2.1 _ _ _ Q.out.1).mono ?_); rintro e w1 ⟨⟨r, rfl, hr⟩, b1⟩; have R := hid (And.intro hr b1); clear hr b1)
      · go_ret
        exact low_yes (below_hop R.out.2 hbl.out)
      · have hgk := Hi.out
        have hbm := hb.out.lt
        go_roundg (gk - 1)
        case rel => exact ⟨i + 1, by omega, by go_num, hid (fun j hj hji => by
          by_cases e : j = i
          · subst e; rw [← Q.out.2.2]; exact R.out.1 (by first | rfl | assumption | simp_all)
          · exact hall.out j hj (by omega)), hid (hb.out.below R.out.2 hbm), hid (below_hop R.out.2 hbl.out)⟩
        case measure => omega
    · obtain rfl : i = us.length := by omega
      clear hi
      go_wp2
      go_ret
      refine low_no ?_ hbl.out
      rw [lowM]
      exact ⟨by omega, lowML_of (fun u hu => by obtain ⟨j, hj, rfl⟩ := List.getElem_of_mem hu; exact hall.out j hj hj)⟩
theorem ref20_deep : ∀ (N : Nat) (t : Co), SizeOf.sizeOf t ≤ N → ∀ (d : Nat), d < 17592186044416 → ∀ (v : Value) (S : Nat → Prop) (w : World), CAt w S t v → Calls Try.prog 26 #[v, .int .i64 d] w (LowP (lowM t d) w) := by
  intro N
  induction N with
  | zero => intro t ht; cases t; simp at ht
  | succ N ih =>
  intro t ht d hd v S w hv
  obtain ⟨k, x, y, m, i, ts, us⟩ := t
  obtain ⟨T, tc, A, c, rfl, hI, hc, hrow, _⟩ := hv.parts
  cases d with
  | zero => exact r20deep_zero k x y m i T A ts.length tc us.length c _ w
  | succ d => exact r20deep_node k x y m i T A tc ts us c d S w hc.2.2.2 (by omega) hrow (fun t hm v S w => ih t (by have := co_lt (k := k) (x := x) (y := y) (n := m) (i := i) (ts := ts) hm; omega) d (by omega) v S w)
end Go.Proofs.Ytohdaclbgedeiaa
/-
  THE WALK OF athanorref20.closed.
-/
namespace Go.Proofs.Ytohdaclbgedeiaa
set_option linter.all false
open Go.ChangeShapes Go.WideShapes Go.ChangeAt Go.RowKit
open Ev (Co nodes nodesL bindA upM closM closML)
theorem step_appI {w : World} {ops : Array Oper} {o : Oper} {a : Act} {K : Act → World → Prop} {Q : Exit → Act → World → Prop} {E : Prop} (hgd : o.guard = none) (s x : Operand)
    (ho : o.op = .call { callee := .builtin .append, args := #[s, x], argTypes := #[22, 22] })
    (B : Nat) {v : Value} {xs : List Int} (hs : a.eval s = v) (hown : OwnI w B v xs) {A : Option Addr} {n c Bi : Nat} {ys : List Int} (hx : a.eval x = .slice A n c) (hi : Ints w Bi A n c ys)
    (hlen : xs.length + n ≤ 1000000) (hB : B ≤ w.heap.size)
    (h : ∀ A' c' w', OwnI w' B (.slice A' (xs.length + n) c') (xs ++ ys) → w.grownBy w' v.ownBlock → (∀ B0 w0, B0 ≤ B → Below B0 w0 w → Below B0 w0 w') → K (a.put o.dst (.slice A' (xs.length + n) c')) w') : if Region.wanted o (yielded ops a.tmps) = true then Oper.wp Try.prog o a w K Q else E := by
  have hw : Region.wanted o (yielded ops a.tmps) = true := by simp [Region.wanted, hgd]
  rw [if_pos hw]
  obtain ⟨i, hi1, hz, hs1, hs2⟩ := info_int.parts
  have hwf : ∀ z ∈ xs ++ ys, (Lit.int .i64 z).wf = true := by
    intro z hz
    rcases List.mem_append.1 hz with hz | hz
    · exact hown.wf z hz
    · exact hi.wf z hz
  have hrow : w.ownsRow B 3 1 v xs.length (xs.map (.int .i64)) := by have := hown.own; unfold Own at this; rwa [List.length_map] at this
  cases A with
  | none =>
    obtain ⟨rfl, rfl⟩ := hi.nil rfl
    obtain rfl : ys = [] := List.length_eq_zero_iff.1 hi.len.symm
    obtain ⟨A', c', hv, _⟩ := hown.slice
    subst hv
    have hrun := run_append_owned_none (P := Try.prog) (w := w) B 22 o.type 3 i 1 Try.underlying22 hi1 _ xs.length _ hrow
    unfold Oper.wp
    simp [execOp, ho, resolve, invoke, builtin, hs, hx, hrun, Result.andThen]
    have := h A' c' w (by simpa using hown) ⟨rfl, rfl, rfl, Nat.le_refl _, fun _ _ _ => rfl⟩ (fun _ _ _ hb => hb)
    have h8 : K (a.put o.dst (.slice A' xs.length c')) w := by simpa using this
    exact h8
  | some ad =>
    obtain ⟨v', w', hr, h1, h2, _, _⟩ := run_append_own_at (P := Try.prog) w B 22 o.type 3 i (.int .i64 0) 1 8 Try.underlying22 hi1 hz hs1 hs2 rfl (by omega) v xs.length _ hrow ad n c (ys.map (.int .i64)) (by simp [hi.len]) (news_of_ints hi) (by simp [Value.oneCell']) (by unfold maxLen; omega) (by omega) hB
    have hO : OwnI w' B v' (xs ++ ys) := ⟨by unfold Own; have := h1; rwa [← List.map_append, show xs.length + n = ((xs ++ ys).map (Value.int .i64)).length from by simp [hi.len]] at this, hwf⟩
    unfold Oper.wp execOp
    simp only [ho, resolve, invoke, builtin, Sem.run_bind, Sem.run_pure, Result.andThen_ok, List.map_toArray, List.map_cons, List.map_nil, hs, hx, hr]
    obtain ⟨A', c', hv, _⟩ := hO.slice
    subst hv
    have e : (xs ++ ys).length = xs.length + n := by simp [hi.len]
    rw [e] at hO ⊢
    exact h A' c' w' hO h2 (fun B0 w0 hle hb => hb.grown h2 (Nat.le_trans hle hB) fun k hk => Nat.le_trans hle (hrow.lt k hk).1)
/-- Closed with these bound. -/
def ClosOk (t : Co) (L : List Int) : Prop := ∀ f : Int → Int, (∀ y, 0 ≤ f y) → (∀ y ∈ L, 0 < f y) → closM t f = true
theorem ClosOk.at_ {t : Co} {L M : List Int} (h : ClosOk t (L ++ M)) (f : Int → Int) (h1 : ∀ y, 0 ≤ f y) (h2 : ∀ y ∈ L, 0 < f y) : closM t (upM M f) = true := by
  refine h _ (fun y => ?_) (fun y hy => ?_)
  · rw [up_cnt]; have := h1 y; omega
  · rw [up_cnt]
    have h3 := h1 y
    rcases List.mem_append.1 hy with hy | hy
    · have := h2 y hy; omega
    · have := List.count_pos_iff.2 hy; omega
theorem closML_of {k x y : Int} {f : Int → Int} : ∀ {us : List Co} {j : Nat}, (∀ i, (hi : i < us.length) → closM us[i] (upM (bindA k x y (j + i)) f) = true) → closML k x y j us f = true
  | [], j, _ => by rw [closML]
  | c :: cs, j, h => by
    rw [closML, closML_of (us := cs) (j := j + 1) (fun i hi => by have := h (i + 1) (by simpa using hi); rw [show j + 1 + i = j + (i + 1) from by omega]; simpa using this)]
    have h0 := h 0 (by simp)
    simp at h0
    rw [h0]; rfl
theorem clos_node {k x y m : Int} {b : Bool} {ts : List Int} {us : List Co} {L : List Int} (h1 : k = 1 → x ∈ L) (h2 : ∀ i, (hi : i < us.length) → ClosOk us[i] (L ++ bindA k x y i)) : ClosOk (.mk k x y m b ts us) L := by
  intro f hf hL
  rw [closM, closML_of (fun i hi => by rw [Nat.zero_add]; exact (h2 i hi).at_ f hf hL)]
  by_cases hk : k = 1
  · have := hL x (h1 hk)
    have h0 : ¬ f x = 0 := by omega
    simp [h0]
  · simp [hk]
theorem ints_lit {W : World} {g : Nat} {xs : List Int} (h : Blk W g 3 (xs.map (fun x => Value.int .i64 x)).toArray) (hn : xs.length ≤ 2) (hx : ∀ x ∈ xs, (Lit.int .i64 x).wf = true) : Ints W (g + 1) (some ⟨g, 0, none⟩) xs.length xs.length xs :=
  ints_of_blk h (Nat.lt_succ_self g) (by omega) hx
theorem ints_lit1 {W : World} {g : Nat} {x : Int} (h : Blk W g 3 #[.int .i64 x]) (hx : (Lit.int .i64 x).wf = true) : Ints W (g + 1) (some ⟨g, 0, none⟩) 1 1 [x] := ints_lit (xs := [x]) h (by simp) (by simpa using hx)
theorem ints_lit2 {W : World} {g : Nat} {x y : Int} (h : Blk W g 3 #[.int .i64 x, .int .i64 y]) (hx : (Lit.int .i64 x).wf = true) (hy : (Lit.int .i64 y).wf = true) : Ints W (g + 1) (some ⟨g, 0, none⟩) 2 2 [x, y] := ints_lit (xs := [x, y]) h (by simp) (by simpa using And.intro hx hy)
def KX (k x : Int) (L : List Int) : Prop := k = 1 → x ∈ L
def ClosH (us : List Co) (L : List Int) : Prop := ∀ t ∈ us, ∀ (v : Value) (S S2 : Nat → Prop) (L2 : List Int) (T : Option Addr) (n tc : Nat) (w : World), CAt w S t v → IAt w S2 L2 T tc → n = L2.length → L2.length ≤ L.length + 2 → Calls Try.prog 39 #[v, .slice T n tc] w (OnlyP (ClosOk t L2) w)
set_option maxHeartbeats 8000000 in
set_option maxRecDepth 100000 in
theorem closed_k1 (x y m : Int) (b : Bool) (T A T2 : Option Addr) (tc tc2 : Nat) (ts : List Int) (us : List Co) (c : Nat) (L : List Int) (S S2 : Nat → Prop) (w : World) (hm : us.length ≤ 17592186044416) (hLl : L.length ≤ 900000) (hwf : Wf4 1 x y m) (hrow : CRow w S us A 0) (hI : IAt w S2 L T2 tc2)
    (H0 : ClosH us L) :
    Calls Try.prog 39 #[.agg #[.int .i64 1, .int .i64 x, .int .i64 y, .int .i64 m, .bool b, .slice T ts.length tc, .slice A us.length c], .slice T2 L.length tc2] w (OnlyP (ClosOk (.mk 1 x y m b ts us) L) w) := by
  have hL : us.length ≤ 281474976710656 := by omega
  have H := hid (And.intro hm (And.intro hrow H0))
  have HI := hid hI
  have WX := hid hwf.2.1
  have WY := hid hwf.2.2.1
  clear hm hrow H0 hI hwf
  go_enter Try.func39, Try.ntmps39
  go_wp2_with (go_at_call 54; (refine (ref20_in L T2 tc2 x S2 _ (HI.out.keep (fun b9 hb' hl => ⟨(al1 w _).block b9 hl, hb'⟩))).mono ?_); rintro e9 w1 ⟨⟨tb, rfl, htb⟩, b1⟩; have R1 := hid (And.intro htb (And.intro ((Blk.new w 25 #[.int .i64 1, .int .i64 x, .int .i64 y, .int .i64 m, .bool b, .slice T ts.length tc, .slice A us.length c]).below b1 (by simp)) (below_hop b1 (al1 w _)))); clear htb b1)
  all_goals (try (go_ret; exact no_of rfl R1.out.2.2))
  obtain rfl : tb = true := by simpa using (by assumption : (!tb) = false)
  have HX : Hid (KX 1 x L) := hid (fun _ => R1.out.1 rfl)
  go_loopg [5] us.length (fun g z wr => ∃ (i : Nat), i + g = us.length ∧ z = .int .i64 i ∧ Hid (∀ j, (hj : j < us.length) → j < i → ClosOk us[j] (L ++ bindA 1 x y j)) ∧ Hid (Blk wr w.heap.size 25 #[.int .i64 1, .int .i64 x, .int .i64 y, .int .i64 m, .bool b, .slice T ts.length tc, .slice A us.length c]) ∧ Hid (Below w.heap.size w wr))
  case atStart => first | exact ⟨0, by omega, rfl, hid (fun j hj h => by omega), hid R1.out.2.1, hid R1.out.2.2⟩ | exact ⟨0, by omega, rfl, hid (fun j hj h => by omega), hid (Blk.new _ _ _), hid (al1 _ _)⟩
  case round =>
    obtain ⟨i, hi, rfl, hall, hb, hbl⟩ := hrel
    have Hi := hid hi
    by_cases hlt : i < us.length
    case neg =>
      obtain rfl : i = us.length := by omega
      obtain ⟨x0, x1, x2, x3, x4, x5, x6⟩ := hb.out.seven
      clear hi
      go_wp2
      go_ret
      exact yes_of (fun _ => clos_node HX.out (fun j hj => hall.out j hj hj)) hbl.out
    have hlt' : (i : Int) < us.length := by omega
    obtain ⟨x0, x1, x2, x3, x4, x5, x6⟩ := hb.out.seven
    obtain ⟨ad, k2, q2, y2, n2, i2, T5, tl2, tc5, A2, m2', c2, rfl, hSb, hab, ⟨y0, y1, y2', y3, y4, y5, y6⟩, hel⟩ := (H.out.2.1.up hbl.out).elem hlt
    obtain ⟨t, ht⟩ : ∃ t, t = us[i] := ⟨_, rfl⟩
    rw [← ht] at hel
    have Q := hid (And.intro hel (And.intro (show t ∈ us by rw [ht]; exact List.getElem_mem hlt) ht))
    have HLT := hid hlt
    clear hi hel hSb hab ht
    go_wp2_with (go_at_call 39; go_must (refine (H.out.2.2 t Q.out.2.1 _ _ S2 L T2 L.length tc2 _ Q.out.1 (HI.out.keep (fun b9 hb' hl => ⟨hbl.out.block b9 hl, hb'⟩)) rfl (by omega)).mono ?_); rintro e w5 ⟨⟨rb, rfl, hr⟩, b5⟩; have R5 := hid (And.intro hr (And.intro (below_hop b5 hbl.out) (hb.out.below b5 hb.out.lt))); clear hr b5)
    all_goals try (go_ret; exact no_of rfl R5.out.2.1)
    have HA : Hid (bindA 1 x y i = []) := hid (by simp [bindA])
    have hgk := Hi.out
    have hlt9 := HLT.out
    go_roundg (gk - 1)
    case rel => exact ⟨i + 1, by omega, by go_num, hid (fun j hj hji => by
      by_cases e : j = i
      · subst e
        have h5 : ClosOk t (L) := R5.out.1 (by simpa using (by assumption : (!rb) = false))
        rw [Q.out.2.2] at h5
        have h6 : L ++ bindA 1 x y j = L := (by rw [HA.out]; simp)
        rw [h6]; exact h5
      · exact hall.out j hj (by omega)), hid R5.out.2.2, hid R5.out.2.1⟩
    case measure => omega
set_option maxHeartbeats 8000000 in
set_option maxRecDepth 100000 in
theorem closed_k0 (k : Int)(x y m : Int) (b : Bool) (T A T2 : Option Addr) (tc tc2 : Nat) (ts : List Int) (us : List Co) (c : Nat) (L : List Int) (S S2 : Nat → Prop) (w : World) (hm : us.length ≤ 17592186044416) (hLl : L.length ≤ 900000) (hwf : Wf4 k x y m) (hrow : CRow w S us A 0) (hI : IAt w S2 L T2 tc2)
    (H0 : ClosH us L)(h1 : (k == 1) = false) (h3 : (k == 3) = false) (h5 : (k == 5) = false) (h6 : (k == 6) = false) :
    Calls Try.prog 39 #[.agg #[.int .i64 k, .int .i64 x, .int .i64 y, .int .i64 m, .bool b, .slice T ts.length tc, .slice A us.length c], .slice T2 L.length tc2] w (OnlyP (ClosOk (.mk k x y m b ts us) L) w) := by
  have hL : us.length ≤ 281474976710656 := by omega
  have H := hid (And.intro hm (And.intro hrow H0))
  have HI := hid hI
  have WX := hid hwf.2.1
  have WY := hid hwf.2.2.1
  clear hm hrow H0 hI hwf
  go_enter Try.func39, Try.ntmps39
  go_wp2_with (go_at_call 54; (refine (ref20_in L T2 tc2 x S2 _ (HI.out.keep (fun b9 hb' hl => ⟨(al1 w _).block b9 hl, hb'⟩))).mono ?_); rintro e9 w1 ⟨⟨tb, rfl, htb⟩, b1⟩; have R1 := hid (And.intro htb (And.intro ((Blk.new w 25 #[.int .i64 k, .int .i64 x, .int .i64 y, .int .i64 m, .bool b, .slice T ts.length tc, .slice A us.length c]).below b1 (by simp)) (below_hop b1 (al1 w _)))); clear htb b1)
  all_goals (try (go_ret; exact no_of rfl R1.out.2.2))
  have HX : Hid (KX k x L) := hid ((fun h => by rw [h] at h1; exact absurd h1 (by decide)))
  go_loopg [5] us.length (fun g z wr => ∃ (i : Nat), i + g = us.length ∧ z = .int .i64 i ∧ Hid (∀ j, (hj : j < us.length) → j < i → ClosOk us[j] (L ++ bindA k x y j)) ∧ Hid (Blk wr w.heap.size 25 #[.int .i64 k, .int .i64 x, .int .i64 y, .int .i64 m, .bool b, .slice T ts.length tc, .slice A us.length c]) ∧ Hid (Below w.heap.size w wr))
  case atStart => first | exact ⟨0, by omega, rfl, hid (fun j hj h => by omega), hid R1.out.2.1, hid R1.out.2.2⟩ | exact ⟨0, by omega, rfl, hid (fun j hj h => by omega), hid (Blk.new _ _ _), hid (al1 _ _)⟩
  case round =>
    obtain ⟨i, hi, rfl, hall, hb, hbl⟩ := hrel
    have Hi := hid hi
    by_cases hlt : i < us.length
    case neg =>
      obtain rfl : i = us.length := by omega
      obtain ⟨x0, x1, x2, x3, x4, x5, x6⟩ := hb.out.seven
      clear hi
      go_wp2
      go_ret
      exact yes_of (fun _ => clos_node HX.out (fun j hj => hall.out j hj hj)) hbl.out
    have hlt' : (i : Int) < us.length := by omega
    obtain ⟨x0, x1, x2, x3, x4, x5, x6⟩ := hb.out.seven
    obtain ⟨ad, k2, q2, y2, n2, i2, T5, tl2, tc5, A2, m2', c2, rfl, hSb, hab, ⟨y0, y1, y2', y3, y4, y5, y6⟩, hel⟩ := (H.out.2.1.up hbl.out).elem hlt
    obtain ⟨t, ht⟩ : ∃ t, t = us[i] := ⟨_, rfl⟩
    rw [← ht] at hel
    have Q := hid (And.intro hel (And.intro (show t ∈ us by rw [ht]; exact List.getElem_mem hlt) ht))
    have HLT := hid hlt
    clear hi hel hSb hab ht
    go_wp2_with (go_at_call 39; go_must (refine (H.out.2.2 t Q.out.2.1 _ _ S2 L T2 L.length tc2 _ Q.out.1 (HI.out.keep (fun b9 hb' hl => ⟨hbl.out.block b9 hl, hb'⟩)) rfl (by omega)).mono ?_); rintro e w5 ⟨⟨rb, rfl, hr⟩, b5⟩; have R5 := hid (And.intro hr (And.intro (below_hop b5 hbl.out) (hb.out.below b5 hb.out.lt))); clear hr b5)
    all_goals try (go_ret; exact no_of rfl R5.out.2.1)
    have HA : Hid (bindA k x y i = []) := hid ((by simp at h3 h5 h6; simp [bindA, h3, h5, h6]))
    have hgk := Hi.out
    have hlt9 := HLT.out
    go_roundg (gk - 1)
    case rel => exact ⟨i + 1, by omega, by go_num, hid (fun j hj hji => by
      by_cases e : j = i
      · subst e
        have h5 : ClosOk t (L) := R5.out.1 (by simpa using (by assumption : (!rb) = false))
        rw [Q.out.2.2] at h5
        have h6 : L ++ bindA k x y j = L := (by rw [HA.out]; simp)
        rw [h6]; exact h5
      · exact hall.out j hj (by omega)), hid R5.out.2.2, hid R5.out.2.1⟩
    case measure => omega
set_option maxHeartbeats 8000000 in
set_option maxRecDepth 100000 in
theorem closed_k3 (x y m : Int) (b : Bool) (T A T2 : Option Addr) (tc tc2 : Nat) (ts : List Int) (us : List Co) (c : Nat) (L : List Int) (S S2 : Nat → Prop) (w : World) (hm : us.length ≤ 17592186044416) (hLl : L.length ≤ 900000) (hwf : Wf4 3 x y m) (hrow : CRow w S us A 0) (hI : IAt w S2 L T2 tc2)
    (H0 : ClosH us L) :
    Calls Try.prog 39 #[.agg #[.int .i64 3, .int .i64 x, .int .i64 y, .int .i64 m, .bool b, .slice T ts.length tc, .slice A us.length c], .slice T2 L.length tc2] w (OnlyP (ClosOk (.mk 3 x y m b ts us) L) w) := by
  have hL : us.length ≤ 281474976710656 := by omega
  have H := hid (And.intro hm (And.intro hrow H0))
  have HI := hid hI
  have WX := hid hwf.2.1
  have WY := hid hwf.2.2.1
  clear hm hrow H0 hI hwf
  go_enter Try.func39, Try.ntmps39
  go_wp2_with (go_at_call 54; (refine (ref20_in L T2 tc2 x S2 _ (HI.out.keep (fun b9 hb' hl => ⟨(al1 w _).block b9 hl, hb'⟩))).mono ?_); rintro e9 w1 ⟨⟨tb, rfl, htb⟩, b1⟩; have R1 := hid (And.intro htb (And.intro ((Blk.new w 25 #[.int .i64 3, .int .i64 x, .int .i64 y, .int .i64 m, .bool b, .slice T ts.length tc, .slice A us.length c]).below b1 (by simp)) (below_hop b1 (al1 w _)))); clear htb b1)
  all_goals (try (go_ret; exact no_of rfl R1.out.2.2))
  have HX : Hid (KX 3 x L) := hid (fun h => absurd h (by decide))
  go_loopg [5] us.length (fun g z wr => ∃ (i : Nat), i + g = us.length ∧ z = .int .i64 i ∧ Hid (∀ j, (hj : j < us.length) → j < i → ClosOk us[j] (L ++ bindA 3 x y j)) ∧ Hid (Blk wr w.heap.size 25 #[.int .i64 3, .int .i64 x, .int .i64 y, .int .i64 m, .bool b, .slice T ts.length tc, .slice A us.length c]) ∧ Hid (Below w.heap.size w wr))
  case atStart => first | exact ⟨0, by omega, rfl, hid (fun j hj h => by omega), hid R1.out.2.1, hid R1.out.2.2⟩ | exact ⟨0, by omega, rfl, hid (fun j hj h => by omega), hid (Blk.new _ _ _), hid (al1 _ _)⟩
  case round =>
    obtain ⟨i, hi, rfl, hall, hb, hbl⟩ := hrel
    have Hi := hid hi
    by_cases hlt : i < us.length
    case neg =>
      obtain rfl : i = us.length := by omega
      obtain ⟨x0, x1, x2, x3, x4, x5, x6⟩ := hb.out.seven
      clear hi
      go_wp2
      go_ret
      exact yes_of (fun _ => clos_node HX.out (fun j hj => hall.out j hj hj)) hbl.out
    have hlt' : (i : Int) < us.length := by omega
    obtain ⟨x0, x1, x2, x3, x4, x5, x6⟩ := hb.out.seven
    obtain ⟨ad, k2, q2, y2, n2, i2, T5, tl2, tc5, A2, m2', c2, rfl, hSb, hab, ⟨y0, y1, y2', y3, y4, y5, y6⟩, hel⟩ := (H.out.2.1.up hbl.out).elem hlt
    obtain ⟨t, ht⟩ : ∃ t, t = us[i] := ⟨_, rfl⟩
    rw [← ht] at hel
    have Q := hid (And.intro hel (And.intro (show t ∈ us by rw [ht]; exact List.getElem_mem hlt) ht))
    have HLT := hid hlt
    clear hi hel hSb hab ht
    cases e0 : ((i : Int) == 0)
    · have HE := hid e0
      go_wp2_with (go_at_call 39; go_must (refine (H.out.2.2 t Q.out.2.1 _ _ S2 L T2 L.length tc2 _ Q.out.1 (HI.out.keep (fun b9 hb' hl => ⟨hbl.out.block b9 hl, hb'⟩)) rfl (by omega)).mono ?_); rintro e w5 ⟨⟨rb, rfl, hr⟩, b5⟩; have R5 := hid (And.intro hr (And.intro (below_hop b5 hbl.out) (hb.out.below b5 hb.out.lt))); clear hr b5)
      all_goals try (go_ret; exact no_of rfl R5.out.2.1)
      have HA : Hid (bindA 3 x y i = []) := hid ((by have h9 := HE.out; simp at h9; simp [bindA, h9]))
      have hgk := Hi.out
      have hlt9 := HLT.out
      go_roundg (gk - 1)
      case rel => exact ⟨i + 1, by omega, by go_num, hid (fun j hj hji => by
        by_cases e : j = i
        · subst e
          have h5 : ClosOk t (L) := R5.out.1 (by simpa using (by assumption : (!rb) = false))
          rw [Q.out.2.2] at h5
          have h6 : L ++ bindA 3 x y j = L := (by rw [HA.out]; simp)
          rw [h6]; exact h5
        · exact hall.out j hj (by omega)), hid R5.out.2.2, hid R5.out.2.1⟩
      case measure => omega
    · have HE := hid e0
      have HA : Hid (bindA 3 x y i = [x]) := hid (by have h9 := HE.out; simp at h9; simp [bindA, h9])
      go_wp2
      go_region_held3 (fun w' => w'.cell? ⟨w.heap.size, 1, none⟩ = some (.int .i64 x)) (first | with_reducible exact x1 | with_reducible exact z1 | go_keep) (first | (first | (refine step_appI (by rfl) _ _ (by rfl) wr.heap.size (v := .slice (some ⟨wr.heap.size, 0, none⟩) 0 0) (xs := []) (by rfl) ?_ (A := T2) (n := L.length) (c := tc2) (Bi := w.heap.size) (ys := L) (by rfl) ?_ ?_ ?_ ?_; (· first | exact (OwnI.lit0 (by simp) (by simp)).drew | exact ((OwnI.lit0 (by simp) (by simp)).alloc _).drew); (· exact iat_ints (B := w.heap.size) (HI.out.keep (T := fun b => b < w.heap.size) (fun b hb' hl => ⟨(by have h7 := hbl.out; (first | exact (h7.alloc h7.size _).drew | exact ((h7.alloc h7.size _).alloc (by have := h7.size; simp; omega) _).drew) : Below w.heap.size w _).block b hl, hl⟩)) (fun b hb _ => hb)); (· first | (simp; done) | (simp; omega)); (· first | (simp; done) | (simp; omega)); intro A1 c1 w2 ho hg hbb; simp only [List.length_nil, Nat.zero_add, List.nil_append] at ho ⊢; have O1 := hid ho; have B1 := hid (hbb wr.heap.size wr (Nat.le_refl _) (by first | exact (al1 _ _).drew | exact (al2 _ _ _).drew)); have z1 : w2.cell? ⟨w.heap.size, 1, none⟩ = some (.int .i64 x) := (hb.out.below B1.out hb.out.lt).cell 1; have z2 : w2.cell? ⟨w.heap.size, 2, none⟩ = some (.int .i64 y) := (hb.out.below B1.out hb.out.lt).cell 2; first | have LX := hid ((Blk.new' (g := wr.heap.size + 1) (w := wr.alloc (.cells #[] 3)) (by simp) 3 #[.int .i64 x]).drew.grown hg (by simp [Value.ownBlock])) | have LX := hid (((Blk.new' (g := wr.heap.size) (w := wr) (by simp) 3 #[.int .i64 x]).alloc (.cells #[] 3)).drew.grown hg (by simp [Value.ownBlock])) | skip) | (refine step_appI (by rfl) _ _ (by rfl) wr.heap.size (v := .slice (some ⟨wr.heap.size + 1, 0, none⟩) 0 0) (xs := []) (by rfl) ?_ (A := T2) (n := L.length) (c := tc2) (Bi := w.heap.size) (ys := L) (by rfl) ?_ ?_ ?_ ?_; (· first | exact (OwnI.lit0 (by simp) (by simp)).drew | exact ((OwnI.lit0 (by simp) (by simp)).alloc _).drew); (· exact iat_ints (B := w.heap.size) (HI.out.keep (T := fun b => b < w.heap.size) (fun b hb' hl => ⟨(by have h7 := hbl.out; (first | exact (h7.alloc h7.size _).drew | exact ((h7.alloc h7.size _).alloc (by have := h7.size; simp; omega) _).drew) : Below w.heap.size w _).block b hl, hl⟩)) (fun b hb _ => hb)); (· first | (simp; done) | (simp; omega)); (· first | (simp; done) | (simp; omega)); intro A1 c1 w2 ho hg hbb; simp only [List.length_nil, Nat.zero_add, List.nil_append] at ho ⊢; have O1 := hid ho; have B1 := hid (hbb wr.heap.size wr (Nat.le_refl _) (by first | exact (al1 _ _).drew | exact (al2 _ _ _).drew)); have z1 : w2.cell? ⟨w.heap.size, 1, none⟩ = some (.int .i64 x) := (hb.out.below B1.out hb.out.lt).cell 1; have z2 : w2.cell? ⟨w.heap.size, 2, none⟩ = some (.int .i64 y) := (hb.out.below B1.out hb.out.lt).cell 2; first | have LX := hid ((Blk.new' (g := wr.heap.size + 1) (w := wr.alloc (.cells #[] 3)) (by simp) 3 #[.int .i64 x]).drew.grown hg (by simp [Value.ownBlock])) | have LX := hid (((Blk.new' (g := wr.heap.size) (w := wr) (by simp) 3 #[.int .i64 x]).alloc (.cells #[] 3)).drew.grown hg (by simp [Value.ownBlock])) | skip)) | (have _ := O1; first | (refine step_appI (by rfl) _ _ (by rfl) wr.heap.size (v := .slice A1 L.length c1) (xs := L) (by rfl) ?_ (A := some ⟨w2.heap.size, 0, none⟩) (n := 1) (c := 1) (Bi := w2.heap.size + 1) (ys := [x]) (by rfl) ?_ ?_ ?_ ?_; (· first | exact O1.out | exact O1.out.alloc _); (· (first | exact ints_lit1 LX.out WX.out | exact ints_lit1 (Blk.new' (by simp) _ _) WX.out)); (· omega); (· have h6 := B1.out.size; first | exact h6 | exact Nat.le_trans h6 (al1 _ _).size); intro A3 c3 w3 ho hg hbb; have O3 := hid ho; have B3 := hid (hbb wr.heap.size wr (Nat.le_refl _) (by have b1 := B1.out; first | exact b1 | exact b1.alloc b1.size _)); have z1 : w3.cell? ⟨w.heap.size, 1, none⟩ = some (.int .i64 x) := (hb.out.below B3.out hb.out.lt).cell 1; have z2 : w3.cell? ⟨w.heap.size, 2, none⟩ = some (.int .i64 y) := (hb.out.below B3.out hb.out.lt).cell 2) | (refine step_appI (by rfl) _ _ (by rfl) wr.heap.size (v := .slice A1 L.length c1) (xs := L) (by rfl) ?_ (A := some ⟨wr.heap.size + 1, 0, none⟩) (n := 1) (c := 1) (Bi := wr.heap.size + 1 + 1) (ys := [x]) (by rfl) ?_ ?_ ?_ ?_; (· first | exact O1.out | exact O1.out.alloc _); (· (first | exact ints_lit1 LX.out WX.out | exact ints_lit1 (Blk.new' (by simp) _ _) WX.out)); (· omega); (· have h6 := B1.out.size; first | exact h6 | exact Nat.le_trans h6 (al1 _ _).size); intro A3 c3 w3 ho hg hbb; have O3 := hid ho; have B3 := hid (hbb wr.heap.size wr (Nat.le_refl _) (by have b1 := B1.out; first | exact b1 | exact b1.alloc b1.size _)); have z1 : w3.cell? ⟨w.heap.size, 1, none⟩ = some (.int .i64 x) := (hb.out.below B3.out hb.out.lt).cell 1; have z2 : w3.cell? ⟨w.heap.size, 2, none⟩ = some (.int .i64 y) := (hb.out.below B3.out hb.out.lt).cell 2) | (refine step_appI (by rfl) _ _ (by rfl) wr.heap.size (v := .slice A1 L.length c1) (xs := L) (by rfl) ?_ (A := some ⟨wr.heap.size, 0, none⟩) (n := 1) (c := 1) (Bi := wr.heap.size + 1) (ys := [x]) (by rfl) ?_ ?_ ?_ ?_; (· first | exact O1.out | exact O1.out.alloc _); (· (first | exact ints_lit1 LX.out WX.out | exact ints_lit1 (Blk.new' (by simp) _ _) WX.out)); (· omega); (· have h6 := B1.out.size; first | exact h6 | exact Nat.le_trans h6 (al1 _ _).size); intro A3 c3 w3 ho hg hbb; have O3 := hid ho; have B3 := hid (hbb wr.heap.size wr (Nat.le_refl _) (by have b1 := B1.out; first | exact b1 | exact b1.alloc b1.size _)); have z1 : w3.cell? ⟨w.heap.size, 1, none⟩ = some (.int .i64 x) := (hb.out.below B3.out hb.out.lt).cell 1; have z2 : w3.cell? ⟨w.heap.size, 2, none⟩ = some (.int .i64 y) := (hb.out.below B3.out hb.out.lt).cell 2)))
      all_goals
        have x7 := (hb.out.below B3.out hb.out.lt).seven
        obtain ⟨v0, v1, v2, v3, v4, v5, v6⟩ := x7
        have y7 := at7_keep (B3.out.block _ (cell_lt y0)) rfl (And.intro y0 (And.intro y1 (And.intro y2' (And.intro y3 (And.intro y4 (And.intro y5 y6))))))
        obtain ⟨z0, z1, z2, z3, z4, z5, z6⟩ := y7
        go_wp2_with (go_at_call 39; go_must (refine (H.out.2.2 t Q.out.2.1 _ _ _ (L ++ [x]) A3 (L.length + 1) c3 _ (Q.out.1.up B3.out) (own_iat O3.out (by simp; omega)).2 (by simp) (by simp)).mono ?_); rintro e w5 ⟨⟨rb, rfl, hr⟩, b5⟩; have R5 := hid (And.intro hr (And.intro (below_hop b5 (below_hop B3.out hbl.out)) ((hb.out.below B3.out hb.out.lt).below b5 (hb.out.below B3.out hb.out.lt).lt))); clear hr b5)
        all_goals try (go_ret; exact no_of rfl R5.out.2.1)
      all_goals (
      have hgk := Hi.out
      have hlt9 := HLT.out
      go_roundg (gk - 1)
      case rel => exact ⟨i + 1, by omega, by go_num, hid (fun j hj hji => by
        by_cases e : j = i
        · subst e
          have h5 : ClosOk t (L ++ [x]) := R5.out.1 (by simpa using (by assumption : (!rb) = false))
          rw [Q.out.2.2] at h5
          have h6 : L ++ bindA 3 x y j = L ++ [x] := (by rw [HA.out])
          rw [h6]; exact h5
        · exact hall.out j hj (by omega)), hid R5.out.2.2, hid R5.out.2.1⟩
      case measure => omega)
set_option maxHeartbeats 8000000 in
set_option maxRecDepth 100000 in
theorem closed_k5 (x y m : Int) (b : Bool) (T A T2 : Option Addr) (tc tc2 : Nat) (ts : List Int) (us : List Co) (c : Nat) (L : List Int) (S S2 : Nat → Prop) (w : World) (hm : us.length ≤ 17592186044416) (hLl : L.length ≤ 900000) (hwf : Wf4 5 x y m) (hrow : CRow w S us A 0) (hI : IAt w S2 L T2 tc2)
    (H0 : ClosH us L) :
    Calls Try.prog 39 #[.agg #[.int .i64 5, .int .i64 x, .int .i64 y, .int .i64 m, .bool b, .slice T ts.length tc, .slice A us.length c], .slice T2 L.length tc2] w (OnlyP (ClosOk (.mk 5 x y m b ts us) L) w) := by
  have hL : us.length ≤ 281474976710656 := by omega
  have H := hid (And.intro hm (And.intro hrow H0))
  have HI := hid hI
  have WX := hid hwf.2.1
  have WY := hid hwf.2.2.1
  clear hm hrow H0 hI hwf
  go_enter Try.func39, Try.ntmps39
  go_wp2_with (go_at_call 54; (refine (ref20_in L T2 tc2 x S2 _ (HI.out.keep (fun b9 hb' hl => ⟨(al1 w _).block b9 hl, hb'⟩))).mono ?_); rintro e9 w1 ⟨⟨tb, rfl, htb⟩, b1⟩; have R1 := hid (And.intro htb (And.intro ((Blk.new w 25 #[.int .i64 5, .int .i64 x, .int .i64 y, .int .i64 m, .bool b, .slice T ts.length tc, .slice A us.length c]).below b1 (by simp)) (below_hop b1 (al1 w _)))); clear htb b1)
  all_goals (try (go_ret; exact no_of rfl R1.out.2.2))
  have HX : Hid (KX 5 x L) := hid (fun h => absurd h (by decide))
  go_loopg [5] us.length (fun g z wr => ∃ (i : Nat), i + g = us.length ∧ z = .int .i64 i ∧ Hid (∀ j, (hj : j < us.length) → j < i → ClosOk us[j] (L ++ bindA 5 x y j)) ∧ Hid (Blk wr w.heap.size 25 #[.int .i64 5, .int .i64 x, .int .i64 y, .int .i64 m, .bool b, .slice T ts.length tc, .slice A us.length c]) ∧ Hid (Below w.heap.size w wr))
  case atStart => first | exact ⟨0, by omega, rfl, hid (fun j hj h => by omega), hid R1.out.2.1, hid R1.out.2.2⟩ | exact ⟨0, by omega, rfl, hid (fun j hj h => by omega), hid (Blk.new _ _ _), hid (al1 _ _)⟩
  case round =>
    obtain ⟨i, hi, rfl, hall, hb, hbl⟩ := hrel
    have Hi := hid hi
    by_cases hlt : i < us.length
    case neg =>
      obtain rfl : i = us.length := by omega
      obtain ⟨x0, x1, x2, x3, x4, x5, x6⟩ := hb.out.seven
      clear hi
      go_wp2
      go_ret
      exact yes_of (fun _ => clos_node HX.out (fun j hj => hall.out j hj hj)) hbl.out
    have hlt' : (i : Int) < us.length := by omega
    obtain ⟨x0, x1, x2, x3, x4, x5, x6⟩ := hb.out.seven
    obtain ⟨ad, k2, q2, y2, n2, i2, T5, tl2, tc5, A2, m2', c2, rfl, hSb, hab, ⟨y0, y1, y2', y3, y4, y5, y6⟩, hel⟩ := (H.out.2.1.up hbl.out).elem hlt
    obtain ⟨t, ht⟩ : ∃ t, t = us[i] := ⟨_, rfl⟩
    rw [← ht] at hel
    have Q := hid (And.intro hel (And.intro (show t ∈ us by rw [ht]; exact List.getElem_mem hlt) ht))
    have HLT := hid hlt
    clear hi hel hSb hab ht
    cases e0 : ((i : Int) == 1)
    · have HE := hid e0
      go_wp2_with (go_at_call 39; go_must (refine (H.out.2.2 t Q.out.2.1 _ _ S2 L T2 L.length tc2 _ Q.out.1 (HI.out.keep (fun b9 hb' hl => ⟨hbl.out.block b9 hl, hb'⟩)) rfl (by omega)).mono ?_); rintro e w5 ⟨⟨rb, rfl, hr⟩, b5⟩; have R5 := hid (And.intro hr (And.intro (below_hop b5 hbl.out) (hb.out.below b5 hb.out.lt))); clear hr b5)
      all_goals try (go_ret; exact no_of rfl R5.out.2.1)
      have HA : Hid (bindA 5 x y i = []) := hid ((by have h9 := HE.out; simp at h9; have h8 : ¬ i = 1 := (by omega); simp [bindA, h8]))
      have hgk := Hi.out
      have hlt9 := HLT.out
      go_roundg (gk - 1)
      case rel => exact ⟨i + 1, by omega, by go_num, hid (fun j hj hji => by
        by_cases e : j = i
        · subst e
          have h5 : ClosOk t (L) := R5.out.1 (by simpa using (by assumption : (!rb) = false))
          rw [Q.out.2.2] at h5
          have h6 : L ++ bindA 5 x y j = L := (by rw [HA.out]; simp)
          rw [h6]; exact h5
        · exact hall.out j hj (by omega)), hid R5.out.2.2, hid R5.out.2.1⟩
      case measure => omega
    · have HE := hid e0
      have HA : Hid (bindA 5 x y i = [x]) := hid (by have h9 := HE.out; simp at h9; have h8 : i = 1 := (by omega); simp [bindA, h8])
      go_wp2
      go_region_held3 (fun w' => w'.cell? ⟨w.heap.size, 1, none⟩ = some (.int .i64 x)) (first | with_reducible exact x1 | with_reducible exact z1 | go_keep) (first | (first | (refine step_appI (by rfl) _ _ (by rfl) wr.heap.size (v := .slice (some ⟨wr.heap.size, 0, none⟩) 0 0) (xs := []) (by rfl) ?_ (A := T2) (n := L.length) (c := tc2) (Bi := w.heap.size) (ys := L) (by rfl) ?_ ?_ ?_ ?_; (· first | exact (OwnI.lit0 (by simp) (by simp)).drew | exact ((OwnI.lit0 (by simp) (by simp)).alloc _).drew); (· exact iat_ints (B := w.heap.size) (HI.out.keep (T := fun b => b < w.heap.size) (fun b hb' hl => ⟨(by have h7 := hbl.out; (first | exact (h7.alloc h7.size _).drew | exact ((h7.alloc h7.size _).alloc (by have := h7.size; simp; omega) _).drew) : Below w.heap.size w _).block b hl, hl⟩)) (fun b hb _ => hb)); (· first | (simp; done) | (simp; omega)); (· first | (simp; done) | (simp; omega)); intro A1 c1 w2 ho hg hbb; simp only [List.length_nil, Nat.zero_add, List.nil_append] at ho ⊢; have O1 := hid ho; have B1 := hid (hbb wr.heap.size wr (Nat.le_refl _) (by first | exact (al1 _ _).drew | exact (al2 _ _ _).drew)); have z1 : w2.cell? ⟨w.heap.size, 1, none⟩ = some (.int .i64 x) := (hb.out.below B1.out hb.out.lt).cell 1; have z2 : w2.cell? ⟨w.heap.size, 2, none⟩ = some (.int .i64 y) := (hb.out.below B1.out hb.out.lt).cell 2; first | have LX := hid ((Blk.new' (g := wr.heap.size + 1) (w := wr.alloc (.cells #[] 3)) (by simp) 3 #[.int .i64 x]).drew.grown hg (by simp [Value.ownBlock])) | have LX := hid (((Blk.new' (g := wr.heap.size) (w := wr) (by simp) 3 #[.int .i64 x]).alloc (.cells #[] 3)).drew.grown hg (by simp [Value.ownBlock])) | skip) | (refine step_appI (by rfl) _ _ (by rfl) wr.heap.size (v := .slice (some ⟨wr.heap.size + 1, 0, none⟩) 0 0) (xs := []) (by rfl) ?_ (A := T2) (n := L.length) (c := tc2) (Bi := w.heap.size) (ys := L) (by rfl) ?_ ?_ ?_ ?_; (· first | exact (OwnI.lit0 (by simp) (by simp)).drew | exact ((OwnI.lit0 (by simp) (by simp)).alloc _).drew); (· exact iat_ints (B := w.heap.size) (HI.out.keep (T := fun b => b < w.heap.size) (fun b hb' hl => ⟨(by have h7 := hbl.out; (first | exact (h7.alloc h7.size _).drew | exact ((h7.alloc h7.size _).alloc (by have := h7.size; simp; omega) _).drew) : Below w.heap.size w _).block b hl, hl⟩)) (fun b hb _ => hb)); (· first | (simp; done) | (simp; omega)); (· first | (simp; done) | (simp; omega)); intro A1 c1 w2 ho hg hbb; simp only [List.length_nil, Nat.zero_add, List.nil_append] at ho ⊢; have O1 := hid ho; have B1 := hid (hbb wr.heap.size wr (Nat.le_refl _) (by first | exact (al1 _ _).drew | exact (al2 _ _ _).drew)); have z1 : w2.cell? ⟨w.heap.size, 1, none⟩ = some (.int .i64 x) := (hb.out.below B1.out hb.out.lt).cell 1; have z2 : w2.cell? ⟨w.heap.size, 2, none⟩ = some (.int .i64 y) := (hb.out.below B1.out hb.out.lt).cell 2; first | have LX := hid ((Blk.new' (g := wr.heap.size + 1) (w := wr.alloc (.cells #[] 3)) (by simp) 3 #[.int .i64 x]).drew.grown hg (by simp [Value.ownBlock])) | have LX := hid (((Blk.new' (g := wr.heap.size) (w := wr) (by simp) 3 #[.int .i64 x]).alloc (.cells #[] 3)).drew.grown hg (by simp [Value.ownBlock])) | skip)) | (have _ := O1; first | (refine step_appI (by rfl) _ _ (by rfl) wr.heap.size (v := .slice A1 L.length c1) (xs := L) (by rfl) ?_ (A := some ⟨w2.heap.size, 0, none⟩) (n := 1) (c := 1) (Bi := w2.heap.size + 1) (ys := [x]) (by rfl) ?_ ?_ ?_ ?_; (· first | exact O1.out | exact O1.out.alloc _); (· (first | exact ints_lit1 LX.out WX.out | exact ints_lit1 (Blk.new' (by simp) _ _) WX.out)); (· omega); (· have h6 := B1.out.size; first | exact h6 | exact Nat.le_trans h6 (al1 _ _).size); intro A3 c3 w3 ho hg hbb; have O3 := hid ho; have B3 := hid (hbb wr.heap.size wr (Nat.le_refl _) (by have b1 := B1.out; first | exact b1 | exact b1.alloc b1.size _)); have z1 : w3.cell? ⟨w.heap.size, 1, none⟩ = some (.int .i64 x) := (hb.out.below B3.out hb.out.lt).cell 1; have z2 : w3.cell? ⟨w.heap.size, 2, none⟩ = some (.int .i64 y) := (hb.out.below B3.out hb.out.lt).cell 2) | (refine step_appI (by rfl) _ _ (by rfl) wr.heap.size (v := .slice A1 L.length c1) (xs := L) (by rfl) ?_ (A := some ⟨wr.heap.size + 1, 0, none⟩) (n := 1) (c := 1) (Bi := wr.heap.size + 1 + 1) (ys := [x]) (by rfl) ?_ ?_ ?_ ?_; (· first | exact O1.out | exact O1.out.alloc _); (· (first | exact ints_lit1 LX.out WX.out | exact ints_lit1 (Blk.new' (by simp) _ _) WX.out)); (· omega); (· have h6 := B1.out.size; first | exact h6 | exact Nat.le_trans h6 (al1 _ _).size); intro A3 c3 w3 ho hg hbb; have O3 := hid ho; have B3 := hid (hbb wr.heap.size wr (Nat.le_refl _) (by have b1 := B1.out; first | exact b1 | exact b1.alloc b1.size _)); have z1 : w3.cell? ⟨w.heap.size, 1, none⟩ = some (.int .i64 x) := (hb.out.below B3.out hb.out.lt).cell 1; have z2 : w3.cell? ⟨w.heap.size, 2, none⟩ = some (.int .i64 y) := (hb.out.below B3.out hb.out.lt).cell 2) | (refine step_appI (by rfl) _ _ (by rfl) wr.heap.size (v := .slice A1 L.length c1) (xs := L) (by rfl) ?_ (A := some ⟨wr.heap.size, 0, none⟩) (n := 1) (c := 1) (Bi := wr.heap.size + 1) (ys := [x]) (by rfl) ?_ ?_ ?_ ?_; (· first | exact O1.out | exact O1.out.alloc _); (· (first | exact ints_lit1 LX.out WX.out | exact ints_lit1 (Blk.new' (by simp) _ _) WX.out)); (· omega); (· have h6 := B1.out.size; first | exact h6 | exact Nat.le_trans h6 (al1 _ _).size); intro A3 c3 w3 ho hg hbb; have O3 := hid ho; have B3 := hid (hbb wr.heap.size wr (Nat.le_refl _) (by have b1 := B1.out; first | exact b1 | exact b1.alloc b1.size _)); have z1 : w3.cell? ⟨w.heap.size, 1, none⟩ = some (.int .i64 x) := (hb.out.below B3.out hb.out.lt).cell 1; have z2 : w3.cell? ⟨w.heap.size, 2, none⟩ = some (.int .i64 y) := (hb.out.below B3.out hb.out.lt).cell 2)))
      all_goals
        have x7 := (hb.out.below B3.out hb.out.lt).seven
        obtain ⟨v0, v1, v2, v3, v4, v5, v6⟩ := x7
        have y7 := at7_keep (B3.out.block _ (cell_lt y0)) rfl (And.intro y0 (And.intro y1 (And.intro y2' (And.intro y3 (And.intro y4 (And.intro y5 y6))))))
        obtain ⟨z0, z1, z2, z3, z4, z5, z6⟩ := y7
        go_wp2_with (go_at_call 39; go_must (refine (H.out.2.2 t Q.out.2.1 _ _ _ (L ++ [x]) A3 (L.length + 1) c3 _ (Q.out.1.up B3.out) (own_iat O3.out (by simp; omega)).2 (by simp) (by simp)).mono ?_); rintro e w5 ⟨⟨rb, rfl, hr⟩, b5⟩; have R5 := hid (And.intro hr (And.intro (below_hop b5 (below_hop B3.out hbl.out)) ((hb.out.below B3.out hb.out.lt).below b5 (hb.out.below B3.out hb.out.lt).lt))); clear hr b5)
        all_goals try (go_ret; exact no_of rfl R5.out.2.1)
      all_goals (
      have hgk := Hi.out
      have hlt9 := HLT.out
      go_roundg (gk - 1)
      case rel => exact ⟨i + 1, by omega, by go_num, hid (fun j hj hji => by
        by_cases e : j = i
        · subst e
          have h5 : ClosOk t (L ++ [x]) := R5.out.1 (by simpa using (by assumption : (!rb) = false))
          rw [Q.out.2.2] at h5
          have h6 : L ++ bindA 5 x y j = L ++ [x] := (by rw [HA.out])
          rw [h6]; exact h5
        · exact hall.out j hj (by omega)), hid R5.out.2.2, hid R5.out.2.1⟩
      case measure => omega)
set_option maxHeartbeats 8000000 in
set_option maxRecDepth 100000 in
theorem closed_k6 (x y m : Int) (b : Bool) (T A T2 : Option Addr) (tc tc2 : Nat) (ts : List Int) (us : List Co) (c : Nat) (L : List Int) (S S2 : Nat → Prop) (w : World) (hm : us.length ≤ 17592186044416) (hLl : L.length ≤ 900000) (hwf : Wf4 6 x y m) (hrow : CRow w S us A 0) (hI : IAt w S2 L T2 tc2)
    (H0 : ClosH us L) :
    Calls Try.prog 39 #[.agg #[.int .i64 6, .int .i64 x, .int .i64 y, .int .i64 m, .bool b, .slice T ts.length tc, .slice A us.length c], .slice T2 L.length tc2] w (OnlyP (ClosOk (.mk 6 x y m b ts us) L) w) := by
  have hL : us.length ≤ 281474976710656 := by omega
  have H := hid (And.intro hm (And.intro hrow H0))
  have HI := hid hI
  have WX := hid hwf.2.1
  have WY := hid hwf.2.2.1
  clear hm hrow H0 hI hwf
  go_enter Try.func39, Try.ntmps39
  go_wp2_with (go_at_call 54; (refine (ref20_in L T2 tc2 x S2 _ (HI.out.keep (fun b9 hb' hl => ⟨(al1 w _).block b9 hl, hb'⟩))).mono ?_); rintro e9 w1 ⟨⟨tb, rfl, htb⟩, b1⟩; have R1 := hid (And.intro htb (And.intro ((Blk.new w 25 #[.int .i64 6, .int .i64 x, .int .i64 y, .int .i64 m, .bool b, .slice T ts.length tc, .slice A us.length c]).below b1 (by simp)) (below_hop b1 (al1 w _)))); clear htb b1)
  all_goals (try (go_ret; exact no_of rfl R1.out.2.2))
  have HX : Hid (KX 6 x L) := hid (fun h => absurd h (by decide))
  go_loopg [5] us.length (fun g z wr => ∃ (i : Nat), i + g = us.length ∧ z = .int .i64 i ∧ Hid (∀ j, (hj : j < us.length) → j < i → ClosOk us[j] (L ++ bindA 6 x y j)) ∧ Hid (Blk wr w.heap.size 25 #[.int .i64 6, .int .i64 x, .int .i64 y, .int .i64 m, .bool b, .slice T ts.length tc, .slice A us.length c]) ∧ Hid (Below w.heap.size w wr))
  case atStart => first | exact ⟨0, by omega, rfl, hid (fun j hj h => by omega), hid R1.out.2.1, hid R1.out.2.2⟩ | exact ⟨0, by omega, rfl, hid (fun j hj h => by omega), hid (Blk.new _ _ _), hid (al1 _ _)⟩
  case round =>
    obtain ⟨i, hi, rfl, hall, hb, hbl⟩ := hrel
    have Hi := hid hi
    by_cases hlt : i < us.length
    case neg =>
      obtain rfl : i = us.length := by omega
      obtain ⟨x0, x1, x2, x3, x4, x5, x6⟩ := hb.out.seven
      clear hi
      go_wp2
      go_ret
      exact yes_of (fun _ => clos_node HX.out (fun j hj => hall.out j hj hj)) hbl.out
    have hlt' : (i : Int) < us.length := by omega
    obtain ⟨x0, x1, x2, x3, x4, x5, x6⟩ := hb.out.seven
    obtain ⟨ad, k2, q2, y2, n2, i2, T5, tl2, tc5, A2, m2', c2, rfl, hSb, hab, ⟨y0, y1, y2', y3, y4, y5, y6⟩, hel⟩ := (H.out.2.1.up hbl.out).elem hlt
    obtain ⟨t, ht⟩ : ∃ t, t = us[i] := ⟨_, rfl⟩
    rw [← ht] at hel
    have Q := hid (And.intro hel (And.intro (show t ∈ us by rw [ht]; exact List.getElem_mem hlt) ht))
    have HLT := hid hlt
    clear hi hel hSb hab ht
    rcases (show (((i : Int) == 1) = true ∧ True) ∨ (((i : Int) == 1) = false ∧ ((i : Int) == 0) = true) ∨ (((i : Int) == 1) = false ∧ ((i : Int) == 0) = false) by cases ((i : Int) == 1) <;> cases ((i : Int) == 0) <;> simp) with ⟨e1, e0⟩ | ⟨e1, e0⟩ | ⟨e1, e0⟩
    · have HE := hid e1
      have HA : Hid (bindA 6 x y i = [x]) := hid (by have h9 := HE.out; simp at h9; have h8 : i = 1 := (by omega); simp [bindA, h8])
      go_wp2
      go_region_held3 (fun w' => w'.cell? ⟨w.heap.size, 1, none⟩ = some (.int .i64 x)) (first | with_reducible exact x1 | with_reducible exact z1 | go_keep) (first | (first | (refine step_appI (by rfl) _ _ (by rfl) wr.heap.size (v := .slice (some ⟨wr.heap.size, 0, none⟩) 0 0) (xs := []) (by rfl) ?_ (A := T2) (n := L.length) (c := tc2) (Bi := w.heap.size) (ys := L) (by rfl) ?_ ?_ ?_ ?_; (· first | exact (OwnI.lit0 (by simp) (by simp)).drew | exact ((OwnI.lit0 (by simp) (by simp)).alloc _).drew); (· exact iat_ints (B := w.heap.size) (HI.out.keep (T := fun b => b < w.heap.size) (fun b hb' hl => ⟨(by have h7 := hbl.out; (first | exact (h7.alloc h7.size _).drew | exact ((h7.alloc h7.size _).alloc (by have := h7.size; simp; omega) _).drew) : Below w.heap.size w _).block b hl, hl⟩)) (fun b hb _ => hb)); (· first | (simp; done) | (simp; omega)); (· first | (simp; done) | (simp; omega)); intro A1 c1 w2 ho hg hbb; simp only [List.length_nil, Nat.zero_add, List.nil_append] at ho ⊢; have O1 := hid ho; have B1 := hid (hbb wr.heap.size wr (Nat.le_refl _) (by first | exact (al1 _ _).drew | exact (al2 _ _ _).drew)); have z1 : w2.cell? ⟨w.heap.size, 1, none⟩ = some (.int .i64 x) := (hb.out.below B1.out hb.out.lt).cell 1; have z2 : w2.cell? ⟨w.heap.size, 2, none⟩ = some (.int .i64 y) := (hb.out.below B1.out hb.out.lt).cell 2; first | have LX := hid ((Blk.new' (g := wr.heap.size + 1) (w := wr.alloc (.cells #[] 3)) (by simp) 3 #[.int .i64 x]).drew.grown hg (by simp [Value.ownBlock])) | have LX := hid (((Blk.new' (g := wr.heap.size) (w := wr) (by simp) 3 #[.int .i64 x]).alloc (.cells #[] 3)).drew.grown hg (by simp [Value.ownBlock])) | skip) | (refine step_appI (by rfl) _ _ (by rfl) wr.heap.size (v := .slice (some ⟨wr.heap.size + 1, 0, none⟩) 0 0) (xs := []) (by rfl) ?_ (A := T2) (n := L.length) (c := tc2) (Bi := w.heap.size) (ys := L) (by rfl) ?_ ?_ ?_ ?_; (· first | exact (OwnI.lit0 (by simp) (by simp)).drew | exact ((OwnI.lit0 (by simp) (by simp)).alloc _).drew); (· exact iat_ints (B := w.heap.size) (HI.out.keep (T := fun b => b < w.heap.size) (fun b hb' hl => ⟨(by have h7 := hbl.out; (first | exact (h7.alloc h7.size _).drew | exact ((h7.alloc h7.size _).alloc (by have := h7.size; simp; omega) _).drew) : Below w.heap.size w _).block b hl, hl⟩)) (fun b hb _ => hb)); (· first | (simp; done) | (simp; omega)); (· first | (simp; done) | (simp; omega)); intro A1 c1 w2 ho hg hbb; simp only [List.length_nil, Nat.zero_add, List.nil_append] at ho ⊢; have O1 := hid ho; have B1 := hid (hbb wr.heap.size wr (Nat.le_refl _) (by first | exact (al1 _ _).drew | exact (al2 _ _ _).drew)); have z1 : w2.cell? ⟨w.heap.size, 1, none⟩ = some (.int .i64 x) := (hb.out.below B1.out hb.out.lt).cell 1; have z2 : w2.cell? ⟨w.heap.size, 2, none⟩ = some (.int .i64 y) := (hb.out.below B1.out hb.out.lt).cell 2; first | have LX := hid ((Blk.new' (g := wr.heap.size + 1) (w := wr.alloc (.cells #[] 3)) (by simp) 3 #[.int .i64 x]).drew.grown hg (by simp [Value.ownBlock])) | have LX := hid (((Blk.new' (g := wr.heap.size) (w := wr) (by simp) 3 #[.int .i64 x]).alloc (.cells #[] 3)).drew.grown hg (by simp [Value.ownBlock])) | skip)) | (have _ := O1; first | (refine step_appI (by rfl) _ _ (by rfl) wr.heap.size (v := .slice A1 L.length c1) (xs := L) (by rfl) ?_ (A := some ⟨w2.heap.size, 0, none⟩) (n := 1) (c := 1) (Bi := w2.heap.size + 1) (ys := [x]) (by rfl) ?_ ?_ ?_ ?_; (· first | exact O1.out | exact O1.out.alloc _); (· (first | exact ints_lit1 LX.out WX.out | exact ints_lit1 (Blk.new' (by simp) _ _) WX.out)); (· omega); (· have h6 := B1.out.size; first | exact h6 | exact Nat.le_trans h6 (al1 _ _).size); intro A3 c3 w3 ho hg hbb; have O3 := hid ho; have B3 := hid (hbb wr.heap.size wr (Nat.le_refl _) (by have b1 := B1.out; first | exact b1 | exact b1.alloc b1.size _)); have z1 : w3.cell? ⟨w.heap.size, 1, none⟩ = some (.int .i64 x) := (hb.out.below B3.out hb.out.lt).cell 1; have z2 : w3.cell? ⟨w.heap.size, 2, none⟩ = some (.int .i64 y) := (hb.out.below B3.out hb.out.lt).cell 2) | (refine step_appI (by rfl) _ _ (by rfl) wr.heap.size (v := .slice A1 L.length c1) (xs := L) (by rfl) ?_ (A := some ⟨wr.heap.size + 1, 0, none⟩) (n := 1) (c := 1) (Bi := wr.heap.size + 1 + 1) (ys := [x]) (by rfl) ?_ ?_ ?_ ?_; (· first | exact O1.out | exact O1.out.alloc _); (· (first | exact ints_lit1 LX.out WX.out | exact ints_lit1 (Blk.new' (by simp) _ _) WX.out)); (· omega); (· have h6 := B1.out.size; first | exact h6 | exact Nat.le_trans h6 (al1 _ _).size); intro A3 c3 w3 ho hg hbb; have O3 := hid ho; have B3 := hid (hbb wr.heap.size wr (Nat.le_refl _) (by have b1 := B1.out; first | exact b1 | exact b1.alloc b1.size _)); have z1 : w3.cell? ⟨w.heap.size, 1, none⟩ = some (.int .i64 x) := (hb.out.below B3.out hb.out.lt).cell 1; have z2 : w3.cell? ⟨w.heap.size, 2, none⟩ = some (.int .i64 y) := (hb.out.below B3.out hb.out.lt).cell 2) | (refine step_appI (by rfl) _ _ (by rfl) wr.heap.size (v := .slice A1 L.length c1) (xs := L) (by rfl) ?_ (A := some ⟨wr.heap.size, 0, none⟩) (n := 1) (c := 1) (Bi := wr.heap.size + 1) (ys := [x]) (by rfl) ?_ ?_ ?_ ?_; (· first | exact O1.out | exact O1.out.alloc _); (· (first | exact ints_lit1 LX.out WX.out | exact ints_lit1 (Blk.new' (by simp) _ _) WX.out)); (· omega); (· have h6 := B1.out.size; first | exact h6 | exact Nat.le_trans h6 (al1 _ _).size); intro A3 c3 w3 ho hg hbb; have O3 := hid ho; have B3 := hid (hbb wr.heap.size wr (Nat.le_refl _) (by have b1 := B1.out; first | exact b1 | exact b1.alloc b1.size _)); have z1 : w3.cell? ⟨w.heap.size, 1, none⟩ = some (.int .i64 x) := (hb.out.below B3.out hb.out.lt).cell 1; have z2 : w3.cell? ⟨w.heap.size, 2, none⟩ = some (.int .i64 y) := (hb.out.below B3.out hb.out.lt).cell 2)))
      all_goals
        have x7 := (hb.out.below B3.out hb.out.lt).seven
        obtain ⟨v0, v1, v2, v3, v4, v5, v6⟩ := x7
        have y7 := at7_keep (B3.out.block _ (cell_lt y0)) rfl (And.intro y0 (And.intro y1 (And.intro y2' (And.intro y3 (And.intro y4 (And.intro y5 y6))))))
        obtain ⟨z0, z1, z2, z3, z4, z5, z6⟩ := y7
        go_wp2_with (go_at_call 39; go_must (refine (H.out.2.2 t Q.out.2.1 _ _ _ (L ++ [x]) A3 (L.length + 1) c3 _ (Q.out.1.up B3.out) (own_iat O3.out (by simp; omega)).2 (by simp) (by simp)).mono ?_); rintro e w5 ⟨⟨rb, rfl, hr⟩, b5⟩; have R5 := hid (And.intro hr (And.intro (below_hop b5 (below_hop B3.out hbl.out)) ((hb.out.below B3.out hb.out.lt).below b5 (hb.out.below B3.out hb.out.lt).lt))); clear hr b5)
        all_goals try (go_ret; exact no_of rfl R5.out.2.1)
      all_goals (
      have hgk := Hi.out
      have hlt9 := HLT.out
      go_roundg (gk - 1)
      case rel => exact ⟨i + 1, by omega, by go_num, hid (fun j hj hji => by
        by_cases e : j = i
        · subst e
          have h5 : ClosOk t (L ++ [x]) := R5.out.1 (by simpa using (by assumption : (!rb) = false))
          rw [Q.out.2.2] at h5
          have h6 : L ++ bindA 6 x y j = L ++ [x] := (by rw [HA.out])
          rw [h6]; exact h5
        · exact hall.out j hj (by omega)), hid R5.out.2.2, hid R5.out.2.1⟩
      case measure => omega)
    · have HE := hid e0
      have HA : Hid (bindA 6 x y i = [x, y]) := hid (by have h9 := HE.out; simp at h9; simp [bindA, h9])
      go_wp2
      go_region_held3 (fun w' => w'.cell? ⟨w.heap.size, 1, none⟩ = some (.int .i64 x) ∧ w'.cell? ⟨w.heap.size, 2, none⟩ = some (.int .i64 y)) (first | with_reducible exact ⟨x1, x2⟩ | with_reducible exact ⟨z1, z2⟩ | go_keep) (first | (first | (refine step_appI (by rfl) _ _ (by rfl) wr.heap.size (v := .slice (some ⟨wr.heap.size, 0, none⟩) 0 0) (xs := []) (by rfl) ?_ (A := T2) (n := L.length) (c := tc2) (Bi := w.heap.size) (ys := L) (by rfl) ?_ ?_ ?_ ?_; (· first | exact (OwnI.lit0 (by simp) (by simp)).drew | exact ((OwnI.lit0 (by simp) (by simp)).alloc _).drew); (· exact iat_ints (B := w.heap.size) (HI.out.keep (T := fun b => b < w.heap.size) (fun b hb' hl => ⟨(by have h7 := hbl.out; (first | exact (h7.alloc h7.size _).drew | exact ((h7.alloc h7.size _).alloc (by have := h7.size; simp; omega) _).drew) : Below w.heap.size w _).block b hl, hl⟩)) (fun b hb _ => hb)); (· first | (simp; done) | (simp; omega)); (· first | (simp; done) | (simp; omega)); intro A1 c1 w2 ho hg hbb; simp only [List.length_nil, Nat.zero_add, List.nil_append] at ho ⊢; have O1 := hid ho; have B1 := hid (hbb wr.heap.size wr (Nat.le_refl _) (by first | exact (al1 _ _).drew | exact (al2 _ _ _).drew)); have z1 : w2.cell? ⟨w.heap.size, 1, none⟩ = some (.int .i64 x) := (hb.out.below B1.out hb.out.lt).cell 1; have z2 : w2.cell? ⟨w.heap.size, 2, none⟩ = some (.int .i64 y) := (hb.out.below B1.out hb.out.lt).cell 2; first | have LX := hid ((Blk.new' (g := wr.heap.size + 1) (w := wr.alloc (.cells #[] 3)) (by simp) 3 #[.int .i64 x, .int .i64 y]).drew.grown hg (by simp [Value.ownBlock])) | have LX := hid (((Blk.new' (g := wr.heap.size) (w := wr) (by simp) 3 #[.int .i64 x, .int .i64 y]).alloc (.cells #[] 3)).drew.grown hg (by simp [Value.ownBlock])) | skip) | (refine step_appI (by rfl) _ _ (by rfl) wr.heap.size (v := .slice (some ⟨wr.heap.size + 1, 0, none⟩) 0 0) (xs := []) (by rfl) ?_ (A := T2) (n := L.length) (c := tc2) (Bi := w.heap.size) (ys := L) (by rfl) ?_ ?_ ?_ ?_; (· first | exact (OwnI.lit0 (by simp) (by simp)).drew | exact ((OwnI.lit0 (by simp) (by simp)).alloc _).drew); (· exact iat_ints (B := w.heap.size) (HI.out.keep (T := fun b => b < w.heap.size) (fun b hb' hl => ⟨(by have h7 := hbl.out; (first | exact (h7.alloc h7.size _).drew | exact ((h7.alloc h7.size _).alloc (by have := h7.size; simp; omega) _).drew) : Below w.heap.size w _).block b hl, hl⟩)) (fun b hb _ => hb)); (· first | (simp; done) | (simp; omega)); (· first | (simp; done) | (simp; omega)); intro A1 c1 w2 ho hg hbb; simp only [List.length_nil, Nat.zero_add, List.nil_append] at ho ⊢; have O1 := hid ho; have B1 := hid (hbb wr.heap.size wr (Nat.le_refl _) (by first | exact (al1 _ _).drew | exact (al2 _ _ _).drew)); have z1 : w2.cell? ⟨w.heap.size, 1, none⟩ = some (.int .i64 x) := (hb.out.below B1.out hb.out.lt).cell 1; have z2 : w2.cell? ⟨w.heap.size, 2, none⟩ = some (.int .i64 y) := (hb.out.below B1.out hb.out.lt).cell 2; first | have LX := hid ((Blk.new' (g := wr.heap.size + 1) (w := wr.alloc (.cells #[] 3)) (by simp) 3 #[.int .i64 x, .int .i64 y]).drew.grown hg (by simp [Value.ownBlock])) | have LX := hid (((Blk.new' (g := wr.heap.size) (w := wr) (by simp) 3 #[.int .i64 x, .int .i64 y]).alloc (.cells #[] 3)).drew.grown hg (by simp [Value.ownBlock])) | skip)) | (have _ := O1; first | (refine step_appI (by rfl) _ _ (by rfl) wr.heap.size (v := .slice A1 L.length c1) (xs := L) (by rfl) ?_ (A := some ⟨w2.heap.size, 0, none⟩) (n := 2) (c := 2) (Bi := w2.heap.size + 1) (ys := [x, y]) (by rfl) ?_ ?_ ?_ ?_; (· first | exact O1.out | exact O1.out.alloc _); (· (first | exact ints_lit2 LX.out WX.out WY.out | exact ints_lit2 (Blk.new' (by simp) _ _) WX.out WY.out)); (· omega); (· have h6 := B1.out.size; first | exact h6 | exact Nat.le_trans h6 (al1 _ _).size); intro A3 c3 w3 ho hg hbb; have O3 := hid ho; have B3 := hid (hbb wr.heap.size wr (Nat.le_refl _) (by have b1 := B1.out; first | exact b1 | exact b1.alloc b1.size _)); have z1 : w3.cell? ⟨w.heap.size, 1, none⟩ = some (.int .i64 x) := (hb.out.below B3.out hb.out.lt).cell 1; have z2 : w3.cell? ⟨w.heap.size, 2, none⟩ = some (.int .i64 y) := (hb.out.below B3.out hb.out.lt).cell 2) | (refine step_appI (by rfl) _ _ (by rfl) wr.heap.size (v := .slice A1 L.length c1) (xs := L) (by rfl) ?_ (A := some ⟨wr.heap.size + 1, 0, none⟩) (n := 2) (c := 2) (Bi := wr.heap.size + 1 + 1) (ys := [x, y]) (by rfl) ?_ ?_ ?_ ?_; (· first | exact O1.out | exact O1.out.alloc _); (· (first | exact ints_lit2 LX.out WX.out WY.out | exact ints_lit2 (Blk.new' (by simp) _ _) WX.out WY.out)); (· omega); (· have h6 := B1.out.size; first | exact h6 | exact Nat.le_trans h6 (al1 _ _).size); intro A3 c3 w3 ho hg hbb; have O3 := hid ho; have B3 := hid (hbb wr.heap.size wr (Nat.le_refl _) (by have b1 := B1.out; first | exact b1 | exact b1.alloc b1.size _)); have z1 : w3.cell? ⟨w.heap.size, 1, none⟩ = some (.int .i64 x) := (hb.out.below B3.out hb.out.lt).cell 1; have z2 : w3.cell? ⟨w.heap.size, 2, none⟩ = some (.int .i64 y) := (hb.out.below B3.out hb.out.lt).cell 2) | (refine step_appI (by rfl) _ _ (by rfl) wr.heap.size (v := .slice A1 L.length c1) (xs := L) (by rfl) ?_ (A := some ⟨wr.heap.size, 0, none⟩) (n := 2) (c := 2) (Bi := wr.heap.size + 1) (ys := [x, y]) (by rfl) ?_ ?_ ?_ ?_; (· first | exact O1.out | exact O1.out.alloc _); (· (first | exact ints_lit2 LX.out WX.out WY.out | exact ints_lit2 (Blk.new' (by simp) _ _) WX.out WY.out)); (· omega); (· have h6 := B1.out.size; first | exact h6 | exact Nat.le_trans h6 (al1 _ _).size); intro A3 c3 w3 ho hg hbb; have O3 := hid ho; have B3 := hid (hbb wr.heap.size wr (Nat.le_refl _) (by have b1 := B1.out; first | exact b1 | exact b1.alloc b1.size _)); have z1 : w3.cell? ⟨w.heap.size, 1, none⟩ = some (.int .i64 x) := (hb.out.below B3.out hb.out.lt).cell 1; have z2 : w3.cell? ⟨w.heap.size, 2, none⟩ = some (.int .i64 y) := (hb.out.below B3.out hb.out.lt).cell 2)))
      all_goals
        have x7 := (hb.out.below B3.out hb.out.lt).seven
        obtain ⟨v0, v1, v2, v3, v4, v5, v6⟩ := x7
        have y7 := at7_keep (B3.out.block _ (cell_lt y0)) rfl (And.intro y0 (And.intro y1 (And.intro y2' (And.intro y3 (And.intro y4 (And.intro y5 y6))))))
        obtain ⟨z0, z1, z2, z3, z4, z5, z6⟩ := y7
        go_wp2_with (go_at_call 39; go_must (refine (H.out.2.2 t Q.out.2.1 _ _ _ (L ++ [x, y]) A3 (L.length + 2) c3 _ (Q.out.1.up B3.out) (own_iat O3.out (by simp; omega)).2 (by simp) (by simp)).mono ?_); rintro e w5 ⟨⟨rb, rfl, hr⟩, b5⟩; have R5 := hid (And.intro hr (And.intro (below_hop b5 (below_hop B3.out hbl.out)) ((hb.out.below B3.out hb.out.lt).below b5 (hb.out.below B3.out hb.out.lt).lt))); clear hr b5)
        all_goals try (go_ret; exact no_of rfl R5.out.2.1)
      all_goals (
      have hgk := Hi.out
      have hlt9 := HLT.out
      go_roundg (gk - 1)
      case rel => exact ⟨i + 1, by omega, by go_num, hid (fun j hj hji => by
        by_cases e : j = i
        · subst e
          have h5 : ClosOk t (L ++ [x, y]) := R5.out.1 (by simpa using (by assumption : (!rb) = false))
          rw [Q.out.2.2] at h5
          have h6 : L ++ bindA 6 x y j = L ++ [x, y] := (by rw [HA.out])
          rw [h6]; exact h5
        · exact hall.out j hj (by omega)), hid R5.out.2.2, hid R5.out.2.1⟩
      case measure => omega)
    · have HE := hid (And.intro e0 e1)
      go_wp2_with (go_at_call 39; go_must (refine (H.out.2.2 t Q.out.2.1 _ _ S2 L T2 L.length tc2 _ Q.out.1 (HI.out.keep (fun b9 hb' hl => ⟨hbl.out.block b9 hl, hb'⟩)) rfl (by omega)).mono ?_); rintro e w5 ⟨⟨rb, rfl, hr⟩, b5⟩; have R5 := hid (And.intro hr (And.intro (below_hop b5 hbl.out) (hb.out.below b5 hb.out.lt))); clear hr b5)
      all_goals try (go_ret; exact no_of rfl R5.out.2.1)
      have HA : Hid (bindA 6 x y i = []) := hid ((by have h9 := HE.out; simp at h9; have h8 : ¬ i = 1 := (by omega); have h7 : ¬ i = 0 := (by omega); simp [bindA, h8, h7]))
      have hgk := Hi.out
      have hlt9 := HLT.out
      go_roundg (gk - 1)
      case rel => exact ⟨i + 1, by omega, by go_num, hid (fun j hj hji => by
        by_cases e : j = i
        · subst e
          have h5 : ClosOk t (L) := R5.out.1 (by simpa using (by assumption : (!rb) = false))
          rw [Q.out.2.2] at h5
          have h6 : L ++ bindA 6 x y j = L := (by rw [HA.out]; simp)
          rw [h6]; exact h5
        · exact hall.out j hj (by omega)), hid R5.out.2.2, hid R5.out.2.1⟩
      case measure => omega
theorem ref20_closed : ∀ (N : Nat) (t : Co), SizeOf.sizeOf t ≤ N → ∀ (v : Value) (S S2 : Nat → Prop) (L : List Int) (T : Option Addr) (n tc : Nat) (w : World), CAt w S t v → IAt w S2 L T tc → n = L.length → L.length + 2 * nodes t ≤ 900000 → Calls Try.prog 39 #[v, .slice T n tc] w (OnlyP (ClosOk t L) w) := by
  intro N
  induction N with
  | zero => intro t ht; cases t; simp at ht
  | succ N ih =>
  intro t ht v S S2 L T2 n tc2 w hv hI hn hb
  subst hn
  obtain ⟨k, x, y, m, b, ts, us⟩ := t
  obtain ⟨T, tc, A, c, rfl, _, hc, hrow, hwf⟩ := hv.parts
  have H : ClosH us L := fun t hm v S S2 L2 T n tc w hv hI hn hl => ih t (by have := co_lt (k := k) (x := x) (y := y) (n := m) (i := b) (ts := ts) hm; omega) v S S2 L2 T n tc w hv hI hn (by have := Ev.nodes_mem hm; rw [nodes] at hb; omega)
  have hL : L.length ≤ 900000 := by omega
  by_cases h1 : k = 1
  · subst h1; exact closed_k1 x y m b T A T2 tc tc2 ts us c L S S2 w hc.2.2.2 hL hwf hrow hI H
  by_cases h3 : k = 3
  · subst h3; exact closed_k3 x y m b T A T2 tc tc2 ts us c L S S2 w hc.2.2.2 hL hwf hrow hI H
  by_cases h5 : k = 5
  · subst h5; exact closed_k5 x y m b T A T2 tc tc2 ts us c L S S2 w hc.2.2.2 hL hwf hrow hI H
  by_cases h6 : k = 6
  · subst h6; exact closed_k6 x y m b T A T2 tc tc2 ts us c L S S2 w hc.2.2.2 hL hwf hrow hI H
  have e : ∀ {a b : Int}, a ≠ b → (a == b) = false := fun h => by simpa using h
  exact closed_k0 k x y m b T A T2 tc tc2 ts us c L S S2 w hc.2.2.2 hL hwf hrow hI H (e h1) (e h3) (e h5) (e h6)
theorem ref20_Closed (t : Co) (v : Value) (S : Nat → Prop) (w : World) (hv : CAt w S t v) (hb : 2 * nodes t ≤ 900000) : Calls Try.prog 28 #[v] w (OnlyP (closM t (fun _ => 0) = true) w) := by
  have hv0 := hv
  obtain ⟨k, x, y, m, i, T, tl, tc, A, l, c, rfl⟩ := hv.agg
  have HV := hid hv0
  clear hv hv0
  go_enter Try.func28, Try.ntmps28
  go_wp2_with (go_at_call 39; go_must (refine (ref20_closed _ t (Nat.le_refl _) _ S (fun _ => False) [] none 0 0 _ (HV.out.up (by first | exact Below.refl _ _ | exact al1 _ _)) ⟨⟨Nat.le_refl _, Nat.zero_le _, fun _ => ⟨rfl, rfl⟩, by simp⟩, fun j hj => by simp at hj⟩ rfl (by simp; omega)).mono ?_); rintro e w1 ⟨⟨b, rfl, hb9⟩, b1⟩; have R := hid (And.intro hb9 b1); clear hb9 b1)
  all_goals go_ret
  all_goals exact yes_of (fun h => R.out.1 h _ (fun _ => Int.le_refl _) (fun y hy => by simp at hy)) (by first | exact R.out.2 | exact below_hop R.out.2 (al1 _ _))
end Go.Proofs.Ytohdaclbgedeiaa
/-
  A ROW OF 65537 NUMBERS; WHAT SHAPES TELLS, IN PLAIN LEAN; THE WALK OF athanorlaw21.binders.
-/
namespace Go.Proofs.Ytohdaclbgedeiaa
set_option linter.all false
open Go.ChangeShapes Go.WideShapes Go.ChangeAt Go.RowKit
open Ev (Co nodes nodesL goodM goodML formB bindL addM updI)
mutual
/-- Well formed, each variable bound once; which were met. -/
def bindsM : Co → (Int → Int) → Option (Int → Int)
  | .mk k x y n i ts us, f => if formB k x y n i ts us.length = false then none else match addM (bindL k x y) f with
    | none => none
    | some g => bindsML us g
def bindsML : List Co → (Int → Int) → Option (Int → Int)
  | [], f => some f
  | c :: cs, f => match bindsM c f with
    | none => none
    | some g => bindsML cs g
end
mutual
theorem good_of_binds : ∀ {t : Co} {f g : Int → Int} {d : Nat} {D : Int}, bindsM t f = some g → lowM t d → (d : Int) + D = 1025 → goodM t D f = some g
  | .mk k x y n i ts us, f, g, d, D, h, hl, hd => by
    rw [bindsM] at h
    rw [lowM] at hl
    rw [goodM]
    by_cases hf : formB k x y n i ts us.length = false
    · rw [if_pos hf] at h; cases h
    rw [if_neg hf] at h
    rw [if_neg (by intro h9; rcases h9 with h9 | h9; omega; exact hf h9)]
    cases ha : addM (bindL k x y) f with
    | none => rw [ha] at h; cases h
    | some g2 => rw [ha] at h; exact goodL_of_binds h hl.2 (by omega)
theorem goodL_of_binds : ∀ {us : List Co} {f g : Int → Int} {d : Nat} {D : Int}, bindsML us f = some g → lowML us d → (d : Int) + D = 1025 → goodML us D f = some g
  | [], f, g, d, D, h, _, _ => by rw [bindsML] at h; rw [goodML]; exact h
  | c :: cs, f, g, d, D, h, hl, hd => by
    rw [bindsML] at h
    rw [lowML] at hl
    rw [goodML]
    cases hc : bindsM c f with
    | none => rw [hc] at h; cases h
    | some g2 =>
      rw [hc] at h
      rw [good_of_binds hc hl.1 hd]
      exact goodL_of_binds h hl.2 hd
end
/-- A row of 65537 numbers of one's own. -/
def BRow (w : World) (g : Nat) (f : Int → Int) : Prop := ∃ cs : Array Value, Blk w g 3 cs ∧ cs.size = 65537 ∧ ∀ i : Nat, i < 65537 → cs[i]? = some (.int .i64 (f i))
theorem BRow.cell {w : World} {g : Nat} {f : Int → Int} (h : BRow w g f) {i : Nat} (hi : i < 65537) : w.cell? ⟨g, i, none⟩ = some (.int .i64 (f i)) := by
  obtain ⟨cs, h1, _, h3⟩ := h
  rw [h1.cell]; exact h3 i hi
theorem BRow.frozen {w : World} {g : Nat} {f : Int → Int} (h : BRow w g f) (i : Nat) : w.frozen? ⟨g, i, none⟩ = false := by
  obtain ⟨cs, h1, _⟩ := h
  exact h1.frozen i
theorem BRow.lt {w : World} {g : Nat} {f : Int → Int} (h : BRow w g f) : g < w.heap.size := by
  obtain ⟨cs, h1, _⟩ := h
  exact h1.lt
theorem BRow.set_ {w : World} {g : Nat} {f : Int → Int} (h : BRow w g f) {i : Nat} (hi : i < 65537) (k : Int) : BRow (w.setCell ⟨g, i, none⟩ (.int .i64 k)) g (updI f i k) := by
  obtain ⟨cs, h1, h2, h3⟩ := h
  refine ⟨_, h1.set_ i _, by simpa using h2, fun j hj => ?_⟩
  rw [Array.getElem?_setIfInBounds]
  unfold updI
  by_cases e : i = j
  · subst e
    simp [h2, hi]
  · have e2 : ¬ ((j : Int) = (i : Int)) := by omega
    rw [if_neg e, if_neg e2]
    exact h3 j hj
theorem BRow.below {w w' : World} {g B : Nat} {f : Int → Int} (h : BRow w g f) (hb : Below B w w') (hg : g < B) : BRow w' g f := by
  obtain ⟨cs, h1, h2⟩ := h
  exact ⟨cs, h1.below hb hg, h2⟩
theorem BRow.up {w w' : World} {g : Nat} {f : Int → Int} (h : BRow w g f) (hb : Below w.heap.size w w') : BRow w' g f := h.below hb h.lt
/-- The addresses of a row's places. -/
theorem brow_add (g i : Nat) : (⟨g, 0, none⟩ : Addr).add i = ⟨g, i, none⟩ := cell_add
theorem set_grown (w : World) (g i : Nat) (u : Value) : w.grownBy (w.setCell ⟨g, i, none⟩ u) (some g) :=
  ⟨rfl, rfl, rfl, by simp [World.setCell], fun k hk hne => Below.heap_setCell w ⟨g, i, none⟩ u k (fun e => hne (by rw [e]))⟩
end Go.Proofs.Ytohdaclbgedeiaa
/-
  THE WALK OF athanorref20.shapes.
-/
namespace Go.Proofs.Ytohdaclbgedeiaa
set_option linter.all false
open Go.ChangeShapes Go.WideShapes Go.ChangeAt Go.RowKit
open Ev (Co nodes nodesL updI formB bindL addM)
mutual
theorem Z01.binds : ∀ {t : Co} {f g : Int → Int}, Z01 f → bindsM t f = some g → Z01 g
  | .mk k x y n i ts us, f, g, h, e => by
    rw [bindsM] at e
    by_cases h1 : formB k x y n i ts us.length = false
    · rw [if_pos h1] at e; cases e
    · rw [if_neg h1] at e
      cases h2 : addM (bindL k x y) f with
      | none => rw [h2] at e; cases e
      | some g2 => rw [h2] at e; exact Z01.bindsL (h.add h2) e
theorem Z01.bindsL : ∀ {us : List Co} {f g : Int → Int}, Z01 f → bindsML us f = some g → Z01 g
  | [], f, g, h, e => by rw [bindsML] at e; injection e with e; subst e; exact h
  | t :: us, f, g, h, e => by
    rw [bindsML] at e
    cases h2 : bindsM t f with
    | none => rw [h2] at e; cases e
    | some g2 => rw [h2] at e; exact Z01.bindsL (Z01.binds h h2) e
end
theorem IAt.up {w w' : World} {S : Nat → Prop} {ts : List Int} {A : Option Addr} {c : Nat} (h : IAt w S ts A c) (hb : Below w.heap.size w w') : IAt w' S ts A c := h.keep (fun k hk hl => ⟨hb.block k hl, hk⟩)
/-- It says yes only of what binds each number once; it writes the row alone. -/
def ShaQ (P : Option (Int → Int)) (g : Nat) (w : World) (e : Ending) (w' : World) : Prop := ∃ b : Bool, e = .returned (.bool b) ∧ (b = true → ∃ f', P = some f' ∧ BRow w' g f') ∧ w.grownBy w' (some g)
theorem sha_no {P : Option (Int → Int)} {g : Nat} {w w' : World} {b : Bool} (hb : b = false) (h : w.grownBy w' (some g)) : ShaQ P g w (.returned (.bool b)) w' := ⟨b, rfl, fun h2 => (by rw [hb] at h2; cases h2), h⟩
theorem sha_yes {P : Option (Int → Int)} {g : Nat} {w w' : World} {b : Bool} {f : Int → Int} (h1 : P = some f) (h2 : BRow w' g f) (h : w.grownBy w' (some g)) : ShaQ P g w (.returned (.bool b)) w' := ⟨b, rfl, fun _ => ⟨f, h1, h2⟩, h⟩
/-- The state within the loops. -/
structure ShSt (w : World) (g : Nat) (cs : Array Value) (f : Int → Int) (wr : World) : Prop where
  row : BRow wr g f
  z01 : Z01 f
  gr : w.grownBy wr (some g)
  bx : Blk wr w.heap.size 25 cs
theorem grow_low {w w' : World} (h : Below w.heap.size w w') (row : Option Nat) : w.grownBy w' row := ⟨h.os, h.tape, h.output, h.size, fun i hi _ => h.block i hi⟩
theorem ShSt.start {w w1 : World} {g : Nat} {f : Int → Int} {cs : Array Value} (h : BRow w g f) (hz : Z01 f) (hb : Below (w.alloc (.cells cs 25)).heap.size (w.alloc (.cells cs 25)) w1) : ShSt w g cs f w1 :=
  ⟨(h.up (al1 _ _)).up hb, hz, (World.grownBy_alloc _ _ _).trans (grow_low hb _), (Blk.new _ _ _).below hb (by simp)⟩
theorem ShSt.up {w wr w1 : World} {g : Nat} {f : Int → Int} {cs : Array Value} (h : ShSt w g cs f wr) (hb : Below wr.heap.size wr w1) : ShSt w g cs f w1 := ⟨h.row.up hb, h.z01, h.gr.trans (grow_low hb _), h.bx.below hb h.bx.lt⟩
theorem ShSt.set_ {w wr : World} {g i : Nat} {f : Int → Int} {cs : Array Value} (h : ShSt w g cs f wr) (hi : i < 65537) (hf : ¬ 0 < f i) (hne : w.heap.size ≠ g) : ShSt w g cs (updI f i (f i + 1)) (wr.setCell ⟨g, i, none⟩ (.int .i64 1)) := by
  have h0 : f i = 0 := by have := h.z01 i; omega
  refine ⟨by rw [h0]; exact h.row.set_ hi 1, fun x => ?_, h.gr.trans (set_grown _ _ _ _), h.bx.far (p := ⟨g, i, none⟩) hne _⟩
  unfold updI
  have := h.z01 x
  split
  · omega
  · exact this
theorem ShSt.call {w wr w1 : World} {g : Nat} {f f1 : Int → Int} {cs : Array Value} (h : ShSt w g cs f wr) (hg : wr.grownBy w1 (some g)) (hb : BRow w1 g f1) (hz : Z01 f1) (hne : w.heap.size ≠ g) : ShSt w g cs f1 w1 :=
  ⟨hb, hz, h.gr.trans hg, h.bx.grown hg (fun e => hne (by injection e))⟩
theorem add_one {x : Int} {f : Int → Int} (h1 : 1 ≤ x) (h2 : x ≤ 65536) (h3 : ¬ 0 < f x) : addM [x] f = some (updI f x (f x + 1)) := by
  rw [addM, if_neg (by omega), addM]
theorem binds_eq {k x y n : Int} {i : Bool} {ts : List Int} {us : List Co} {f g : Int → Int} (h : formB k x y n i ts us.length = true) (ha : addM (bindL k x y) f = some g) : bindsM (.mk k x y n i ts us) f = bindsML us g := by
  rw [bindsM, if_neg (by rw [h]; decide), ha]
def ShH (us : List Co) (g N : Nat) : Prop := ∀ t ∈ us, ∀ (v : Value) (S : Nat → Prop) (f : Int → Int) (w : World), CAt w S t v → (∀ b, S b → b ≠ g) → BRow w g f → Z01 f → Calls Try.prog 27 #[v, .slice (some ⟨g, 0, none⟩) N N] w (ShaQ (bindsM t f) g w)
set_option maxHeartbeats 8000000 in
set_option maxRecDepth 100000 in
theorem shapes_no (k x y m : Int) (b : Bool) (T A : Option Addr) (tc : Nat) (ts : List Int) (us : List Co) (c : Nat) (S : Nat → Prop) (g N : Nat) (P : Option (Int → Int)) (w : World) (hl : us.length ≤ 17592186044416) (hI : IAt w S ts T tc) (hno : ¬ ShapeIs k x y m b ts us.length) :
    Calls Try.prog 27 #[.agg #[.int .i64 k, .int .i64 x, .int .i64 y, .int .i64 m, .bool b, .slice T ts.length tc, .slice A us.length c], .slice (some ⟨g, 0, none⟩) N N] w (ShaQ P g w) := by
  have HI := hid hI
  have HL := hid hl
  have HN := hid hno
  clear hI hl hno
  go_enter Try.func27, Try.ntmps27
  go_wp2_with (go_at_call 38; (refine (ref20_shape _ x y m b T A tc ts us.length c S _ (HI.out.up (al1 _ _)) HL.out).mono ?_); rintro e w1 ⟨⟨r, rfl, hr⟩, b1⟩; obtain rfl : r = false := (by cases r; rfl; exact absurd (hr rfl) HN.out); have HG := hid b1; clear hr b1)
  go_ret
  exact sha_no rfl ((World.grownBy_alloc _ _ _).trans (grow_low HG.out _))
set_option maxHeartbeats 8000000 in
set_option maxRecDepth 100000 in
theorem shapes_rest (k x y m : Int) (b : Bool) (T A : Option Addr) (tc : Nat) (ts : List Int) (us : List Co) (c : Nat) (S : Nat → Prop) (g N : Nat) (P : Option (Int → Int)) (f : Int → Int) (w : World) (hl : us.length ≤ 17592186044416) (hI : IAt w S ts T tc) (hrow : CRow w S us A 0) (hS : ∀ b, S b → b ≠ g) (hB : BRow w g f) (hZ : Z01 f) (hN : N = 65537)
    (k3 : (k == 3) = false) (k5 : (k == 5) = false) (k6 : (k == 6) = false) (hP : P = bindsML us f) (ih : ShH us g N) :
    Calls Try.prog 27 #[.agg #[.int .i64 k, .int .i64 x, .int .i64 y, .int .i64 m, .bool b, .slice T ts.length tc, .slice A us.length c], .slice (some ⟨g, 0, none⟩) N N] w (ShaQ P g w) := by
  have HI := hid hI
  have HL := hid hl
  have HB := hid hB
  have HZ := hid hZ
  have HS := hid hS
  have HR := hid hrow
  have IH := hid ih
  have HP := hid hP
  have HN := hid hN
  have hgl := hB.lt
  have hgne : ¬ w.heap.size = g := by omega
  have hgne2 : ¬ g = w.heap.size := by omega
  have hL : us.length ≤ 281474976710656 := by omega
  clear hI hl hB hZ hS hrow ih hP hN
  go_enter Try.func27, Try.ntmps27
  go_wp2_with (go_at_call 38; (refine (ref20_shape _ x y m b T A tc ts us.length c S _ (HI.out.up (al1 _ _)) HL.out).mono ?_); rintro e w1 ⟨⟨r, rfl, hr⟩, b1⟩; have HA := hid (ShSt.start HB.out HZ.out b1); clear hr b1; obtain ⟨x0, x1, x2, x3, x4, x5, x6⟩ := HA.out.bx.seven; have hl0 := HA.out.bx.lt)
  all_goals first
    | (go_ret; exact sha_no rfl HA.out.gr)
    | skip
  obtain rfl : r = true := by simpa using (by assumption : (!r) = false)
  go_loopg [6] 0 (fun gg z wr => gg = 0 ∧ z = .int .i64 0 ∧ Hid (ShSt w g #[.int .i64 k, .int .i64 x, .int .i64 y, .int .i64 m, .bool b, .slice T ts.length tc, .slice A us.length c] f wr))
  case atStart => exact ⟨rfl, rfl, HA⟩
  case round =>
    obtain ⟨rfl, rfl, hs⟩ := hrel
    have hl0 := hs.out.bx.lt
    go_wp2
    go_loopg [7] us.length (fun gg z wr => ∃ (q : Nat) (fq : Int → Int), q + gg = us.length ∧ z = .int .i64 q ∧ Hid (ShSt w g #[.int .i64 k, .int .i64 x, .int .i64 y, .int .i64 m, .bool b, .slice T ts.length tc, .slice A us.length c] fq wr) ∧ Hid (P = bindsML (us.drop q) fq))
    case atStart => exact ⟨0, f, by omega, rfl, hs, hid HP.out⟩
    case round =>
      obtain ⟨q, fq, hq, rfl, hb, hp⟩ := hrel
      have Hq := hid hq
      have x6 : wr.cell? ⟨w.heap.size, 6, none⟩ = some (.slice A us.length c) := hb.out.bx.cell 6
      by_cases hlt : q < us.length
      · have hlt' : (q : Int) < us.length := by omega
        have hkeep : ∀ b, S b → b < w.heap.size → wr.heap[b]? = w.heap[b]? ∧ S b := fun b hb' hl => ⟨hb.out.gr.block b hl (fun e => HS.out b hb' (by injection e)), hb'⟩
        obtain ⟨ad, k2, x2, y2, n2, i2, T2, tl2, tc2, A2, m2', c2, rfl, hSb, hab, ⟨y0, y1, y2', y3, y4, y5, y6⟩, hel⟩ := (CRow.keep hkeep _ _ _ HR.out).elem hlt
        have hp2 := hp.out
        rw [List.drop_eq_getElem_cons hlt, bindsML] at hp2
        have Q := hid (And.intro hel (And.intro (List.getElem_mem hlt) hp2))
        clear hq hel hSb hab hkeep hp2
        generalize us[q] = t at Q
        go_wp2_with (go_at_call 27; go_must (refine (IH.out t Q.out.2.1 _ S fq _ Q.out.1 HS.out hb.out.row hb.out.z01).mono ?_); rintro e w9 ⟨r, rfl, hr, hg9⟩; go_must (have R := hid (And.intro hr hg9); clear hr hg9))
        all_goals first
          | (go_ret; exact sha_no rfl (hb.out.gr.trans R.out.2))
          | skip
        have hgk := Hq.out
        obtain rfl : r = true := by simpa using (by assumption : (!r) = false)
        obtain ⟨f9, hf9, hB9⟩ := R.out.1 (by first | rfl | assumption)
        go_roundg (gk - 1)
        case rel => exact ⟨q + 1, f9, by omega, by go_num, hid (hb.out.call R.out.2 hB9 (hb.out.z01.binds hf9) hgne), hid (by have := Q.out.2.2; rw [hf9] at this; exact this)⟩
        case measure => omega
      · obtain rfl : q = us.length := by omega
        clear hq
        go_wp2
        go_ret
        exact sha_yes (by have := hp.out; rw [List.drop_length, bindsML] at this; exact this) hb.out.row hb.out.gr

set_option maxHeartbeats 8000000 in
set_option maxRecDepth 100000 in
theorem shapes_one3 (x y m : Int) (i : Nat) (b : Bool) (T A : Option Addr) (tc : Nat) (ts : List Int) (us : List Co) (c : Nat) (S : Nat → Prop) (g N : Nat) (P : Option (Int → Int)) (f : Int → Int) (w : World) (hx : x = (i : Int)) (hi1 : 0 < i) (hi2 : i < 65537) (hl : us.length ≤ 17592186044416) (hI : IAt w S ts T tc) (hrow : CRow w S us A 0) (hS : ∀ b, S b → b ≠ g) (hB : BRow w g f) (hZ : Z01 f) (hN : N = 65537)
    (hP : ¬ 0 < f i → P = bindsML us (updI f i (f i + 1))) (ih : ShH us g N) :
    Calls Try.prog 27 #[.agg #[.int .i64 3, .int .i64 x, .int .i64 y, .int .i64 m, .bool b, .slice T ts.length tc, .slice A us.length c], .slice (some ⟨g, 0, none⟩) N N] w (ShaQ P g w) := by
  subst hx
  have HI := hid hI
  have HL := hid hl
  have HB := hid hB
  have HZ := hid hZ
  have HS := hid hS
  have HR := hid hrow
  have IH := hid ih
  have HP := hid hP
  have HN := hid hN
  have hgl := hB.lt
  have hgne : ¬ w.heap.size = g := by omega
  have hgne2 : ¬ g = w.heap.size := by omega
  have hL : us.length ≤ 281474976710656 := by omega
  clear hI hl hB hZ hS hrow ih hP hN
  have i1 : (0 : Int) ≤ (i : Int) := by omega
  have i2 : (i : Int) < N := by have := HN.out; omega
  have i4 : i < N := by have := HN.out; omega
  have HI2 := hid hi2
  clear hi2
  go_enter Try.func27, Try.ntmps27
  go_wp2_with (go_at_call 38; (refine (ref20_shape _ i y m b T A tc ts us.length c S _ (HI.out.up (al1 _ _)) HL.out).mono ?_); rintro e w1 ⟨⟨r, rfl, hr⟩, b1⟩; have HA := hid (ShSt.start HB.out HZ.out b1); clear hr b1; obtain ⟨x0, x1, x2, x3, x4, x5, x6⟩ := HA.out.bx.seven; have hl0 := HA.out.bx.lt)
  all_goals first
    | (go_ret; exact sha_no rfl HA.out.gr)
    | skip
  obtain rfl : r = true := by simpa using (by assumption : (!r) = false)
  go_loopg [6] 1 (fun gg z wr => (gg = 1 ∧ z = .int .i64 0 ∧ Hid (ShSt w g #[.int .i64 3, .int .i64 i, .int .i64 y, .int .i64 m, .bool b, .slice T ts.length tc, .slice A us.length c] f wr ∧ Blk wr w1.heap.size 3 #[.int .i64 i])) ∨ (gg = 0 ∧ z = .int .i64 1 ∧ Hid (ShSt w g #[.int .i64 3, .int .i64 i, .int .i64 y, .int .i64 m, .bool b, .slice T ts.length tc, .slice A us.length c] (updI f i (f i + 1)) wr ∧ ¬ 0 < f i)))
  case atStart => exact .inl ⟨rfl, rfl, hid ⟨HA.out.up (al1 _ _), Blk.new _ _ _⟩⟩
  case round =>
    rcases hrel with ⟨rfl, rfl, hs⟩ | ⟨rfl, rfl, hs⟩
    · have l0 : wr.cell? ⟨w1.heap.size, 0, none⟩ = some (.int .i64 i) := hs.out.2.cell 0
      have c1 : wr.cell? ⟨g, i, none⟩ = some (.int .i64 (f i)) := hs.out.1.row.cell HI2.out
      have f1 : wr.frozen? ⟨g, i, none⟩ = false := hs.out.1.row.frozen i
      have g1 := hs.out.1.row.lt
      obtain ⟨u, hu⟩ : ∃ u, f i = u := ⟨_, rfl⟩
      rw [hu] at c1
      have HU := hid hu
      clear hu
      by_cases hz : 0 < u
      · go_wp2
        go_ret
        exact sha_no rfl hs.out.1.gr
      · have HZ9 := hid (show ¬ 0 < f i by rw [HU.out]; exact hz)
        go_wp2
        go_roundg 0
        case rel => exact .inr ⟨rfl, by go_num, hid ⟨hs.out.1.set_ HI2.out (by have := HZ9.out; omega) hgne, (by have := HZ9.out; omega)⟩⟩
        case measure => omega
    · have hl0 := hs.out.1.bx.lt
      have hz := hs.out.2
      have HP2 := hid (HP.out (by omega))
      clear hz
      go_wp2
      go_loopg [7] us.length (fun gg z wr => ∃ (q : Nat) (fq : Int → Int), q + gg = us.length ∧ z = .int .i64 q ∧ Hid (ShSt w g #[.int .i64 3, .int .i64 i, .int .i64 y, .int .i64 m, .bool b, .slice T ts.length tc, .slice A us.length c] fq wr) ∧ Hid (P = bindsML (us.drop q) fq))
      case atStart => exact ⟨0, _, by omega, rfl, hid hs.out.1, hid HP2.out⟩
      case round =>
        obtain ⟨q, fq, hq, rfl, hb, hp⟩ := hrel
        have Hq := hid hq
        have x6 : wr.cell? ⟨w.heap.size, 6, none⟩ = some (.slice A us.length c) := hb.out.bx.cell 6
        by_cases hlt : q < us.length
        · have hlt' : (q : Int) < us.length := by omega
          have hkeep : ∀ b, S b → b < w.heap.size → wr.heap[b]? = w.heap[b]? ∧ S b := fun b hb' hl => ⟨hb.out.gr.block b hl (fun e => HS.out b hb' (by injection e)), hb'⟩
          obtain ⟨ad, k2, x2, y2, n2, i2, T2, tl2, tc2, A2, m2', c2, rfl, hSb, hab, ⟨y0, y1, y2', y3, y4, y5, y6⟩, hel⟩ := (CRow.keep hkeep _ _ _ HR.out).elem hlt
          have hp2 := hp.out
          rw [List.drop_eq_getElem_cons hlt, bindsML] at hp2
          have Q := hid (And.intro hel (And.intro (List.getElem_mem hlt) hp2))
          clear hq hel hSb hab hkeep hp2
          generalize us[q] = t at Q
          go_wp2_with (go_at_call 27; go_must (refine (IH.out t Q.out.2.1 _ S fq _ Q.out.1 HS.out hb.out.row hb.out.z01).mono ?_); rintro e w9 ⟨r, rfl, hr, hg9⟩; go_must (have R := hid (And.intro hr hg9); clear hr hg9))
          all_goals first
            | (go_ret; exact sha_no rfl (hb.out.gr.trans R.out.2))
            | skip
          have hgk := Hq.out
          obtain rfl : r = true := by simpa using (by assumption : (!r) = false)
          obtain ⟨f9, hf9, hB9⟩ := R.out.1 (by first | rfl | assumption)
          go_roundg (gk - 1)
          case rel => exact ⟨q + 1, f9, by omega, by go_num, hid (hb.out.call R.out.2 hB9 (hb.out.z01.binds hf9) hgne), hid (by have := Q.out.2.2; rw [hf9] at this; exact this)⟩
          case measure => omega
        · obtain rfl : q = us.length := by omega
          clear hq
          go_wp2
          go_ret
          exact sha_yes (by have := hp.out; rw [List.drop_length, bindsML] at this; exact this) hb.out.row hb.out.gr

set_option maxHeartbeats 8000000 in
set_option maxRecDepth 100000 in
theorem shapes_one5 (x y m : Int) (i : Nat) (b : Bool) (T A : Option Addr) (tc : Nat) (ts : List Int) (us : List Co) (c : Nat) (S : Nat → Prop) (g N : Nat) (P : Option (Int → Int)) (f : Int → Int) (w : World) (hx : x = (i : Int)) (hi1 : 0 < i) (hi2 : i < 65537) (hl : us.length ≤ 17592186044416) (hI : IAt w S ts T tc) (hrow : CRow w S us A 0) (hS : ∀ b, S b → b ≠ g) (hB : BRow w g f) (hZ : Z01 f) (hN : N = 65537)
    (hP : ¬ 0 < f i → P = bindsML us (updI f i (f i + 1))) (ih : ShH us g N) :
    Calls Try.prog 27 #[.agg #[.int .i64 5, .int .i64 x, .int .i64 y, .int .i64 m, .bool b, .slice T ts.length tc, .slice A us.length c], .slice (some ⟨g, 0, none⟩) N N] w (ShaQ P g w) := by
  subst hx
  have HI := hid hI
  have HL := hid hl
  have HB := hid hB
  have HZ := hid hZ
  have HS := hid hS
  have HR := hid hrow
  have IH := hid ih
  have HP := hid hP
  have HN := hid hN
  have hgl := hB.lt
  have hgne : ¬ w.heap.size = g := by omega
  have hgne2 : ¬ g = w.heap.size := by omega
  have hL : us.length ≤ 281474976710656 := by omega
  clear hI hl hB hZ hS hrow ih hP hN
  have i1 : (0 : Int) ≤ (i : Int) := by omega
  have i2 : (i : Int) < N := by have := HN.out; omega
  have i4 : i < N := by have := HN.out; omega
  have HI2 := hid hi2
  clear hi2
  go_enter Try.func27, Try.ntmps27
  go_wp2_with (go_at_call 38; (refine (ref20_shape _ i y m b T A tc ts us.length c S _ (HI.out.up (al1 _ _)) HL.out).mono ?_); rintro e w1 ⟨⟨r, rfl, hr⟩, b1⟩; have HA := hid (ShSt.start HB.out HZ.out b1); clear hr b1; obtain ⟨x0, x1, x2, x3, x4, x5, x6⟩ := HA.out.bx.seven; have hl0 := HA.out.bx.lt)
  all_goals first
    | (go_ret; exact sha_no rfl HA.out.gr)
    | skip
  obtain rfl : r = true := by simpa using (by assumption : (!r) = false)
  go_loopg [6] 1 (fun gg z wr => (gg = 1 ∧ z = .int .i64 0 ∧ Hid (ShSt w g #[.int .i64 5, .int .i64 i, .int .i64 y, .int .i64 m, .bool b, .slice T ts.length tc, .slice A us.length c] f wr ∧ Blk wr w1.heap.size 3 #[.int .i64 i])) ∨ (gg = 0 ∧ z = .int .i64 1 ∧ Hid (ShSt w g #[.int .i64 5, .int .i64 i, .int .i64 y, .int .i64 m, .bool b, .slice T ts.length tc, .slice A us.length c] (updI f i (f i + 1)) wr ∧ ¬ 0 < f i)))
  case atStart => exact .inl ⟨rfl, rfl, hid ⟨HA.out.up (al1 _ _), Blk.new _ _ _⟩⟩
  case round =>
    rcases hrel with ⟨rfl, rfl, hs⟩ | ⟨rfl, rfl, hs⟩
    · have l0 : wr.cell? ⟨w1.heap.size, 0, none⟩ = some (.int .i64 i) := hs.out.2.cell 0
      have c1 : wr.cell? ⟨g, i, none⟩ = some (.int .i64 (f i)) := hs.out.1.row.cell HI2.out
      have f1 : wr.frozen? ⟨g, i, none⟩ = false := hs.out.1.row.frozen i
      have g1 := hs.out.1.row.lt
      obtain ⟨u, hu⟩ : ∃ u, f i = u := ⟨_, rfl⟩
      rw [hu] at c1
      have HU := hid hu
      clear hu
      by_cases hz : 0 < u
      · go_wp2
        go_ret
        exact sha_no rfl hs.out.1.gr
      · have HZ9 := hid (show ¬ 0 < f i by rw [HU.out]; exact hz)
        go_wp2
        go_roundg 0
        case rel => exact .inr ⟨rfl, by go_num, hid ⟨hs.out.1.set_ HI2.out (by have := HZ9.out; omega) hgne, (by have := HZ9.out; omega)⟩⟩
        case measure => omega
    · have hl0 := hs.out.1.bx.lt
      have hz := hs.out.2
      have HP2 := hid (HP.out (by omega))
      clear hz
      go_wp2
      go_loopg [7] us.length (fun gg z wr => ∃ (q : Nat) (fq : Int → Int), q + gg = us.length ∧ z = .int .i64 q ∧ Hid (ShSt w g #[.int .i64 5, .int .i64 i, .int .i64 y, .int .i64 m, .bool b, .slice T ts.length tc, .slice A us.length c] fq wr) ∧ Hid (P = bindsML (us.drop q) fq))
      case atStart => exact ⟨0, _, by omega, rfl, hid hs.out.1, hid HP2.out⟩
      case round =>
        obtain ⟨q, fq, hq, rfl, hb, hp⟩ := hrel
        have Hq := hid hq
        have x6 : wr.cell? ⟨w.heap.size, 6, none⟩ = some (.slice A us.length c) := hb.out.bx.cell 6
        by_cases hlt : q < us.length
        · have hlt' : (q : Int) < us.length := by omega
          have hkeep : ∀ b, S b → b < w.heap.size → wr.heap[b]? = w.heap[b]? ∧ S b := fun b hb' hl => ⟨hb.out.gr.block b hl (fun e => HS.out b hb' (by injection e)), hb'⟩
          obtain ⟨ad, k2, x2, y2, n2, i2, T2, tl2, tc2, A2, m2', c2, rfl, hSb, hab, ⟨y0, y1, y2', y3, y4, y5, y6⟩, hel⟩ := (CRow.keep hkeep _ _ _ HR.out).elem hlt
          have hp2 := hp.out
          rw [List.drop_eq_getElem_cons hlt, bindsML] at hp2
          have Q := hid (And.intro hel (And.intro (List.getElem_mem hlt) hp2))
          clear hq hel hSb hab hkeep hp2
          generalize us[q] = t at Q
          go_wp2_with (go_at_call 27; go_must (refine (IH.out t Q.out.2.1 _ S fq _ Q.out.1 HS.out hb.out.row hb.out.z01).mono ?_); rintro e w9 ⟨r, rfl, hr, hg9⟩; go_must (have R := hid (And.intro hr hg9); clear hr hg9))
          all_goals first
            | (go_ret; exact sha_no rfl (hb.out.gr.trans R.out.2))
            | skip
          have hgk := Hq.out
          obtain rfl : r = true := by simpa using (by assumption : (!r) = false)
          obtain ⟨f9, hf9, hB9⟩ := R.out.1 (by first | rfl | assumption)
          go_roundg (gk - 1)
          case rel => exact ⟨q + 1, f9, by omega, by go_num, hid (hb.out.call R.out.2 hB9 (hb.out.z01.binds hf9) hgne), hid (by have := Q.out.2.2; rw [hf9] at this; exact this)⟩
          case measure => omega
        · obtain rfl : q = us.length := by omega
          clear hq
          go_wp2
          go_ret
          exact sha_yes (by have := hp.out; rw [List.drop_length, bindsML] at this; exact this) hb.out.row hb.out.gr

set_option maxHeartbeats 8000000 in
set_option maxRecDepth 100000 in
theorem shapes_two (x y m : Int) (i j : Nat) (b : Bool) (T A : Option Addr) (tc : Nat) (ts : List Int) (us : List Co) (c : Nat) (S : Nat → Prop) (g N : Nat) (P : Option (Int → Int)) (f : Int → Int) (w : World) (hx : x = (i : Int)) (hy : y = (j : Int)) (hi1 : 0 < i) (hi2 : i < 65537) (hj1 : 0 < j) (hj2 : j < 65537) (hl : us.length ≤ 17592186044416) (hI : IAt w S ts T tc) (hrow : CRow w S us A 0) (hS : ∀ b, S b → b ≠ g) (hB : BRow w g f) (hZ : Z01 f) (hN : N = 65537)
    (hP : ¬ 0 < f i → ¬ 0 < (updI f i (f i + 1)) j → P = bindsML us (updI (updI f i (f i + 1)) j ((updI f i (f i + 1)) j + 1))) (ih : ShH us g N) :
    Calls Try.prog 27 #[.agg #[.int .i64 6, .int .i64 x, .int .i64 y, .int .i64 m, .bool b, .slice T ts.length tc, .slice A us.length c], .slice (some ⟨g, 0, none⟩) N N] w (ShaQ P g w) := by
  subst hx hy
  have HI := hid hI
  have HL := hid hl
  have HB := hid hB
  have HZ := hid hZ
  have HS := hid hS
  have HR := hid hrow
  have IH := hid ih
  have HP := hid hP
  have HN := hid hN
  have hgl := hB.lt
  have hgne : ¬ w.heap.size = g := by omega
  have hgne2 : ¬ g = w.heap.size := by omega
  have hL : us.length ≤ 281474976710656 := by omega
  clear hI hl hB hZ hS hrow ih hP hN
  have i1 : (0 : Int) ≤ (i : Int) := by omega
  have i2 : (i : Int) < N := by have := HN.out; omega
  have i4 : i < N := by have := HN.out; omega
  have j1 : (0 : Int) ≤ (j : Int) := by omega
  have j2 : (j : Int) < N := by have := HN.out; omega
  have j4 : j < N := by have := HN.out; omega
  have HI2 := hid hi2
  have HJ2 := hid hj2
  clear hi2 hj2
  go_enter Try.func27, Try.ntmps27
  go_wp2_with (go_at_call 38; (refine (ref20_shape _ i j m b T A tc ts us.length c S _ (HI.out.up (al1 _ _)) HL.out).mono ?_); rintro e w1 ⟨⟨r, rfl, hr⟩, b1⟩; have HA := hid (ShSt.start HB.out HZ.out b1); clear hr b1; obtain ⟨x0, x1, x2, x3, x4, x5, x6⟩ := HA.out.bx.seven; have hl0 := HA.out.bx.lt)
  all_goals first
    | (go_ret; exact sha_no rfl HA.out.gr)
    | skip
  obtain rfl : r = true := by simpa using (by assumption : (!r) = false)
  go_loopg [6] 2 (fun gg z wr => (gg = 2 ∧ z = .int .i64 0 ∧ Hid (ShSt w g #[.int .i64 6, .int .i64 i, .int .i64 j, .int .i64 m, .bool b, .slice T ts.length tc, .slice A us.length c] f wr ∧ Blk wr (w1.heap.size + 1) 3 #[.int .i64 i, .int .i64 j])) ∨ (gg = 1 ∧ z = .int .i64 1 ∧ Hid (ShSt w g #[.int .i64 6, .int .i64 i, .int .i64 j, .int .i64 m, .bool b, .slice T ts.length tc, .slice A us.length c] (updI f i (f i + 1)) wr ∧ Blk wr (w1.heap.size + 1) 3 #[.int .i64 i, .int .i64 j] ∧ ¬ 0 < f i)) ∨ (gg = 0 ∧ z = .int .i64 2 ∧ Hid (ShSt w g #[.int .i64 6, .int .i64 i, .int .i64 j, .int .i64 m, .bool b, .slice T ts.length tc, .slice A us.length c] (updI (updI f i (f i + 1)) j ((updI f i (f i + 1)) j + 1)) wr ∧ ¬ 0 < f i ∧ ¬ 0 < (updI f i (f i + 1)) j)))
  case atStart => exact .inl ⟨rfl, rfl, hid ⟨(HA.out.up (al1 _ _)).up (al1 _ _), Blk.new' (by simp) _ _⟩⟩
  case round =>
    rcases hrel with ⟨rfl, rfl, hs⟩ | ⟨rfl, rfl, hs⟩ | ⟨rfl, rfl, hs⟩
    · have l0 : wr.cell? ⟨w1.heap.size + 1, 0, none⟩ = some (.int .i64 i) := hs.out.2.cell 0
      have c1 : wr.cell? ⟨g, i, none⟩ = some (.int .i64 (f i)) := hs.out.1.row.cell HI2.out
      have f1 : wr.frozen? ⟨g, i, none⟩ = false := hs.out.1.row.frozen i
      have g1 := hs.out.1.row.lt
      obtain ⟨u, hu⟩ : ∃ u, f i = u := ⟨_, rfl⟩
      rw [hu] at c1
      have HU := hid hu
      clear hu
      by_cases hz : 0 < u
      · go_wp2
        go_ret
        exact sha_no rfl hs.out.1.gr
      · have HZ9 := hid (show ¬ 0 < f i by rw [HU.out]; exact hz)
        have hw1 := HA.out.row.lt
        go_wp2
        go_roundg 1
        case rel => exact .inr (.inl ⟨rfl, by go_num, hid ⟨hs.out.1.set_ HI2.out (by have := HZ9.out; omega) hgne, hs.out.2.far (p := ⟨g, i, none⟩) (by dsimp only; omega) _, (by have := HZ9.out; omega)⟩⟩)
        case measure => omega
    · have l0 : wr.cell? ⟨w1.heap.size + 1, 1, none⟩ = some (.int .i64 j) := hs.out.2.1.cell 1
      have c1 : wr.cell? ⟨g, j, none⟩ = some (.int .i64 ((updI f i (f i + 1)) j)) := hs.out.1.row.cell HJ2.out
      have f1 : wr.frozen? ⟨g, j, none⟩ = false := hs.out.1.row.frozen j
      have g1 := hs.out.1.row.lt
      obtain ⟨u, hu⟩ : ∃ u, (updI f i (f i + 1)) j = u := ⟨_, rfl⟩
      rw [hu] at c1
      have HU := hid hu
      clear hu
      by_cases hz : 0 < u
      · go_wp2
        go_ret
        exact sha_no rfl hs.out.1.gr
      · have HZ9 := hid (show ¬ 0 < (updI f i (f i + 1)) j by rw [HU.out]; exact hz)
        go_wp2
        go_roundg 0
        case rel => exact .inr (.inr ⟨rfl, by go_num, hid ⟨hs.out.1.set_ HJ2.out (by have := HZ9.out; omega) hgne, hs.out.2.2, (by have := HZ9.out; omega)⟩⟩)
        case measure => omega
    · have hl0 := hs.out.1.bx.lt
      have HP2 := hid (HP.out (by have := hs.out.2.1; omega) (by have := hs.out.2.2; omega))
      go_wp2
      go_loopg [7] us.length (fun gg z wr => ∃ (q : Nat) (fq : Int → Int), q + gg = us.length ∧ z = .int .i64 q ∧ Hid (ShSt w g #[.int .i64 6, .int .i64 i, .int .i64 j, .int .i64 m, .bool b, .slice T ts.length tc, .slice A us.length c] fq wr) ∧ Hid (P = bindsML (us.drop q) fq))
      case atStart => exact ⟨0, _, by omega, rfl, hid hs.out.1, hid HP2.out⟩
      case round =>
        obtain ⟨q, fq, hq, rfl, hb, hp⟩ := hrel
        have Hq := hid hq
        have x6 : wr.cell? ⟨w.heap.size, 6, none⟩ = some (.slice A us.length c) := hb.out.bx.cell 6
        by_cases hlt : q < us.length
        · have hlt' : (q : Int) < us.length := by omega
          have hkeep : ∀ b, S b → b < w.heap.size → wr.heap[b]? = w.heap[b]? ∧ S b := fun b hb' hl => ⟨hb.out.gr.block b hl (fun e => HS.out b hb' (by injection e)), hb'⟩
          obtain ⟨ad, k2, x2, y2, n2, i2, T2, tl2, tc2, A2, m2', c2, rfl, hSb, hab, ⟨y0, y1, y2', y3, y4, y5, y6⟩, hel⟩ := (CRow.keep hkeep _ _ _ HR.out).elem hlt
          have hp2 := hp.out
          rw [List.drop_eq_getElem_cons hlt, bindsML] at hp2
          have Q := hid (And.intro hel (And.intro (List.getElem_mem hlt) hp2))
          clear hq hel hSb hab hkeep hp2
          generalize us[q] = t at Q
          go_wp2_with (go_at_call 27; go_must (refine (IH.out t Q.out.2.1 _ S fq _ Q.out.1 HS.out hb.out.row hb.out.z01).mono ?_); rintro e w9 ⟨r, rfl, hr, hg9⟩; go_must (have R := hid (And.intro hr hg9); clear hr hg9))
          all_goals first
            | (go_ret; exact sha_no rfl (hb.out.gr.trans R.out.2))
            | skip
          have hgk := Hq.out
          obtain rfl : r = true := by simpa using (by assumption : (!r) = false)
          obtain ⟨f9, hf9, hB9⟩ := R.out.1 (by first | rfl | assumption)
          go_roundg (gk - 1)
          case rel => exact ⟨q + 1, f9, by omega, by go_num, hid (hb.out.call R.out.2 hB9 (hb.out.z01.binds hf9) hgne), hid (by have := Q.out.2.2; rw [hf9] at this; exact this)⟩
          case measure => omega
        · obtain rfl : q = us.length := by omega
          clear hq
          go_wp2
          go_ret
          exact sha_yes (by have := hp.out; rw [List.drop_length, bindsML] at this; exact this) hb.out.row hb.out.gr
theorem add_two {x y : Int} {f : Int → Int} (h1 : 1 ≤ x) (h2 : x ≤ 65536) (h3 : 1 ≤ y) (h4 : y ≤ 65536) (h5 : ¬ 0 < f x) (h6 : ¬ 0 < (updI f x (f x + 1)) y) : addM [x, y] f = some (updI (updI f x (f x + 1)) y ((updI f x (f x + 1)) y + 1)) := by
  rw [addM, if_neg (by omega), addM, if_neg (by omega), addM]
theorem nat_of {x : Int} (h1 : 1 ≤ x) (h2 : x ≤ 65536) : ∃ i : Nat, x = (i : Int) ∧ 0 < i ∧ i < 65537 := ⟨x.toNat, by omega, by omega, by omega⟩
theorem ref20_shapes : ∀ (n : Nat) (t : Co), SizeOf.sizeOf t ≤ n → ∀ (v : Value) (S : Nat → Prop) (g N : Nat) (f : Int → Int) (w : World), N = 65537 → CAt w S t v → (∀ b, S b → b ≠ g) → BRow w g f → Z01 f → Calls Try.prog 27 #[v, .slice (some ⟨g, 0, none⟩) N N] w (ShaQ (bindsM t f) g w) := by
  intro n
  induction n with
  | zero => intro t ht; cases t; simp at ht
  | succ n ih =>
  intro t ht v S g N f w hN hv hS hB hZ
  obtain ⟨k, x, y, m, b, ts, us⟩ := t
  obtain ⟨T, tc, A, c, rfl, hI, hc, hrow, _⟩ := hv.parts
  have IH : ShH us g N := fun t hm v S f w hv hS hB hZ => ih t (by have := co_lt (k := k) (x := x) (y := y) (n := m) (i := b) (ts := ts) hm; omega) v S g N f w hN hv hS hB hZ
  by_cases hno : ShapeIs k x y m b ts us.length
  case neg => exact shapes_no k x y m b T A tc ts us c S g N _ w hc.2.2.2 hI hno
  obtain ⟨hF, hL⟩ := hno
  by_cases k3 : k = 3
  · subst k3
    have hx := hL x (by simp [bindL])
    obtain ⟨i, rfl, h1, h2⟩ := nat_of hx.1 hx.2
    exact shapes_one3 _ y m i b T A tc ts us c S g N _ f w rfl h1 h2 hc.2.2.2 hI hrow hS hB hZ hN (fun h => binds_eq hF (add_one hx.1 hx.2 h)) IH
  by_cases k5 : k = 5
  · subst k5
    have hx := hL x (by simp [bindL])
    obtain ⟨i, rfl, h1, h2⟩ := nat_of hx.1 hx.2
    exact shapes_one5 _ y m i b T A tc ts us c S g N _ f w rfl h1 h2 hc.2.2.2 hI hrow hS hB hZ hN (fun h => binds_eq hF (add_one hx.1 hx.2 h)) IH
  by_cases k6 : k = 6
  · subst k6
    have hx := hL x (by simp [bindL])
    have hy := hL y (by simp [bindL])
    obtain ⟨i, rfl, h1, h2⟩ := nat_of hx.1 hx.2
    obtain ⟨j, rfl, h3, h4⟩ := nat_of hy.1 hy.2
    exact shapes_two _ _ m i j b T A tc ts us c S g N _ f w rfl rfl h1 h2 h3 h4 hc.2.2.2 hI hrow hS hB hZ hN (fun h h' => binds_eq hF (add_two hx.1 hx.2 hy.1 hy.2 h h')) IH
  exact shapes_rest k x y m b T A tc ts us c S g N _ f w hc.2.2.2 hI hrow hS hB hZ hN (by simpa using k3) (by simpa using k5) (by simpa using k6) (binds_eq hF (by simp [bindL, k3, k5, k6, addM])) IH
end Go.Proofs.Ytohdaclbgedeiaa
/-
  THE WALK OF athanorref20.Good: it says yes only of what may be a core expression.
-/
namespace Go.Proofs.Ytohdaclbgedeiaa
set_option linter.all false
open Go.ChangeShapes Go.WideShapes Go.ChangeAt Go.RowKit
open Ev (Co nodes nodesL goodB goodM closM)
/-- make([]int, 65537), its length a letter. -/
theorem mk_big : ∃ (N : Nat) (M : Array Value), N = 65537 ∧ M = madeCells #[.int .i64 0] N ∧ ∀ w : World, (Instr.makeSlice 22 (.int .i64 65537) (.int .i64 65537)).run Try.prog w = .ok (.slice (some ⟨w.heap.size, 0, none⟩) N N) (w.alloc (.cells M 3)) := by
  obtain ⟨N, hN⟩ : ∃ N : Nat, N = 65537 := ⟨_, rfl⟩
  refine ⟨N, _, hN, rfl, fun w => ?_⟩
  have h := run_make_row' 22 3 (.int .i64 0) 8 Try.underlying22 info_int rfl .i64 .i64 N (by omega) (by omega) w
  rw [show ((65537 : Int)) = ((N : Nat) : Int) by omega]
  exact h
theorem brow_made {w : World} {N : Nat} {M : Array Value} (hN : N = 65537) (hM : M = madeCells #[.int .i64 0] N) : BRow (w.alloc (.cells M 3)) w.heap.size (fun _ => 0) := by
  subst hM
  refine ⟨_, Blk.new _ _ _, by rw [size_madeCells]; simpa using hN, fun i hi => ?_⟩
  simp [madeCells, hN, hi, Nat.mod_one]
theorem z01_none : Z01 (fun _ => 0) := fun _ => ⟨Int.le_refl 0, Int.zero_le_ofNat 1⟩
/-- The handed-in expression's box. -/
structure GK (w : World) (core : Array Value) (wk : World) : Prop where
  bx : Blk wk w.heap.size 25 core
  bl : Below w.heap.size w wk
theorem GK.up {w wk wx : World} {core : Array Value} (h : GK w core wk) (hb : Below wk.heap.size wk wx) : GK w core wx := ⟨h.bx.below hb h.bx.lt, below_hop hb h.bl⟩
theorem GK.rowed {w wk wx : World} {core : Array Value} {o : Obj} (h : GK w core wk) (hg : (wk.alloc o).grownBy wx (some wk.heap.size)) : GK w core wx := by
  have hl := h.bx.lt
  have hs := h.bl.size
  refine ⟨(h.bx.alloc _).grown hg (fun e => by injection e with e; omega), (h.bl.alloc hs _).grown hg (by simp; omega) (fun k hk => by injection hk with hk; omega)⟩
theorem GK.start (w : World) (core : Array Value) : GK w core (w.alloc (.cells core 25)).drew := ⟨Blk.drew (Blk.new _ _ _), Below.drew (al1 _ _)⟩
theorem size_small (t : Co) (v : Value) (S : Nat → Prop) (w : World) (hb : nodes t ≤ 65536) (hv : CAt w S t v) : Calls Try.prog 15 #[v] w fun e w' => ∃ z : Int, z ≤ 65536 ∧ e = .returned (.int .i64 z) ∧ Below w.heap.size w w' :=
  (ref20_Size t v S w (by omega) hv).mono fun e w' h => ⟨sizeT t, by unfold sizeT; rw [if_pos hb]; omega, h.1, h.2⟩
theorem deep_1024 (t : Co) (v : Value) (S : Nat → Prop) (w : World) (hv : CAt w S t v) : Calls Try.prog 26 #[v, .int .i64 1024] w (LowP (lowM t 1024) w) := ref20_deep _ t (Nat.le_refl _) 1024 (by omega) v S w hv
theorem good_all {t : Co} {f : Int → Int} (h0 : nodes t ≤ 65536) (h1 : lowM t 1024) (h2 : bindsM t (fun _ => 0) = some f) (h3 : closM t (fun _ => 0) = true) : goodB t = true := by
  unfold goodB
  rw [decide_eq_true h0, good_of_binds h2 h1 (D := 1) (by omega), h3]
  rfl
set_option maxHeartbeats 8000000 in
set_option maxRecDepth 100000 in
theorem ref20_Good (t : Co) (v : Value) (S : Nat → Prop) (w : World) (hv : CAt w S t v) (hb : nodes t ≤ 65536) : Calls Try.prog 14 #[v] w (OnlyP (goodB t = true) w) := by
  have hv0 := hv.low
  obtain ⟨k, x, y, m, i, T, tl, tc, A, l, c, rfl⟩ := hv.agg
  have HV := hid hv0
  have HB := hid hb
  obtain ⟨N, M, hN, hM, hmk⟩ := mk_big
  have HN := hid (And.intro hN hM)
  have K0 := hid (GK.start w #[.int .i64 k, .int .i64 x, .int .i64 y, .int .i64 m, .bool i, .slice T tl tc, .slice A l c])
  obtain ⟨x0, x1, x2, x3, x4, x5, x6⟩ := (Blk.new w 25 #[.int .i64 k, .int .i64 x, .int .i64 y, .int .i64 m, .bool i, .slice T tl tc, .slice A l c]).seven
  clear hv hv0 hb hN hM
  go_enter Try.func14, Try.ntmps14
  go_wp2
  refine wp_region_held_drew (S := fun w' => (w').cell? ⟨w.heap.size, 0, none⟩ = some (.int .i64 k) ∧ (w').cell? ⟨w.heap.size, 1, none⟩ = some (.int .i64 x) ∧ (w').cell? ⟨w.heap.size, 2, none⟩ = some (.int .i64 y) ∧ (w').cell? ⟨w.heap.size, 3, none⟩ = some (.int .i64 m) ∧ (w').cell? ⟨w.heap.size, 4, none⟩ = some (.bool i) ∧ (w').cell? ⟨w.heap.size, 5, none⟩ = some (.slice T tl tc) ∧ (w').cell? ⟨w.heap.size, 6, none⟩ = some (.slice A l c)) (by kernel_rfl) K0.out.bx.seven (fun hHeld => ?_)
  refine take_d (some 3) (i := 0) (v := .agg #[.int .i64 k, .int .i64 x, .int .i64 y, .int .i64 m, .bool i, .slice T tl tc, .slice A l c]) rfl rfl (by kernel_rfl) (by kernel_rfl) (by kernel_rfl) (fun _ _ _ h => h) (.inl ⟨by rfl, fun w7 hS7 => (by (try dsimp only at hS7); obtain ⟨s0, s1, s2, s3, s4, s5, s6⟩ := hS7; go_simp)⟩) (by assumption) ?_; try simp only [Act.put, List.setIfInBounds_toArray, List.set_cons_zero, List.set_cons_succ]
  refine wpAnyH_ready (rs := [1]) (by kernel_rfl) (by simp) (AllReadyH.cons rfl (fun K hK => ?_) AllReadyH.nil)
  go_simp
  go_wp2_with (go_at_call 15; (refine (size_small t _ _ _ HB.out (HV.out.up K0.out.bl)).mono ?_); rintro e w1 ⟨z, hz, rfl, b1⟩; have K1 := hid (K0.out.up b1); clear b1)
  refine hK.out _ _ K1.out.bx.seven (fun hHeld => ?_)
  clear hK K
  refine take_d (some 5) (i := 2) (v := .bool true) rfl rfl (by kernel_rfl) (by kernel_rfl) (by kernel_rfl) (fun _ _ _ h => h) (.inl ⟨by rfl, fun w7 hS7 => (by (try dsimp only at hS7); obtain ⟨s0, s1, s2, s3, s4, s5, s6⟩ := hS7; go_simp)⟩) (by assumption) ?_; try simp only [Act.put, List.setIfInBounds_toArray, List.set_cons_zero, List.set_cons_succ]
  refine take_d (some 6) (i := 3) (v := .bool true) rfl rfl (by kernel_rfl) (by kernel_rfl) (by kernel_rfl) (fun _ _ _ h => h) (.inl ⟨by rfl, fun w7 hS7 => (by (try dsimp only at hS7); obtain ⟨s0, s1, s2, s3, s4, s5, s6⟩ := hS7; go_simp)⟩) (by assumption) ?_; try simp only [Act.put, List.setIfInBounds_toArray, List.set_cons_zero, List.set_cons_succ]
  refine take_d (some 7) (i := 4) (v := .agg #[.int .i64 k, .int .i64 x, .int .i64 y, .int .i64 m, .bool i, .slice T tl tc, .slice A l c]) rfl rfl (by kernel_rfl) (by kernel_rfl) (by kernel_rfl) (fun _ _ _ h => h) (.inl ⟨by rfl, fun w7 hS7 => (by (try dsimp only at hS7); obtain ⟨s0, s1, s2, s3, s4, s5, s6⟩ := hS7; go_simp)⟩) (by assumption) ?_; try simp only [Act.put, List.setIfInBounds_toArray, List.set_cons_zero, List.set_cons_succ]
  refine wpAnyH_ready (rs := [5]) (by kernel_rfl) (by simp) (AllReadyH.cons rfl (fun K hK => ?_) AllReadyH.nil)
  go_simp
  go_wp2_with (go_at_call 26; (refine (deep_1024 t _ _ _ (HV.out.up K1.out.bl)).mono ?_); rintro e w2 ⟨⟨r2, rfl, hr2⟩, b2⟩; have K2 := hid (K1.out.up b2); have H2 := hid hr2; clear b2 hr2)
  refine hK.out _ _ K2.out.bx.seven (fun hHeld => ?_)
  clear hK K
  cases r2
  case true =>
    refine take_d (some 9) (i := 6) (v := .bool false) rfl rfl (by kernel_rfl) (by kernel_rfl) (by kernel_rfl) (fun _ _ _ h => h) (.inl ⟨by rfl, fun w7 hS7 => (by (try dsimp only at hS7); obtain ⟨s0, s1, s2, s3, s4, s5, s6⟩ := hS7; go_simp)⟩) (by assumption) ?_; try simp only [Act.put, List.setIfInBounds_toArray, List.set_cons_zero, List.set_cons_succ]
    refine take_d (some 10) (i := 7) (v := .bool false) rfl rfl (by kernel_rfl) (by kernel_rfl) (by kernel_rfl) (fun _ _ _ h => h) (.inl ⟨by rfl, fun w7 hS7 => (by (try dsimp only at hS7); obtain ⟨s0, s1, s2, s3, s4, s5, s6⟩ := hS7; go_simp)⟩) (by assumption) ?_; try simp only [Act.put, List.setIfInBounds_toArray, List.set_cons_zero, List.set_cons_succ]
    refine take_d (some 11) (i := 8) (v := .bool false) rfl rfl (by kernel_rfl) (by kernel_rfl) (by kernel_rfl) (fun _ _ _ h => h) (.inl ⟨by rfl, fun w7 hS7 => (by (try dsimp only at hS7); obtain ⟨s0, s1, s2, s3, s4, s5, s6⟩ := hS7; go_simp)⟩) (by assumption) ?_; try simp only [Act.put, List.setIfInBounds_toArray, List.set_cons_zero, List.set_cons_succ]
    refine take_d (some 12) (i := 9) (v := undef) rfl rfl (by kernel_rfl) (by kernel_rfl) (by kernel_rfl) (fun _ _ _ h => h) (.inr ⟨by rfl, rfl⟩) (by assumption) ?_; try simp only [Act.put, List.setIfInBounds_toArray, List.set_cons_zero, List.set_cons_succ]
    refine take_d (some 13) (i := 10) (v := undef) rfl rfl (by kernel_rfl) (by kernel_rfl) (by kernel_rfl) (fun _ _ _ h => h) (.inr ⟨by rfl, rfl⟩) (by assumption) ?_; try simp only [Act.put, List.setIfInBounds_toArray, List.set_cons_zero, List.set_cons_succ]
    refine take_d (some 14) (i := 11) (v := undef) rfl rfl (by kernel_rfl) (by kernel_rfl) (by kernel_rfl) (fun _ _ _ h => h) (.inr ⟨by rfl, rfl⟩) (by assumption) ?_; try simp only [Act.put, List.setIfInBounds_toArray, List.set_cons_zero, List.set_cons_succ]
    refine take_d (some 15) (i := 12) (v := .bool false) rfl rfl (by kernel_rfl) (by kernel_rfl) (by kernel_rfl) (fun _ _ _ h => h) (.inl ⟨by rfl, fun w7 hS7 => (by (try dsimp only at hS7); obtain ⟨s0, s1, s2, s3, s4, s5, s6⟩ := hS7; go_simp)⟩) (by assumption) ?_; try simp only [Act.put, List.setIfInBounds_toArray, List.set_cons_zero, List.set_cons_succ]
    refine take_d (some 16) (i := 13) (v := .bool false) rfl rfl (by kernel_rfl) (by kernel_rfl) (by kernel_rfl) (fun _ _ _ h => h) (.inl ⟨by rfl, fun w7 hS7 => (by (try dsimp only at hS7); obtain ⟨s0, s1, s2, s3, s4, s5, s6⟩ := hS7; go_simp)⟩) (by assumption) ?_; try simp only [Act.put, List.setIfInBounds_toArray, List.set_cons_zero, List.set_cons_succ]
    refine take_d (some 17) (i := 14) (v := undef) rfl rfl (by kernel_rfl) (by kernel_rfl) (by kernel_rfl) (fun _ _ _ h => h) (.inr ⟨by rfl, rfl⟩) (by assumption) ?_; try simp only [Act.put, List.setIfInBounds_toArray, List.set_cons_zero, List.set_cons_succ]
    refine take_d (some 18) (i := 15) (v := undef) rfl rfl (by kernel_rfl) (by kernel_rfl) (by kernel_rfl) (fun _ _ _ h => h) (.inr ⟨by rfl, rfl⟩) (by assumption) ?_; try simp only [Act.put, List.setIfInBounds_toArray, List.set_cons_zero, List.set_cons_succ]
    refine take_d (some 19) (i := 16) (v := .bool false) rfl rfl (by kernel_rfl) (by kernel_rfl) (by kernel_rfl) (fun _ _ _ h => h) (.inl ⟨by rfl, fun w7 hS7 => (by (try dsimp only at hS7); obtain ⟨s0, s1, s2, s3, s4, s5, s6⟩ := hS7; go_simp)⟩) (by assumption) ?_; try simp only [Act.put, List.setIfInBounds_toArray, List.set_cons_zero, List.set_cons_succ]
    refine take_d (some 2) (i := 17) (v := .bool false) rfl rfl (by kernel_rfl) (by kernel_rfl) (by kernel_rfl) (fun _ _ _ h => h) (.inl ⟨by rfl, fun w7 hS7 => (by (try dsimp only at hS7); obtain ⟨s0, s1, s2, s3, s4, s5, s6⟩ := hS7; go_simp)⟩) (by assumption) ?_; try simp only [Act.put, List.setIfInBounds_toArray, List.set_cons_zero, List.set_cons_succ]
    refine wpAnyH_done (by kernel_rfl) ?_ _
    go_wp2
    go_ret
    exact no_of rfl K2.out.bl
  case false =>
    refine take_d (some 9) (i := 6) (v := .bool true) rfl rfl (by kernel_rfl) (by kernel_rfl) (by kernel_rfl) (fun _ _ _ h => h) (.inl ⟨by rfl, fun w7 hS7 => (by (try dsimp only at hS7); obtain ⟨s0, s1, s2, s3, s4, s5, s6⟩ := hS7; go_simp)⟩) (by assumption) ?_; try simp only [Act.put, List.setIfInBounds_toArray, List.set_cons_zero, List.set_cons_succ]
    refine take_d (some 10) (i := 7) (v := .bool true) rfl rfl (by kernel_rfl) (by kernel_rfl) (by kernel_rfl) (fun _ _ _ h => h) (.inl ⟨by rfl, fun w7 hS7 => (by (try dsimp only at hS7); obtain ⟨s0, s1, s2, s3, s4, s5, s6⟩ := hS7; go_simp)⟩) (by assumption) ?_; try simp only [Act.put, List.setIfInBounds_toArray, List.set_cons_zero, List.set_cons_succ]
    refine take_d (some 11) (i := 8) (v := .bool true) rfl rfl (by kernel_rfl) (by kernel_rfl) (by kernel_rfl) (fun _ _ _ h => h) (.inl ⟨by rfl, fun w7 hS7 => (by (try dsimp only at hS7); obtain ⟨s0, s1, s2, s3, s4, s5, s6⟩ := hS7; go_simp)⟩) (by assumption) ?_; try simp only [Act.put, List.setIfInBounds_toArray, List.set_cons_zero, List.set_cons_succ]
    refine take_d (some 12) (i := 9) (v := .agg #[.int .i64 k, .int .i64 x, .int .i64 y, .int .i64 m, .bool i, .slice T tl tc, .slice A l c]) rfl rfl (by kernel_rfl) (by kernel_rfl) (by kernel_rfl) (fun _ _ _ h => h) (.inl ⟨by rfl, fun w7 hS7 => (by (try dsimp only at hS7); obtain ⟨s0, s1, s2, s3, s4, s5, s6⟩ := hS7; go_simp)⟩) (by assumption) ?_; try simp only [Act.put, List.setIfInBounds_toArray, List.set_cons_zero, List.set_cons_succ]
    refine wpAnyH_ready (rs := [10]) (by kernel_rfl) (by simp) (AllReadyH.cons rfl (fun K hK => ?_) AllReadyH.nil)
    go_simp
    have K2' := hid (K2.out.up (al1 w2 (.cells M 3)))
    refine hK.out _ _ K2'.out.bx.seven (fun hHeld => ?_)
    clear hK K
    refine wpAnyH_ready (rs := [11]) (by kernel_rfl) (by simp) (AllReadyH.cons rfl (fun K hK => ?_) AllReadyH.nil)
    go_simp
    go_wp2_with (go_at_call 27; (refine (ref20_shapes _ t (Nat.le_refl _) _ (fun b => b < w.heap.size) w2.heap.size N (fun _ => 0) _ HN.out.1 (HV.out.up (K2.out.bl.alloc K2.out.bl.size _)) (fun b hb' => (by have := K2.out.bl.size; omega)) (brow_made HN.out.1 HN.out.2) z01_none).mono ?_); rintro e w3 ⟨r3, rfl, hr3, hg3⟩; have K3 := hid (K2.out.rowed hg3); have H3 := hid hr3; clear hg3 hr3)
    refine hK.out _ _ K3.out.bx.seven (fun hHeld => ?_)
    clear hK K
    cases r3
    case false =>
      refine take_d (some 15) (i := 12) (v := .bool false) rfl rfl (by kernel_rfl) (by kernel_rfl) (by kernel_rfl) (fun _ _ _ h => h) (.inl ⟨by rfl, fun w7 hS7 => (by (try dsimp only at hS7); obtain ⟨s0, s1, s2, s3, s4, s5, s6⟩ := hS7; go_simp)⟩) (by assumption) ?_; try simp only [Act.put, List.setIfInBounds_toArray, List.set_cons_zero, List.set_cons_succ]
      refine take_d (some 16) (i := 13) (v := .bool false) rfl rfl (by kernel_rfl) (by kernel_rfl) (by kernel_rfl) (fun _ _ _ h => h) (.inl ⟨by rfl, fun w7 hS7 => (by (try dsimp only at hS7); obtain ⟨s0, s1, s2, s3, s4, s5, s6⟩ := hS7; go_simp)⟩) (by assumption) ?_; try simp only [Act.put, List.setIfInBounds_toArray, List.set_cons_zero, List.set_cons_succ]
      refine take_d (some 17) (i := 14) (v := undef) rfl rfl (by kernel_rfl) (by kernel_rfl) (by kernel_rfl) (fun _ _ _ h => h) (.inr ⟨by rfl, rfl⟩) (by assumption) ?_; try simp only [Act.put, List.setIfInBounds_toArray, List.set_cons_zero, List.set_cons_succ]
      refine take_d (some 18) (i := 15) (v := undef) rfl rfl (by kernel_rfl) (by kernel_rfl) (by kernel_rfl) (fun _ _ _ h => h) (.inr ⟨by rfl, rfl⟩) (by assumption) ?_; try simp only [Act.put, List.setIfInBounds_toArray, List.set_cons_zero, List.set_cons_succ]
      refine take_d (some 19) (i := 16) (v := .bool false) rfl rfl (by kernel_rfl) (by kernel_rfl) (by kernel_rfl) (fun _ _ _ h => h) (.inl ⟨by rfl, fun w7 hS7 => (by (try dsimp only at hS7); obtain ⟨s0, s1, s2, s3, s4, s5, s6⟩ := hS7; go_simp)⟩) (by assumption) ?_; try simp only [Act.put, List.setIfInBounds_toArray, List.set_cons_zero, List.set_cons_succ]
      refine take_d (some 2) (i := 17) (v := .bool false) rfl rfl (by kernel_rfl) (by kernel_rfl) (by kernel_rfl) (fun _ _ _ h => h) (.inl ⟨by rfl, fun w7 hS7 => (by (try dsimp only at hS7); obtain ⟨s0, s1, s2, s3, s4, s5, s6⟩ := hS7; go_simp)⟩) (by assumption) ?_; try simp only [Act.put, List.setIfInBounds_toArray, List.set_cons_zero, List.set_cons_succ]
      refine wpAnyH_done (by kernel_rfl) ?_ _
      go_wp2
      go_ret
      exact no_of rfl K3.out.bl
    case true =>
      refine take_d (some 15) (i := 12) (v := .bool true) rfl rfl (by kernel_rfl) (by kernel_rfl) (by kernel_rfl) (fun _ _ _ h => h) (.inl ⟨by rfl, fun w7 hS7 => (by (try dsimp only at hS7); obtain ⟨s0, s1, s2, s3, s4, s5, s6⟩ := hS7; go_simp)⟩) (by assumption) ?_; try simp only [Act.put, List.setIfInBounds_toArray, List.set_cons_zero, List.set_cons_succ]
      refine take_d (some 16) (i := 13) (v := .bool true) rfl rfl (by kernel_rfl) (by kernel_rfl) (by kernel_rfl) (fun _ _ _ h => h) (.inl ⟨by rfl, fun w7 hS7 => (by (try dsimp only at hS7); obtain ⟨s0, s1, s2, s3, s4, s5, s6⟩ := hS7; go_simp)⟩) (by assumption) ?_; try simp only [Act.put, List.setIfInBounds_toArray, List.set_cons_zero, List.set_cons_succ]
      refine take_d (some 17) (i := 14) (v := .agg #[.int .i64 k, .int .i64 x, .int .i64 y, .int .i64 m, .bool i, .slice T tl tc, .slice A l c]) rfl rfl (by kernel_rfl) (by kernel_rfl) (by kernel_rfl) (fun _ _ _ h => h) (.inl ⟨by rfl, fun w7 hS7 => (by (try dsimp only at hS7); obtain ⟨s0, s1, s2, s3, s4, s5, s6⟩ := hS7; go_simp)⟩) (by assumption) ?_; try simp only [Act.put, List.setIfInBounds_toArray, List.set_cons_zero, List.set_cons_succ]
      refine wpAnyH_ready (rs := [15]) (by kernel_rfl) (by simp) (AllReadyH.cons rfl (fun K hK => ?_) AllReadyH.nil)
      go_simp
      go_wp2_with (go_at_call 28; (refine (ref20_Closed t _ _ _ (HV.out.up K3.out.bl) (by have := HB.out; omega)).mono ?_); rintro e w4 ⟨⟨r4, rfl, hr4⟩, b4⟩; have K4 := hid (K3.out.up b4); have H4 := hid hr4; clear b4 hr4)
      refine hK.out _ _ K4.out.bx.seven (fun hHeld => ?_)
      clear hK K
      refine take_d (some 19) (i := 16) (v := .bool r4) rfl rfl (by kernel_rfl) (by kernel_rfl) (by kernel_rfl) (fun _ _ _ h => h) (.inl ⟨by rfl, fun w7 hS7 => (by (try dsimp only at hS7); obtain ⟨s0, s1, s2, s3, s4, s5, s6⟩ := hS7; go_simp)⟩) (by assumption) ?_; try simp only [Act.put, List.setIfInBounds_toArray, List.set_cons_zero, List.set_cons_succ]
      refine take_d (some 2) (i := 17) (v := .bool r4) rfl rfl (by kernel_rfl) (by kernel_rfl) (by kernel_rfl) (fun _ _ _ h => h) (.inl ⟨by rfl, fun w7 hS7 => (by (try dsimp only at hS7); obtain ⟨s0, s1, s2, s3, s4, s5, s6⟩ := hS7; go_simp)⟩) (by assumption) ?_; try simp only [Act.put, List.setIfInBounds_toArray, List.set_cons_zero, List.set_cons_succ]
      refine wpAnyH_done (by kernel_rfl) ?_ _
      go_wp2
      go_ret
      obtain ⟨f', h1, _⟩ := H3.out trivial
      exact yes_of (fun h => good_all HB.out (H2.out trivial) h1 (H4.out h)) K4.out.bl
end Go.Proofs.Ytohdaclbgedeiaa
/-
  EXPRESSIONS THAT A LAW BUILDS, IN MEMORY.
-/

namespace Go.Proofs.Ytohdaclbgedeiaa
set_option linter.all false
open Go.ChangeShapes Go.WideShapes Go.ChangeAt Go.RowKit
open Ev (Co nodes nodesL varT letT lamT appT RunIs)

theorem wf_zero : (Lit.int .i64 0).wf = true := by decide
theorem cat_var {w : World} {S : Nat → Prop} {x : Int} (hx : (Lit.int .i64 x).wf = true) : CAt w S (varT x) (.agg #[.int .i64 1, .int .i64 x, .int .i64 0, .int .i64 0, .bool false, .slice none 0 0, .slice none 0 0]) :=
  CAt.make rfl rfl (iat_nil w _) ⟨Nat.le_refl _, Nat.zero_le _, fun _ => ⟨rfl, rfl⟩, by decide⟩ (by rw [CRow]; trivial) ⟨by decide, hx, wf_zero, wf_zero⟩
theorem at7_blk {w : World} {g k : Nat} {t : TypeId} {cs : Array Value} {a0 a1 a2 a3 a4 a5 a6 : Value} (h : Blk w g t cs) (h0 : cs[k]? = some a0) (h1 : cs[k + 1]? = some a1) (h2 : cs[k + 2]? = some a2) (h3 : cs[k + 3]? = some a3) (h4 : cs[k + 4]? = some a4) (h5 : cs[k + 5]? = some a5) (h6 : cs[k + 6]? = some a6) :
    (w).cell? ((⟨g, k, none⟩ : Addr)) = some (a0) ∧ (w).cell? ⟨((⟨g, k, none⟩ : Addr)).block, ((⟨g, k, none⟩ : Addr)).off + 1, none⟩ = some (a1) ∧ (w).cell? ⟨((⟨g, k, none⟩ : Addr)).block, ((⟨g, k, none⟩ : Addr)).off + 2, none⟩ = some (a2) ∧ (w).cell? ⟨((⟨g, k, none⟩ : Addr)).block, ((⟨g, k, none⟩ : Addr)).off + 3, none⟩ = some (a3) ∧ (w).cell? ⟨((⟨g, k, none⟩ : Addr)).block, ((⟨g, k, none⟩ : Addr)).off + 4, none⟩ = some (a4) ∧ (w).cell? ⟨((⟨g, k, none⟩ : Addr)).block, ((⟨g, k, none⟩ : Addr)).off + 5, none⟩ = some (a5) ∧ (w).cell? ⟨((⟨g, k, none⟩ : Addr)).block, ((⟨g, k, none⟩ : Addr)).off + 6, none⟩ = some (a6) :=
  ⟨(h.cell k).trans h0, (h.cell _).trans h1, (h.cell _).trans h2, (h.cell _).trans h3, (h.cell _).trans h4, (h.cell _).trans h5, (h.cell _).trans h6⟩
theorem crow_two {w : World} {S : Nat → Prop} {g : Nat} {s t : Co} {a0 a1 a2 a3 a4 a5 a6 b0 b1 b2 b3 b4 b5 b6 : Value} (hS : S g) (hb : Blk w g 25 #[a0, a1, a2, a3, a4, a5, a6, b0, b1, b2, b3, b4, b5, b6]) (h1 : CAt w S s (.agg #[a0, a1, a2, a3, a4, a5, a6])) (h2 : CAt w S t (.agg #[b0, b1, b2, b3, b4, b5, b6])) : CRow w S [s, t] (some ⟨g, 0, none⟩) 0 := by
  refine CRow.mk hS _ 0 (fun k hk => ?_)
  match k, hk with
  | 0, _ =>
    refine ⟨a0, a1, a2, a3, a4, a5, a6, ?_, h1⟩
    rw [show (⟨g, 0, none⟩ : Addr).add ((0 + 0) * 7) = ⟨g, 0, none⟩ from rfl]
    exact at7_blk hb rfl rfl rfl rfl rfl rfl rfl
  | 1, _ =>
    refine ⟨b0, b1, b2, b3, b4, b5, b6, ?_, h2⟩
    rw [show (⟨g, 0, none⟩ : Addr).add ((0 + 1) * 7) = ⟨g, 7, none⟩ from rfl]
    exact at7_blk hb rfl rfl rfl rfl rfl rfl rfl
theorem crow_one {w : World} {S : Nat → Prop} {g : Nat} {s : Co} {a0 a1 a2 a3 a4 a5 a6 : Value} (hS : S g) (hb : Blk w g 25 #[a0, a1, a2, a3, a4, a5, a6]) (h1 : CAt w S s (.agg #[a0, a1, a2, a3, a4, a5, a6])) : CRow w S [s] (some ⟨g, 0, none⟩) 0 := by
  refine CRow.mk hS _ 0 (fun k hk => ?_)
  match k, hk with
  | 0, _ =>
    refine ⟨a0, a1, a2, a3, a4, a5, a6, ?_, h1⟩
    rw [show (⟨g, 0, none⟩ : Addr).add ((0 + 0) * 7) = ⟨g, 0, none⟩ from rfl]
    exact at7_blk hb rfl rfl rfl rfl rfl rfl rfl
theorem cat_let {w : World} {S : Nat → Prop} {g : Nat} {x : Int} {t : Co} {a0 a1 a2 a3 a4 a5 a6 : Value} (hx : (Lit.int .i64 x).wf = true) (hS : S g) (hb : Blk w g 25 #[a0, a1, a2, a3, a4, a5, a6, .int .i64 1, .int .i64 x, .int .i64 0, .int .i64 0, .bool false, .slice none 0 0, .slice none 0 0]) (h1 : CAt w S t (.agg #[a0, a1, a2, a3, a4, a5, a6])) :
    CAt w S (letT x t) (.agg #[.int .i64 5, .int .i64 x, .int .i64 0, .int .i64 0, .bool false, .slice none 0 0, .slice (some ⟨g, 0, none⟩) 2 2]) :=
  CAt.make rfl rfl (iat_nil w _) ⟨Nat.le_refl _, by unfold maxLen; decide, fun h => (by cases h), by simp⟩ (crow_two hS hb h1 (cat_var hx)) ⟨by decide, hx, wf_zero, wf_zero⟩
theorem cat_app {w : World} {S : Nat → Prop} {g gv : Nat} {x : Int} {t : Co} {a0 a1 a2 a3 a4 a5 a6 : Value} (hx : (Lit.int .i64 x).wf = true) (hS : S g) (hv : S gv) (hbv : Blk w gv 25 #[.int .i64 1, .int .i64 x, .int .i64 0, .int .i64 0, .bool false, .slice none 0 0, .slice none 0 0])
    (hb : Blk w g 25 #[.int .i64 3, .int .i64 x, .int .i64 0, .int .i64 0, .bool false, .slice none 0 0, .slice (some ⟨gv, 0, none⟩) 1 1, a0, a1, a2, a3, a4, a5, a6]) (h1 : CAt w S t (.agg #[a0, a1, a2, a3, a4, a5, a6])) :
    CAt w S (appT x t) (.agg #[.int .i64 4, .int .i64 0, .int .i64 0, .int .i64 0, .bool false, .slice none 0 0, .slice (some ⟨g, 0, none⟩) 2 2]) :=
  CAt.make rfl rfl (iat_nil w _) ⟨Nat.le_refl _, by unfold maxLen; decide, fun h => (by cases h), by simp⟩
    (crow_two hS hb (CAt.make rfl rfl (iat_nil w _) ⟨Nat.le_refl _, by unfold maxLen; decide, fun h => (by cases h), by simp⟩ (crow_one hv hbv (cat_var hx)) ⟨by decide, hx, wf_zero, wf_zero⟩) h1) ⟨by decide, wf_zero, wf_zero, wf_zero⟩
theorem nodes_let (x : Int) (t : Co) : nodes (letT x t) = nodes t + 2 := by
  simp only [letT, varT, nodes, nodesL]; omega
theorem nodes_app (x : Int) (t : Co) : nodes (appT x t) = nodes t + 3 := by
  simp only [appT, lamT, varT, nodes, nodesL]; omega
/-- A result that stands in a block of one's own. -/
structure RH (w : World) (g : Nat) (A : Option Addr) (c : Nat) (B : Option Addr) (d : Nat) (r : Int × List Int × List Int × Int) : Prop where
  bx : Blk w g 31 #[.int .i64 r.1, .slice A r.2.1.length c, .slice B r.2.2.1.length d]
  i1 : Ints w w.heap.size A r.2.1.length c r.2.1
  i2 : Ints w w.heap.size B r.2.2.1.length d r.2.2.1
theorem RH.up {w w' : World} {g c d : Nat} {A B : Option Addr} {r : Int × List Int × List Int × Int} (h : RH w g A c B d r) (hb : Below w.heap.size w w') : RH w' g A c B d r :=
  ⟨h.bx.below hb h.bx.lt, h.i1.below hb hb.size, h.i2.below hb hb.size⟩
theorem RH.drew {w : World} {g c d : Nat} {A B : Option Addr} {r : Int × List Int × List Int × Int} (h : RH w g A c B d r) : RH w.drew g A c B d r := h.up (Below.refl _ _).drew
theorem GK.start0 (w : World) (core : Array Value) : GK w core (w.alloc (.cells core 25)) := ⟨Blk.new _ _ _, al1 _ _⟩
/-- Behind append([]int{}, inputs...). -/
structure Ap (w3 w4 : World) (B : Nat) (l : List Int) (A : Option Addr) (n cA : Nat) : Prop where
  own : OwnI w4 B (.slice A n cA) l
  len : n = l.length
  low : Below w3.heap.size w3 w4
theorem ap_of {w3 w4 : World} {l : List Int} {A : Option Addr} {n cA : Nat} (ho : OwnI w4 w3.heap.size (.slice A (0 + n) cA) ([] ++ l)) (hn : n = l.length) (hb : ∀ B0 w0, B0 ≤ w3.heap.size → Below B0 w0 (w3.alloc (.cells #[] 3)) → Below B0 w0 w4) : Ap w3 w4 w3.heap.size l A n cA := ⟨by simpa using ho, hn, hb _ _ (Nat.le_refl _) (al1 _ _)⟩
theorem dr1 (X : World) : Below X.heap.size X X.drew := (Below.refl _ _).drew
theorem al_drew (X : World) (o : Obj) : Below X.heap.size X (X.drew.alloc o) := Below.alloc (dr1 X) (Nat.le_refl _) o
theorem set7_keep {w : World} {g k : Nat} {t : TypeId} {cs : Array Value} {v0 v1 v2 v3 v4 v5 v6 : Value} (h : Blk w k t cs) (hk : k ≠ g) (o : Obj) : Blk ((((((((w.setCell ⟨g, 0, none⟩ v0).setCell ⟨g, 1, none⟩ v1).setCell ⟨g, 2, none⟩ v2).setCell ⟨g, 3, none⟩ v3).setCell ⟨g, 4, none⟩ v4).setCell ⟨g, 5, none⟩ v5).setCell ⟨g, 6, none⟩ v6).alloc o) k t cs :=
  Blk.alloc ((set7_other (v0 := v0) (v1 := v1) (v2 := v2) (v3 := v3) (v4 := v4) (v5 := v5) (v6 := v6) hk).trans h) o
/-- An expression in a block of one's own. -/
structure LB (w : World) (g : Nat) (cs : Array Value) (t : Co) : Prop where
  bx : Blk w g 25 cs
  ct : CAt w (fun _ => True) t (.agg cs)
theorem LB.up {w w' : World} {g : Nat} {cs : Array Value} {t : Co} (h : LB w g cs t) (hb : Below w.heap.size w w') : LB w' g cs t := ⟨h.bx.below hb h.bx.lt, h.ct.up hb⟩
theorem set7_low {W w : World} {g : Nat} {v0 v1 v2 v3 v4 v5 v6 : Value} (h : Below W.heap.size W w) (hg : W.heap.size ≤ g) (o : Obj) : Below W.heap.size W ((((((((w.setCell ⟨g, 0, none⟩ v0).setCell ⟨g, 1, none⟩ v1).setCell ⟨g, 2, none⟩ v2).setCell ⟨g, 3, none⟩ v3).setCell ⟨g, 4, none⟩ v4).setCell ⟨g, 5, none⟩ v5).setCell ⟨g, 6, none⟩ v6).alloc o) :=
  (set7_below (v0 := v0) (v1 := v1) (v2 := v2) (v3 := v3) (v4 := v4) (v5 := v5) (v6 := v6) h hg).alloc (by have := h.size; simp [set7, World.setCell]; omega) o
theorem let_A {w : World} {tp : Int} {t : Co} {a0 a1 a2 a3 a4 a5 a6 : Value} (hx : (Lit.int .i64 tp).wf = true) (hc : CAt w (fun _ => True) t (.agg #[a0, a1, a2, a3, a4, a5, a6])) : LB ((w.alloc (.cells #[a0, a1, a2, a3, a4, a5, a6, .int .i64 1, .int .i64 tp, .int .i64 0, .int .i64 0, .bool false, .slice none 0 0, .slice none 0 0] 25)).alloc (.cells #[.int .i64 5, .int .i64 tp, .int .i64 0, .int .i64 0, .bool false, .slice none 0 0, .slice (some ⟨w.heap.size, 0, none⟩) 2 2] 25)) (w.heap.size + 1) #[.int .i64 5, .int .i64 tp, .int .i64 0, .int .i64 0, .bool false, .slice none 0 0, .slice (some ⟨w.heap.size, 0, none⟩) 2 2] (letT tp t) :=
  ⟨Blk.new' (by simp) _ _, cat_let hx trivial ((Blk.new w _ _).alloc _) (hc.up (al2 _ _ _))⟩
theorem let_B {w : World} {tp : Int} {t : Co} {a0 a1 a2 a3 a4 a5 a6 : Value} (hx : (Lit.int .i64 tp).wf = true) (hc : CAt w (fun _ => True) t (.agg #[a0, a1, a2, a3, a4, a5, a6])) : LB ((w.alloc (.cells #[.int .i64 5, .int .i64 tp, .int .i64 0, .int .i64 0, .bool false, .slice none 0 0, .slice (some ⟨(w.heap.size + 1), 0, none⟩) 2 2] 25)).alloc (.cells #[a0, a1, a2, a3, a4, a5, a6, .int .i64 1, .int .i64 tp, .int .i64 0, .int .i64 0, .bool false, .slice none 0 0, .slice none 0 0] 25)) w.heap.size #[.int .i64 5, .int .i64 tp, .int .i64 0, .int .i64 0, .bool false, .slice none 0 0, .slice (some ⟨(w.heap.size + 1), 0, none⟩) 2 2] (letT tp t) :=
  ⟨(Blk.new w _ _).alloc _, cat_let hx trivial (Blk.new' (by simp) _ _) (hc.up (al2 _ _ _))⟩
theorem let_C {w : World} {tp : Int} {t : Co} {a0 a1 a2 a3 a4 a5 a6 : Value} (hx : (Lit.int .i64 tp).wf = true) (hc : CAt w (fun _ => True) t (.agg #[a0, a1, a2, a3, a4, a5, a6])) {g : Nat} {u0 u1 u2 u3 u4 u5 u6 : Value} (hg : Blk w g 25 #[u0, u1, u2, u3, u4, u5, u6]) (hS : CAt w (fun b => b ≠ g) t (.agg #[a0, a1, a2, a3, a4, a5, a6])) : LB ((((((((w.setCell ⟨g, 0, none⟩ (.int .i64 5)).setCell ⟨g, 1, none⟩ (.int .i64 tp)).setCell ⟨g, 2, none⟩ (.int .i64 0)).setCell ⟨g, 3, none⟩ (.int .i64 0)).setCell ⟨g, 4, none⟩ (.bool false)).setCell ⟨g, 5, none⟩ (.slice none 0 0)).setCell ⟨g, 6, none⟩ (.slice (some ⟨w.heap.size, 0, none⟩) 2 2)).alloc (.cells #[a0, a1, a2, a3, a4, a5, a6, .int .i64 1, .int .i64 tp, .int .i64 0, .int .i64 0, .bool false, .slice none 0 0, .slice none 0 0] 25)) g #[.int .i64 5, .int .i64 tp, .int .i64 0, .int .i64 0, .bool false, .slice none 0 0, .slice (some ⟨w.heap.size, 0, none⟩) 2 2] (letT tp t) := by
  obtain ⟨W, hW⟩ : ∃ W, W = set7 w g (.int .i64 5) (.int .i64 tp) (.int .i64 0) (.int .i64 0) (.bool false) (.slice none 0 0) (.slice (some ⟨w.heap.size, 0, none⟩) 2 2) := ⟨_, rfl⟩
  have hs : W.heap.size = w.heap.size := by rw [hW]; simp [set7, World.setCell]
  have h1 : Blk W g 25 #[.int .i64 5, .int .i64 tp, .int .i64 0, .int .i64 0, .bool false, .slice none 0 0, .slice (some ⟨w.heap.size, 0, none⟩) 2 2] := by rw [hW]; exact set7_blk hg
  have h2 : CAt W (fun _ => True) t (.agg #[a0, a1, a2, a3, a4, a5, a6]) := by rw [hW]; exact hS.keep (fun b hb hl => ⟨set7_other hb, trivial⟩)
  show LB ((set7 w g (.int .i64 5) (.int .i64 tp) (.int .i64 0) (.int .i64 0) (.bool false) (.slice none 0 0) (.slice (some ⟨w.heap.size, 0, none⟩) 2 2)).alloc (.cells #[a0, a1, a2, a3, a4, a5, a6, .int .i64 1, .int .i64 tp, .int .i64 0, .int .i64 0, .bool false, .slice none 0 0, .slice none 0 0] 25)) g #[.int .i64 5, .int .i64 tp, .int .i64 0, .int .i64 0, .bool false, .slice none 0 0, .slice (some ⟨w.heap.size, 0, none⟩) 2 2] (letT tp t)
  rw [← hW]
  refine ⟨h1.alloc _, cat_let hx trivial ?_ (h2.up (al1 _ _))⟩
  have := Blk.new W 25 #[a0, a1, a2, a3, a4, a5, a6, .int .i64 1, .int .i64 tp, .int .i64 0, .int .i64 0, .bool false, .slice none 0 0, .slice none 0 0]
  rwa [hs] at this
theorem al2_drew (X : World) (o o2 : Obj) : Below X.heap.size X ((X.drew.alloc o).alloc o2) := Below.alloc (al_drew X o) (by simp) o2
theorem set3_low {W w : World} {g : Nat} {v0 v1 v2 : Value} (h : Below W.heap.size W w) (hg : W.heap.size ≤ g) : Below W.heap.size W (((w.setCell ⟨g, 0, none⟩ v0).setCell ⟨g, 1, none⟩ v1).setCell ⟨g, 2, none⟩ v2) :=
  below_set (i := 2) (below_set (i := 1) (below_set (i := 0) h hg _) hg _) hg _
theorem set3_keep {w : World} {g k : Nat} {t : TypeId} {cs : Array Value} {v0 v1 v2 : Value} (h : Blk w k t cs) (hk : k ≠ g) : Blk (((w.setCell ⟨g, 0, none⟩ v0).setCell ⟨g, 1, none⟩ v1).setCell ⟨g, 2, none⟩ v2) k t cs :=
  ((h.far (p := ⟨g, 0, none⟩) hk _).far (p := ⟨g, 1, none⟩) hk _).far (p := ⟨g, 2, none⟩) hk _
theorem rh_set {w : World} {g B0 c d : Nat} {A B : Option Addr} {r : Int × List Int × List Int × Int} {u0 u1 u2 : Value} (hb : Blk w g 31 #[u0, u1, u2]) (h1 : OwnI w B0 (.slice A r.2.1.length c) r.2.1) (h2 : OwnI w B0 (.slice B r.2.2.1.length d) r.2.2.1) (hlt : g < B0) :
    RH (((w.setCell ⟨g, 0, none⟩ (.int .i64 r.1)).setCell ⟨g, 1, none⟩ (.slice A r.2.1.length c)).setCell ⟨g, 2, none⟩ (.slice B r.2.2.1.length d)) g A c B d r :=
  ⟨((hb.set_ 0 _).set_ 1 _).set_ 2 _, (((h1.set_ (a := ⟨g, 0, none⟩) hlt _).set_ (a := ⟨g, 1, none⟩) hlt _).set_ (a := ⟨g, 2, none⟩) hlt _).ints, (((h2.set_ (a := ⟨g, 0, none⟩) hlt _).set_ (a := ⟨g, 1, none⟩) hlt _).set_ (a := ⟨g, 2, none⟩) hlt _).ints⟩
theorem rh_new {w : World} {B0 c d : Nat} {A B : Option Addr} {r : Int × List Int × List Int × Int} (h1 : OwnI w B0 (.slice A r.2.1.length c) r.2.1) (h2 : OwnI w B0 (.slice B r.2.2.1.length d) r.2.2.1) : RH (w.alloc (.cells #[.int .i64 r.1, .slice A r.2.1.length c, .slice B r.2.2.1.length d] 31)) w.heap.size A c B d r :=
  ⟨Blk.new w _ _, own_ints h1 (al1 _ _), own_ints h2 (al1 _ _)⟩
theorem alc3 (X : World) (o o2 o3 : Obj) : Below X.heap.size X (((X.alloc o).alloc o2).alloc o3) := (al2 X o o2).alloc (by simp; omega) _
theorem app_a {w : World} {tp : Int} {t : Co} {a0 a1 a2 a3 a4 a5 a6 : Value} (hx : (Lit.int .i64 tp).wf = true) (hc : CAt w (fun _ => True) t (.agg #[a0, a1, a2, a3, a4, a5, a6])) {gv : Nat} (hv : Blk w gv 25 #[.int .i64 1, .int .i64 tp, .int .i64 0, .int .i64 0, .bool false, .slice none 0 0, .slice none 0 0]) : LB ((w.alloc (.cells #[.int .i64 3, .int .i64 tp, .int .i64 0, .int .i64 0, .bool false, .slice none 0 0, .slice (some ⟨gv, 0, none⟩) 1 1, a0, a1, a2, a3, a4, a5, a6] 25)).alloc (.cells #[.int .i64 4, .int .i64 0, .int .i64 0, .int .i64 0, .bool false, .slice none 0 0, .slice (some ⟨w.heap.size, 0, none⟩) 2 2] 25)) (w.heap.size + 1) #[.int .i64 4, .int .i64 0, .int .i64 0, .int .i64 0, .bool false, .slice none 0 0, .slice (some ⟨w.heap.size, 0, none⟩) 2 2] (appT tp t) :=
  ⟨Blk.new' (by simp) _ _, cat_app hx trivial trivial ((hv.alloc _).alloc _) ((Blk.new w _ _).alloc _) (hc.up (al2 _ _ _))⟩
theorem app_b {w : World} {tp : Int} {t : Co} {a0 a1 a2 a3 a4 a5 a6 : Value} (hx : (Lit.int .i64 tp).wf = true) (hc : CAt w (fun _ => True) t (.agg #[a0, a1, a2, a3, a4, a5, a6])) {gv : Nat} (hv : Blk w gv 25 #[.int .i64 1, .int .i64 tp, .int .i64 0, .int .i64 0, .bool false, .slice none 0 0, .slice none 0 0]) : LB ((w.alloc (.cells #[.int .i64 4, .int .i64 0, .int .i64 0, .int .i64 0, .bool false, .slice none 0 0, .slice (some ⟨(w.heap.size + 1), 0, none⟩) 2 2] 25)).alloc (.cells #[.int .i64 3, .int .i64 tp, .int .i64 0, .int .i64 0, .bool false, .slice none 0 0, .slice (some ⟨gv, 0, none⟩) 1 1, a0, a1, a2, a3, a4, a5, a6] 25)) w.heap.size #[.int .i64 4, .int .i64 0, .int .i64 0, .int .i64 0, .bool false, .slice none 0 0, .slice (some ⟨(w.heap.size + 1), 0, none⟩) 2 2] (appT tp t) :=
  ⟨(Blk.new w _ _).alloc _, cat_app hx trivial trivial ((hv.alloc _).alloc _) (Blk.new' (by simp) _ _) (hc.up (al2 _ _ _))⟩
theorem app_c {w : World} {tp : Int} {t : Co} {a0 a1 a2 a3 a4 a5 a6 : Value} (hx : (Lit.int .i64 tp).wf = true) {gv : Nat} (hv : Blk w gv 25 #[.int .i64 1, .int .i64 tp, .int .i64 0, .int .i64 0, .bool false, .slice none 0 0, .slice none 0 0]) {gm : Nat} {u0 u1 u2 u3 u4 u5 u6 : Value} (hz : Blk w gm 25 #[u0, u1, u2, u3, u4, u5, u6]) (hS : CAt w (fun b => b ≠ gm) t (.agg #[a0, a1, a2, a3, a4, a5, a6])) (hne : gv ≠ gm) : LB ((((((((w.setCell ⟨gm, 0, none⟩ (.int .i64 4)).setCell ⟨gm, 1, none⟩ (.int .i64 0)).setCell ⟨gm, 2, none⟩ (.int .i64 0)).setCell ⟨gm, 3, none⟩ (.int .i64 0)).setCell ⟨gm, 4, none⟩ (.bool false)).setCell ⟨gm, 5, none⟩ (.slice none 0 0)).setCell ⟨gm, 6, none⟩ (.slice (some ⟨w.heap.size, 0, none⟩) 2 2)).alloc (.cells #[.int .i64 3, .int .i64 tp, .int .i64 0, .int .i64 0, .bool false, .slice none 0 0, .slice (some ⟨gv, 0, none⟩) 1 1, a0, a1, a2, a3, a4, a5, a6] 25)) gm #[.int .i64 4, .int .i64 0, .int .i64 0, .int .i64 0, .bool false, .slice none 0 0, .slice (some ⟨w.heap.size, 0, none⟩) 2 2] (appT tp t) := by
  obtain ⟨W, hW⟩ : ∃ W, W = (set7 w gm (.int .i64 4) (.int .i64 0) (.int .i64 0) (.int .i64 0) (.bool false) (.slice none 0 0) (.slice (some ⟨w.heap.size, 0, none⟩) 2 2)) := ⟨_, rfl⟩
  have hs : W.heap.size = w.heap.size := by rw [hW]; simp [set7, World.setCell]
  have h1 : Blk W gm 25 #[.int .i64 4, .int .i64 0, .int .i64 0, .int .i64 0, .bool false, .slice none 0 0, .slice (some ⟨w.heap.size, 0, none⟩) 2 2] := by rw [hW]; exact set7_blk hz
  have h2 : CAt W (fun _ => True) t (.agg #[a0, a1, a2, a3, a4, a5, a6]) := by rw [hW]; exact hS.keep (fun b hb hl => ⟨set7_other hb, trivial⟩)
  have h3 : Blk W gv 25 #[.int .i64 1, .int .i64 tp, .int .i64 0, .int .i64 0, .bool false, .slice none 0 0, .slice none 0 0] := by rw [hW]; exact (set7_other hne).trans hv
  show LB ((set7 w gm (.int .i64 4) (.int .i64 0) (.int .i64 0) (.int .i64 0) (.bool false) (.slice none 0 0) (.slice (some ⟨w.heap.size, 0, none⟩) 2 2)).alloc (.cells #[.int .i64 3, .int .i64 tp, .int .i64 0, .int .i64 0, .bool false, .slice none 0 0, .slice (some ⟨gv, 0, none⟩) 1 1, a0, a1, a2, a3, a4, a5, a6] 25)) gm #[.int .i64 4, .int .i64 0, .int .i64 0, .int .i64 0, .bool false, .slice none 0 0, .slice (some ⟨w.heap.size, 0, none⟩) 2 2] (appT tp t)
  rw [← hW]
  refine ⟨h1.alloc _, cat_app hx trivial trivial (h3.alloc _) ?_ (h2.up (al1 _ _))⟩
  have := Blk.new W 25 #[.int .i64 3, .int .i64 tp, .int .i64 0, .int .i64 0, .bool false, .slice none 0 0, .slice (some ⟨gv, 0, none⟩) 1 1, a0, a1, a2, a3, a4, a5, a6]
  rwa [hs] at this
theorem app_e {w : World} {tp : Int} {t : Co} {a0 a1 a2 a3 a4 a5 a6 : Value} (hx : (Lit.int .i64 tp).wf = true) (hc : CAt w (fun _ => True) t (.agg #[a0, a1, a2, a3, a4, a5, a6])) : LB (((w.alloc (.cells #[.int .i64 1, .int .i64 tp, .int .i64 0, .int .i64 0, .bool false, .slice none 0 0, .slice none 0 0] 25)).alloc (.cells #[.int .i64 3, .int .i64 tp, .int .i64 0, .int .i64 0, .bool false, .slice none 0 0, .slice (some ⟨w.heap.size, 0, none⟩) 1 1, a0, a1, a2, a3, a4, a5, a6] 25)).alloc (.cells #[.int .i64 4, .int .i64 0, .int .i64 0, .int .i64 0, .bool false, .slice none 0 0, .slice (some ⟨(w.heap.size + 1), 0, none⟩) 2 2] 25)) (w.heap.size + 1 + 1) #[.int .i64 4, .int .i64 0, .int .i64 0, .int .i64 0, .bool false, .slice none 0 0, .slice (some ⟨(w.heap.size + 1), 0, none⟩) 2 2] (appT tp t) :=
  ⟨Blk.new' (by simp) _ _, cat_app hx trivial trivial (((Blk.new w _ _).alloc _).alloc _) ((Blk.new' (by simp) _ _).alloc _) (hc.up (alc3 _ _ _ _))⟩
theorem app_f {w : World} {tp : Int} {t : Co} {a0 a1 a2 a3 a4 a5 a6 : Value} (hx : (Lit.int .i64 tp).wf = true) (hc : CAt w (fun _ => True) t (.agg #[a0, a1, a2, a3, a4, a5, a6])) : LB (((w.alloc (.cells #[.int .i64 1, .int .i64 tp, .int .i64 0, .int .i64 0, .bool false, .slice none 0 0, .slice none 0 0] 25)).alloc (.cells #[.int .i64 4, .int .i64 0, .int .i64 0, .int .i64 0, .bool false, .slice none 0 0, .slice (some ⟨(w.heap.size + 1 + 1), 0, none⟩) 2 2] 25)).alloc (.cells #[.int .i64 3, .int .i64 tp, .int .i64 0, .int .i64 0, .bool false, .slice none 0 0, .slice (some ⟨w.heap.size, 0, none⟩) 1 1, a0, a1, a2, a3, a4, a5, a6] 25)) (w.heap.size + 1) #[.int .i64 4, .int .i64 0, .int .i64 0, .int .i64 0, .bool false, .slice none 0 0, .slice (some ⟨(w.heap.size + 1 + 1), 0, none⟩) 2 2] (appT tp t) :=
  ⟨(Blk.new' (by simp) _ _).alloc _, cat_app hx trivial trivial (((Blk.new w _ _).alloc _).alloc _) (Blk.new' (by simp) _ _) (hc.up (alc3 _ _ _ _))⟩
theorem app_g {w : World} {tp : Int} {t : Co} {a0 a1 a2 a3 a4 a5 a6 : Value} (hx : (Lit.int .i64 tp).wf = true) (hc : CAt w (fun _ => True) t (.agg #[a0, a1, a2, a3, a4, a5, a6])) : LB (((w.alloc (.cells #[.int .i64 4, .int .i64 0, .int .i64 0, .int .i64 0, .bool false, .slice none 0 0, .slice (some ⟨(w.heap.size + 1 + 1), 0, none⟩) 2 2] 25)).alloc (.cells #[.int .i64 1, .int .i64 tp, .int .i64 0, .int .i64 0, .bool false, .slice none 0 0, .slice none 0 0] 25)).alloc (.cells #[.int .i64 3, .int .i64 tp, .int .i64 0, .int .i64 0, .bool false, .slice none 0 0, .slice (some ⟨(w.heap.size + 1), 0, none⟩) 1 1, a0, a1, a2, a3, a4, a5, a6] 25)) w.heap.size #[.int .i64 4, .int .i64 0, .int .i64 0, .int .i64 0, .bool false, .slice none 0 0, .slice (some ⟨(w.heap.size + 1 + 1), 0, none⟩) 2 2] (appT tp t) :=
  ⟨((Blk.new w _ _).alloc _).alloc _, cat_app hx trivial trivial ((Blk.new' (by simp) _ _).alloc _) (Blk.new' (by simp) _ _) (hc.up (alc3 _ _ _ _))⟩
theorem app_h {w : World} {tp : Int} {t : Co} {a0 a1 a2 a3 a4 a5 a6 : Value} (hx : (Lit.int .i64 tp).wf = true) {gm : Nat} {u0 u1 u2 u3 u4 u5 u6 : Value} (hz : Blk w gm 25 #[u0, u1, u2, u3, u4, u5, u6]) (hS : CAt w (fun b => b ≠ gm) t (.agg #[a0, a1, a2, a3, a4, a5, a6])) : LB (((((((((w.setCell ⟨gm, 0, none⟩ (.int .i64 4)).setCell ⟨gm, 1, none⟩ (.int .i64 0)).setCell ⟨gm, 2, none⟩ (.int .i64 0)).setCell ⟨gm, 3, none⟩ (.int .i64 0)).setCell ⟨gm, 4, none⟩ (.bool false)).setCell ⟨gm, 5, none⟩ (.slice none 0 0)).setCell ⟨gm, 6, none⟩ (.slice (some ⟨(w.heap.size + 1), 0, none⟩) 2 2)).alloc (.cells #[.int .i64 1, .int .i64 tp, .int .i64 0, .int .i64 0, .bool false, .slice none 0 0, .slice none 0 0] 25)).alloc (.cells #[.int .i64 3, .int .i64 tp, .int .i64 0, .int .i64 0, .bool false, .slice none 0 0, .slice (some ⟨w.heap.size, 0, none⟩) 1 1, a0, a1, a2, a3, a4, a5, a6] 25)) gm #[.int .i64 4, .int .i64 0, .int .i64 0, .int .i64 0, .bool false, .slice none 0 0, .slice (some ⟨(w.heap.size + 1), 0, none⟩) 2 2] (appT tp t) := by
  obtain ⟨W, hW⟩ : ∃ W, W = (set7 w gm (.int .i64 4) (.int .i64 0) (.int .i64 0) (.int .i64 0) (.bool false) (.slice none 0 0) (.slice (some ⟨(w.heap.size + 1), 0, none⟩) 2 2)) := ⟨_, rfl⟩
  have hs : W.heap.size = w.heap.size := by rw [hW]; simp [set7, World.setCell]
  have h1 : Blk W gm 25 #[.int .i64 4, .int .i64 0, .int .i64 0, .int .i64 0, .bool false, .slice none 0 0, .slice (some ⟨(w.heap.size + 1), 0, none⟩) 2 2] := by rw [hW]; exact set7_blk hz
  have h2 : CAt W (fun _ => True) t (.agg #[a0, a1, a2, a3, a4, a5, a6]) := by rw [hW]; exact hS.keep (fun b hb hl => ⟨set7_other hb, trivial⟩)
  show LB (((set7 w gm (.int .i64 4) (.int .i64 0) (.int .i64 0) (.int .i64 0) (.bool false) (.slice none 0 0) (.slice (some ⟨(w.heap.size + 1), 0, none⟩) 2 2)).alloc (.cells #[.int .i64 1, .int .i64 tp, .int .i64 0, .int .i64 0, .bool false, .slice none 0 0, .slice none 0 0] 25)).alloc (.cells #[.int .i64 3, .int .i64 tp, .int .i64 0, .int .i64 0, .bool false, .slice none 0 0, .slice (some ⟨w.heap.size, 0, none⟩) 1 1, a0, a1, a2, a3, a4, a5, a6] 25)) gm #[.int .i64 4, .int .i64 0, .int .i64 0, .int .i64 0, .bool false, .slice none 0 0, .slice (some ⟨(w.heap.size + 1), 0, none⟩) 2 2] (appT tp t)
  rw [← hW]
  refine ⟨(h1.alloc _).alloc _, cat_app (gv := w.heap.size) hx trivial trivial ?_ (Blk.new' (by simp [hs]) _ _) (h2.up (al2 _ _ _))⟩
  have := Blk.new W 25 #[.int .i64 1, .int .i64 tp, .int .i64 0, .int .i64 0, .bool false, .slice none 0 0, .slice none 0 0]
  rw [hs] at this
  exact this.alloc _
theorem set7_keep2 {w : World} {g k : Nat} {t : TypeId} {cs : Array Value} {v0 v1 v2 v3 v4 v5 v6 : Value} (h : Blk w k t cs) (hk : k ≠ g) (o o2 : Obj) : Blk (((((((((w.setCell ⟨g, 0, none⟩ v0).setCell ⟨g, 1, none⟩ v1).setCell ⟨g, 2, none⟩ v2).setCell ⟨g, 3, none⟩ v3).setCell ⟨g, 4, none⟩ v4).setCell ⟨g, 5, none⟩ v5).setCell ⟨g, 6, none⟩ v6).alloc o).alloc o2) k t cs := (set7_keep h hk o).alloc o2
theorem set7_low2 {W w : World} {g : Nat} {v0 v1 v2 v3 v4 v5 v6 : Value} (h : Below W.heap.size W w) (hg : W.heap.size ≤ g) (o o2 : Obj) : Below W.heap.size W (((((((((w.setCell ⟨g, 0, none⟩ v0).setCell ⟨g, 1, none⟩ v1).setCell ⟨g, 2, none⟩ v2).setCell ⟨g, 3, none⟩ v3).setCell ⟨g, 4, none⟩ v4).setCell ⟨g, 5, none⟩ v5).setCell ⟨g, 6, none⟩ v6).alloc o).alloc o2) := (set7_low h hg o).alloc ((set7_low h hg o).size) o2
end Go.Proofs.Ytohdaclbgedeiaa
