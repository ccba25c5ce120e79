/-
  THE WALKS OF core.good$1, AND OF slices.IndexFunc AND ContainsFunc OF EXPRESSIONS WITH IT.
-/
import Derived.Test.YtohdaclbgedeiaaEFormedAll
import Derived.Test.YtohdaclbgedeiaaEMap
import Derived.Test.YtohdaclbgedeiaaEGoodP
namespace Go.Proofs.Ytohdaclbgedeiaa
set_option linter.all false
open Go.ChangeShapes Go.WideShapes Go.ChangeAt Go.RowKit
open Ev (Co nodes nodesL goodM goodML addM updI)

/-- What good tells of an expression; block M: the map of what was bound. -/
def GoodP (t : Co) (d : Int) (f : Int → Int) (k M : Nat) (w : World) (e : Ending) (w' : World) : Prop := e = .returned (.bool (goodM t d f).isSome) ∧ (∀ g, goodM t d f = some g → MapI w' M g (k + 2 * nodes t)) ∧ w.grownBy w' (some M)
def GoodN (t : Co) (d : Int) (f : Int → Int) (k M : Nat) (w : World) (e : Ending) (w' : World) : Prop := e = .returned (.bool (!(goodM t d f).isSome)) ∧ (∀ g, goodM t d f = some g → MapI w' M g (k + 2 * nodes t)) ∧ w.grownBy w' (some M)
def GoodI (us : List Co) (d : Int) (f : Int → Int) (k M : Nat) (w : World) (e : Ending) (w' : World) : Prop := (∃ r : Int, e = .returned (.int .i64 r) ∧ (r < 0 ↔ (goodML us d f).isSome = true)) ∧ (∀ g, goodML us d f = some g → MapI w' M g (k + 2 * nodesL us)) ∧ w.grownBy w' (some M)
def GoodL (us : List Co) (d : Int) (f : Int → Int) (k M : Nat) (w : World) (e : Ending) (w' : World) : Prop := e = .returned (.bool (!(goodML us d f).isSome)) ∧ (∀ g, goodML us d f = some g → MapI w' M g (k + 2 * nodesL us)) ∧ w.grownBy w' (some M)
/-- No number was met twice. -/
def Z01 (f : Int → Int) : Prop := ∀ x, 0 ≤ f x ∧ f x ≤ 1
theorem Z01.add : ∀ {l : List Int} {f g : Int → Int}, Z01 f → addM l f = some g → Z01 g
  | [], f, g, h, e => by rw [addM] at e; injection e with e; subst e; exact h
  | x :: l, f, g, h, e => by
    rw [addM] at e
    by_cases h1 : 1 < f x + 1 ∨ x < 1 ∨ 65536 < x
    · rw [if_pos h1] at e; cases e
    · rw [if_neg h1] at e
      refine Z01.add (f := updI f x (f x + 1)) (fun y => ?_) e
      unfold updI
      have := h x
      split
      · omega
      · exact h y
mutual
theorem Z01.good : ∀ {t : Co} {d : Int} {f g : Int → Int}, Z01 f → goodM t d f = some g → Z01 g
  | .mk k x y n i ts us, d, f, g, h, e => by
    rw [goodM] at e
    by_cases h1 : 1024 < d ∨ Ev.formB k x y n i ts us.length = false
    · rw [if_pos h1] at e; cases e
    · rw [if_neg h1] at e
      cases h2 : addM (Ev.bindL k x y) f with
      | none => rw [h2] at e; cases e
      | some g2 => rw [h2] at e; exact Z01.goodL (h.add h2) e
theorem Z01.goodL : ∀ {us : List Co} {d : Int} {f g : Int → Int}, Z01 f → goodML us d f = some g → Z01 g
  | [], d, f, g, h, e => by rw [goodML] at e; injection e with e; subst e; exact h
  | t :: us, d, f, g, h, e => by
    rw [goodML] at e
    cases h2 : goodM t d f with
    | none => rw [h2] at e; cases e
    | some g2 => rw [h2] at e; exact Z01.goodL (Z01.good h h2) e
end
/-- A row of expressions that good reads. -/
def GoodH (us : List Co) (d : Int) (M : Nat) : Prop := ∀ t ∈ us, ∀ (v : Value) (S : Nat → Prop) (w : World) (f : Int → Int) (k : Nat), CAt w S t v → (∀ b, S b → b ≠ M) → MapI w M f k → Z01 f → k + 2 * nodes t ≤ 17592186044416 → Calls Try.prog 44 #[v, .int .i64 d, .map (some M)] w (GoodP t d f k M w)
theorem map_blk_ne {w : World} {M k g : Nat} {f : Int → Int} {t : TypeId} {cs : Array Value} (h : MapI w M f k) (hb : Blk w g t cs) : g ≠ M := by
  rintro rfl
  obtain ⟨D, ⟨es, cl, h1, _⟩, _⟩ := h
  unfold Blk at hb
  rw [hb] at h1
  cases h1
theorem not_isSome {α : Type} {o : Option α} {q : Bool} (h : o.isSome = q) : (!o.isSome) = !q := by rw [h]
set_option maxHeartbeats 8000000 in
set_option maxRecDepth 100000 in
theorem good_fn (t : Co) (v : Value) (S : Nat → Prop) (w : World) (d : Int) (f : Int → Int) (k M pd pm : Nat) (hd : 0 ≤ d ∧ d ≤ 17592186044416) (hv : CAt w S t v) (hS : ∀ b, S b → b ≠ M) (hm : MapI w M f k) (hz : Z01 f) (hk : k + 2 * nodes t ≤ 17592186044416) (hpd : Blk w pd 3 #[.int .i64 d]) (hpm : Blk w pm 76 #[.map (some M)])
    (H : GoodH [t] (d + 1) M) :
    Calls Try.prog 59 #[v, .pointer (some ⟨pd, 0, none⟩), .pointer (some ⟨pm, 0, none⟩)] w (GoodN t (d + 1) f k M w) := by
  obtain ⟨k9, x9, y9, n9, i9, T9, tl9, tc9, A9, m9, c9, rfl⟩ := hv.agg
  have q1 : IntKind.i64.wrap (d + 1) = d + 1 := IntWalk.i64_in _ (by omega)
  have C := hid (H t (by simp) _ S (w.alloc (.cells #[.int .i64 k9, .int .i64 x9, .int .i64 y9, .int .i64 n9, .bool i9, .slice T9 tl9 tc9, .slice A9 m9 c9] 25)) f k (hv.up (al1 _ _)) hS (hm.below (al1 _ _)) hz hk)
  have x0 : ∀ o, (w.alloc o).cell? ⟨pd, 0, none⟩ = some (.int .i64 d) := fun o => (hpd.alloc o).cell 0
  have z0 : ∀ o, (w.alloc o).cell? ⟨pm, 0, none⟩ = some (.map (some M)) := fun o => (hpm.alloc o).cell 0
  obtain ⟨q, hq⟩ : ∃ q, (goodM t (d + 1) f).isSome = q := ⟨_, rfl⟩
  have HQ := hid hq
  clear hv hS hm hz hk hpd hpm H hq
  cases q
  all_goals
    go_enter Try.func59, Try.ntmps59
    go_wp2_with (go_at_call 44; go_must (refine C.out.mono ?_); rintro e w1 ⟨e9, hG⟩; go_must (rw [HQ.out] at e9; subst e9; have G := hid hG; clear hG))
    go_ret
    exact ⟨by rw [not_isSome HQ.out]; rfl, G.out.1, (World.grownBy_alloc _ _ _).trans G.out.2⟩
set_option maxHeartbeats 8000000 in
set_option maxRecDepth 100000 in
theorem good_index (us : List Co) (A : Option Addr) (c : Nat) (S : Nat → Prop) (w : World) (d : Int) (f : Int → Int) (k M pd pm : Nat) (hd : 0 ≤ d ∧ d ≤ 17592186044416) (hul : us.length ≤ 17592186044416) (hrow : CRow w S us A 0) (hS : ∀ b, S b → b ≠ M) (hm : MapI w M f k) (hz : Z01 f) (hk : k + 2 * nodesL us ≤ 17592186044416) (hpd : Blk w pd 3 #[.int .i64 d]) (hpm : Blk w pm 76 #[.map (some M)])
    (H : GoodH us (d + 1) M) :
    Calls Try.prog 68 #[.slice A us.length c, .func (.func 59) #[] #[.pointer (some ⟨pd, 0, none⟩), .pointer (some ⟨pm, 0, none⟩)]] w (GoodI us (d + 1) f k M w) := by
  have Q := hid (And.intro hrow (And.intro hS (And.intro H (And.intro hpd hpm))))
  have HM := hid (And.intro hm (And.intro hk hz))
  have HD := hid hd
  clear hrow hS H hpd hpm hm hk hz hd
  go_enter Try.func68, Try.ntmps68
  go_wp2
  go_loopg [8] us.length (fun gg x wr => ∃ (i : Nat) (g : Int → Int) (k2 : Nat), i + gg = us.length ∧ x = .int .i64 i ∧ Hid (MapI wr M g k2 ∧ k2 + 2 * nodesL (us.drop i) = k + 2 * nodesL us ∧ Z01 g) ∧ Hid (goodML us (d + 1) f = goodML (us.drop i) (d + 1) g) ∧ Hid (w.grownBy wr (some M)))
  case atStart => exact ⟨0, f, k, by omega, rfl, hid ⟨HM.out.1, rfl, HM.out.2.2⟩, hid rfl, hid (World.grownBy.refl _ _)⟩
  case round =>
    obtain ⟨i, g, k2, hi, rfl, hM, hE, hG⟩ := hrel
    have Hi := hid hi
    by_cases hlt : i < us.length
    case neg =>
      obtain rfl : i = us.length := by omega
      clear hi
      go_wp2
      go_ret
      refine ⟨⟨-1, rfl, by rw [hE.out, List.drop_length, goodML]; simp⟩, fun g9 h9 => ?_, hG.out⟩
      rw [hE.out, List.drop_length, goodML] at h9
      injection h9 with h9
      subst h9
      have := hM.out.2.1
      rw [List.drop_length, nodesL] at this
      exact hM.out.1.mono (by omega)
    have hlt' : (i : Int) < us.length := by omega
    have hkeep : ∀ b, S b → b < w.heap.size → wr.heap[b]? = w.heap[b]? ∧ S b := fun b hb hl => ⟨hG.out.block b hl (fun e => Q.out.2.1 b hb (by injection e)), hb⟩
    obtain ⟨ad, k9, x9, y9, n9, i9, T9, tl9, tc9, A9, m9, c9, rfl, hSb, hab, ⟨y0, y1, y2, y3, y4, y5, y6⟩, hel⟩ := (CRow.keep hkeep _ _ _ Q.out.1).elem hlt
    have hdr : us.drop i = us[i] :: us.drop (i + 1) := List.drop_eq_getElem_cons hlt
    have hkk := hM.out.2.1
    rw [hdr, nodesL] at hkk
    have hkl := HM.out.2.1
    have hE2 := hE.out
    rw [hdr, goodML] at hE2
    have C := hid (good_fn us[i] _ S wr d g k2 M pd pm HD.out hel Q.out.2.1 hM.out.1 hM.out.2.2 (by omega) (Q.out.2.2.2.1.grown hG.out (fun e => (map_blk_ne HM.out.1 Q.out.2.2.2.1) (by injection e))) (Q.out.2.2.2.2.grown hG.out (fun e => (map_blk_ne HM.out.1 Q.out.2.2.2.2) (by injection e))) (fun t ht => by simp at ht; subst ht; exact Q.out.2.2.1 _ (List.getElem_mem hlt)))
    have HE := hid hE2
    have HKK := hid hkk
    clear hi hel hSb hab hkeep hdr hE2 hkk hkl
    cases hq : goodM us[i] (d + 1) g with
    | none =>
      have HQ := hid hq
      have HB := hid (show (!(goodM us[i] (d + 1) g).isSome) = true by rw [hq]; rfl)
      clear hq
      go_wp2_with (go_at_call 59; go_must (refine C.out.mono ?_); rintro e w1 ⟨e9, hG9⟩; go_must (rw [HB.out] at e9; subst e9; have G := hid hG9; clear hG9))
      go_ret
      have e5 : goodML us (d + 1) f = none := by rw [HE.out, HQ.out]
      exact ⟨⟨i, rfl, by rw [e5]; simp⟩, fun g9 h9 => (by rw [e5] at h9; cases h9), hG.out.trans G.out.2⟩
    | some g9 =>
      have HQ := hid hq
      have HB := hid (show (!(goodM us[i] (d + 1) g).isSome) = false by rw [hq]; rfl)
      clear hq
      go_wp2_with (go_at_call 59; go_must (refine C.out.mono ?_); rintro e w1 ⟨e9, hG9⟩; go_must (rw [HB.out] at e9; subst e9; have G := hid hG9; clear hG9))
      have hgk := Hi.out
      go_roundg (gk - 1)
      case rel => exact ⟨i + 1, g9, k2 + 2 * nodes us[i], by omega, by go_num, hid ⟨G.out.1 g9 HQ.out, by have := HKK.out; omega, hM.out.2.2.good HQ.out⟩, hid (by rw [HE.out, HQ.out]), hid (hG.out.trans G.out.2)⟩
      case measure => omega
set_option maxHeartbeats 8000000 in
set_option maxRecDepth 100000 in
theorem good_has (us : List Co) (A : Option Addr) (c : Nat) (S : Nat → Prop) (w : World) (d : Int) (f : Int → Int) (k M pd pm : Nat) (hd : 0 ≤ d ∧ d ≤ 17592186044416) (hul : us.length ≤ 17592186044416) (hrow : CRow w S us A 0) (hS : ∀ b, S b → b ≠ M) (hm : MapI w M f k) (hz : Z01 f) (hk : k + 2 * nodesL us ≤ 17592186044416) (hpd : Blk w pd 3 #[.int .i64 d]) (hpm : Blk w pm 76 #[.map (some M)])
    (H : GoodH us (d + 1) M) :
    Calls Try.prog 58 #[.slice A us.length c, .func (.func 59) #[] #[.pointer (some ⟨pd, 0, none⟩), .pointer (some ⟨pm, 0, none⟩)]] w (GoodL us (d + 1) f k M w) := by
  have C := hid (good_index us A c S w d f k M pd pm hd hul hrow hS hm hz hk hpd hpm H)
  obtain ⟨q, hq⟩ : ∃ q, (goodML us (d + 1) f).isSome = q := ⟨_, rfl⟩
  have HQ := hid hq
  clear hd hul hrow hS hm hz hk hpd hpm H hq
  cases q
  · go_enter Try.func58, Try.ntmps58
    go_wp2_with (go_at_call 68; go_must (refine C.out.mono ?_); rintro e w1 ⟨⟨r, rfl, hr⟩, hG9⟩; go_must (rw [HQ.out] at hr; have hr2 : 0 ≤ r := by (have : ¬ r < 0 := fun h => Bool.noConfusion (hr.1 h)); omega); have G := hid hG9; clear hG9 hr)
    go_ret
    exact ⟨by rw [not_isSome HQ.out]; rfl, G.out⟩
  · go_enter Try.func58, Try.ntmps58
    go_wp2_with (go_at_call 68; go_must (refine C.out.mono ?_); rintro e w1 ⟨⟨r, rfl, hr⟩, hG9⟩; go_must (rw [HQ.out] at hr; have hr2 : ¬ 0 ≤ r := by (have := hr.2 rfl); omega); have G := hid hG9; clear hG9 hr)
    go_ret
    exact ⟨by rw [not_isSome HQ.out]; show Ending.returned (.bool (decide (0 ≤ r))) = _; rw [decide_eq_false (show ¬ 0 ≤ r by omega)]; rfl, G.out⟩
end Go.Proofs.Ytohdaclbgedeiaa
