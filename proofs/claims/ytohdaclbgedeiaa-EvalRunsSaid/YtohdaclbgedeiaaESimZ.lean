/-
  THE WALK OF eval.machine.simple: all kinds that are simple.
  PLAIN: what an evaluation of a call, a let, a recursive let, a switch is made of. THE LOOP of eval.machine.eval: what holds at a round.
-/
import Derived.Test.YtohdaclbgedeiaaESimE
import Derived.Test.YtohdaclbgedeiaaESimF
import Derived.Test.YtohdaclbgedeiaaESimQ
namespace Go.Proofs.Ytohdaclbgedeiaa
set_option linter.all false
open Go.ChangeShapes Go.WideShapes Go.ChangeAt Go.RowKit
open Ev (Co Va En Out evL ev evS R bnd)
theorem ev_prim {F g : Nat} {x y n : Int} {i : Bool} {ts : List Int} {us : List Co} {e : En} {s : Nat} {ws : List Int} {oo : Out Va} {s2 : Nat} {ws2 : List Int} (h : ev F (g + 1) (.mk 10 x y n i ts us) e s ws = some (oo, s2, ws2)) : ∃ o s1 w1, evL (fun c s w => ev F g c e s w) us s ws = some (o, s1, w1) ∧ primO n s1 w1 o oo s2 ws2 ∧ (∀ vs, o = .ok vs → 1 ≤ n ∧ n ≤ 7) := by
  rw [show ev F (g + 1) = evS F (ev F g) from rfl] at h
  unfold evS at h
  dsimp only at h
  rw [if_neg (by decide), if_neg (by decide), if_neg (by decide), if_neg (by decide), if_neg (by decide), if_neg (by decide), if_neg (by decide), if_neg (by decide), if_neg (by decide), if_pos rfl] at h
  rcases Ev.bnd_some h with ⟨k, h1, rfl⟩ | ⟨vs, s1, w1, h1, h2⟩
  · exact ⟨_, _, _, h1, ⟨rfl, rfl, rfl⟩, fun vs e => by cases e⟩
  · by_cases hn : 1 ≤ n ∧ n ≤ 7
    · rw [if_pos hn] at h2
      exact ⟨_, _, _, h1, h2, fun _ _ => hn⟩
    · rw [if_neg hn] at h2; cases h2
theorem simple_all (P : Nat → Prop) (w : World) (M F g s : Nat) (ws : List Int) (wv : Value) (cp : Addr) (k x y n : Int) (i : Bool) (ts : List Int) (us : List Co) (e : En) (ep : Option Addr) (oo : Out Va) (s2 : Nat) (ws2 : List Int) (hC : EvC F g) (hm : MSt w M F s ws wv) (hc : CPt w (SfT M wv P) cp (.mk k x y n i ts us)) (he : EAt w (SfT M wv P) e ep) (h4 : k ≠ 4) (h5 : k ≠ 5) (h6 : k ≠ 6) (h9 : k ≠ 9) (h : ev F (g + 1) (.mk k x y n i ts us) e s ws = some (oo, s2, ws2)) :
    Calls Try.prog 64 #[.pointer (some ⟨M, 0, none⟩), .pointer (some cp), .pointer ep] w (EvP P oo F s2 ws2 M wv w) := by
  by_cases h7 : k = 7
  · subst h7
    obtain ⟨o, hL, rfl⟩ := ev_con h
    exact simple_con P w M F g s ws wv cp x y n i ts us e ep o s2 ws2 hC hm hc he hL
  by_cases h8 : k = 8
  · subst h8
    obtain ⟨o, s1, w1, hL, hF, hn⟩ := ev_field h
    exact simple_field P w M F g s ws wv cp x y n i ts us e ep o s1 w1 hC hm hc he hL hn oo s2 ws2 (by cases o <;> exact hF)
  by_cases h10 : k = 10
  · subst h10
    obtain ⟨o, s1, w1, hL, hF, hn⟩ := ev_prim h
    exact simple_prim P w M F g s ws wv cp x y n i ts us e ep o s1 w1 hC hm hc he hL hn oo s2 ws2 hF
  by_cases h11 : k = 11
  · subst h11
    obtain ⟨o, s1, w1, hL, hF⟩ := ev_print h
    exact simple_print P w M F g s ws wv cp x y n i ts us e ep o s1 w1 hC hm hc he hL oo s2 ws2 hF
  rw [show ev F (g + 1) = evS F (ev F g) from rfl] at h
  unfold evS at h
  dsimp only at h
  by_cases h1 : k = 1
  · subst h1
    rw [if_pos rfl] at h
    cases us with
    | nil =>
      cases hf : e.find x with
      | none => rw [hf] at h; cases h
      | some v =>
        rw [hf] at h
        injection h with h; injection h with h2 h; injection h with h3 h5
        subst h2 h3 h5
        exact simple_var P w M F s ws wv cp x y n i ts [] e ep v hm hc he hf
    | cons a us => simp at h
  rw [if_neg h1] at h
  by_cases h2 : k = 2
  · subst h2
    rw [if_pos rfl] at h
    cases us with
    | nil =>
      injection h with h; injection h with h2 h; injection h with h3 h5
      subst h2 h3 h5
      exact simple_int P w M F s ws wv cp x y n i ts [] ep hm hc
    | cons a us => simp at h
  rw [if_neg h2] at h
  by_cases h3 : k = 3
  · subst h3
    rw [if_pos rfl] at h
    match us, h with
    | [b], h =>
      injection h with h; injection h with h2 h; injection h with h3 h5
      subst h2 h3 h5
      exact simple_lam P w M F s ws wv cp x y n i ts b e ep hm hc he
    | [], h => cases h
    | _ :: _ :: _, h => cases h
  rw [if_neg h3, if_neg h4, if_neg h5, if_neg h6, if_neg h7, if_neg h8, if_neg h9, if_neg h10, if_neg h11] at h
  cases h
end Go.Proofs.Ytohdaclbgedeiaa
namespace Go.Proofs.Ytohdaclbgedeiaa
set_option linter.all false
open Go.ChangeShapes Go.WideShapes Go.ChangeAt Go.RowKit
open Ev (Co Va En Out evL ev evS app around arm R bnd)
theorem ev_app {F g : Nat} {x y n : Int} {i : Bool} {ts : List Int} {us : List Co} {e : En} {s : Nat} {ws : List Int} {oo : Out Va} {s2 : Nat} {ws2 : List Int} (h : ev F (g + 1) (.mk 4 x y n i ts us) e s ws = some (oo, s2, ws2)) : ∃ a b, us = [a, b] ∧ ((∃ k, ev F g a e s ws = some (.stop k, s2, ws2) ∧ oo = .stop k) ∨ ∃ vf s1 w1, ev F g a e s ws = some (.ok vf, s1, w1) ∧ ((∃ k, ev F g b e s1 w1 = some (.stop k, s2, ws2) ∧ oo = .stop k) ∨ ∃ va s3 w3, ev F g b e s1 w1 = some (.ok va, s3, w3) ∧ app F (ev F g) vf va s3 w3 = some (oo, s2, ws2))) := by
  rw [show ev F (g + 1) = evS F (ev F g) from rfl] at h
  match us, h with
  | [], h => cases h
  | [_], h => cases h
  | _ :: _ :: _ :: _, h => cases h
  | [a, b], h =>
    refine ⟨a, b, rfl, ?_⟩
    have h2 : bnd (ev F g a e s ws) (fun vf s1 w1 => bnd (ev F g b e s1 w1) fun va s2 w2 => app F (ev F g) vf va s2 w2) = some (oo, s2, ws2) := h
    rcases Ev.bnd_some h2 with ⟨k, h1, rfl⟩ | ⟨vf, s1, w1, h1, h3⟩
    · exact .inl ⟨k, h1, rfl⟩
    · rcases Ev.bnd_some h3 with ⟨k, h4, rfl⟩ | ⟨va, s3, w3, h4, h5⟩
      · exact .inr ⟨vf, s1, w1, h1, .inl ⟨k, h4, rfl⟩⟩
      · exact .inr ⟨vf, s1, w1, h1, .inr ⟨va, s3, w3, h4, h5⟩⟩
theorem app_is {F : Nat} {run : Co → En → Nat → List Int → R Va} {vf va : Va} {s : Nat} {ws : List Int} {oo : Out Va} {s2 : Nat} {ws2 : List Int} (h : app F run vf va s ws = some (oo, s2, ws2)) : (s = F ∧ oo = .stop 3 ∧ s2 = s ∧ ws2 = ws) ∨ (s ≠ F ∧ ∃ x self b e, vf = .clo x self b e ∧ run b (.bind x va (around x self b e)) (s + 1) ws = some (oo, s2, ws2)) ∨ (s ≠ F ∧ (∀ x self b e, vf ≠ .clo x self b e) ∧ oo = .stop (-1) ∧ s2 = s + 1 ∧ ws2 = ws) := by
  unfold app at h
  by_cases hs : s = F
  · rw [if_pos hs] at h
    injection h with h; injection h with h2 h; injection h with h3 h5
    exact .inl ⟨hs, h2.symm, h3.symm, h5.symm⟩
  · rw [if_neg hs] at h
    cases vf with
    | clo x self b e => exact .inr (.inl ⟨hs, x, self, b, e, rfl, h⟩)
    | num m =>
      injection h with h; injection h with h2 h; injection h with h3 h5
      exact .inr (.inr ⟨hs, (fun _ _ _ _ e => by cases e), h2.symm, h3.symm, h5.symm⟩)
    | con t us =>
      injection h with h; injection h with h2 h; injection h with h3 h5
      exact .inr (.inr ⟨hs, (fun _ _ _ _ e => by cases e), h2.symm, h3.symm, h5.symm⟩)
theorem ev_let {F g : Nat} {x y n : Int} {i : Bool} {ts : List Int} {us : List Co} {e : En} {s : Nat} {ws : List Int} {oo : Out Va} {s2 : Nat} {ws2 : List Int} (h : ev F (g + 1) (.mk 5 x y n i ts us) e s ws = some (oo, s2, ws2)) : ∃ a b, us = [a, b] ∧ ((∃ k, ev F g a e s ws = some (.stop k, s2, ws2) ∧ oo = .stop k) ∨ ∃ va s1 w1, ev F g a e s ws = some (.ok va, s1, w1) ∧ ev F g b (.bind x va e) s1 w1 = some (oo, s2, ws2)) := by
  rw [show ev F (g + 1) = evS F (ev F g) from rfl] at h
  match us, h with
  | [], h => cases h
  | [_], h => cases h
  | _ :: _ :: _ :: _, h => cases h
  | [a, b], h =>
    refine ⟨a, b, rfl, ?_⟩
    have h2 : bnd (ev F g a e s ws) (fun v s1 w1 => ev F g b (.bind x v e) s1 w1) = some (oo, s2, ws2) := h
    rcases Ev.bnd_some h2 with ⟨k, h1, rfl⟩ | ⟨vf, s1, w1, h1, h3⟩
    · exact .inl ⟨k, h1, rfl⟩
    · exact .inr ⟨vf, s1, w1, h1, h3⟩
theorem ev_rec {F g : Nat} {x y n : Int} {i : Bool} {ts : List Int} {us : List Co} {e : En} {s : Nat} {ws : List Int} {oo : Out Va} {s2 : Nat} {ws2 : List Int} (h : ev F (g + 1) (.mk 6 x y n i ts us) e s ws = some (oo, s2, ws2)) : ∃ a b, us = [a, b] ∧ 0 < x ∧ ev F g b (.bind x (.clo y x a e) e) s ws = some (oo, s2, ws2) := by
  rw [show ev F (g + 1) = evS F (ev F g) from rfl] at h
  match us, h with
  | [], h => cases h
  | [_], h => cases h
  | _ :: _ :: _ :: _, h => cases h
  | [a, b], h =>
    have h2 : (if 0 < x then ev F g b (.bind x (.clo y x a e) e) s ws else none) = some (oo, s2, ws2) := h
    by_cases hx : 0 < x
    · rw [if_pos hx] at h2
      exact ⟨a, b, rfl, hx, h2⟩
    · rw [if_neg hx] at h2; cases h2
theorem ev_sw {F g : Nat} {x y n : Int} {i : Bool} {ts : List Int} {us : List Co} {e : En} {s : Nat} {ws : List Int} {oo : Out Va} {s2 : Nat} {ws2 : List Int} (h : ev F (g + 1) (.mk 9 x y n i ts us) e s ws = some (oo, s2, ws2)) : ∃ a rest, us = a :: rest ∧ ((∃ k, ev F g a e s ws = some (.stop k, s2, ws2) ∧ oo = .stop k) ∨ ∃ va s1 w1, ev F g a e s ws = some (.ok va, s1, w1) ∧ ((∃ c, arm i ts rest va = some c ∧ ev F g c e s1 w1 = some (oo, s2, ws2)) ∨ (arm i ts rest va = none ∧ oo = .stop (-1) ∧ s2 = s1 ∧ ws2 = w1))) := by
  rw [show ev F (g + 1) = evS F (ev F g) from rfl] at h
  match us, h with
  | [], h => cases h
  | a :: rest, h =>
    refine ⟨a, rest, rfl, ?_⟩
    have h2 : bnd (ev F g a e s ws) (fun v s1 w1 => Ev.sw (ev F g) i ts rest e v s1 w1) = some (oo, s2, ws2) := h
    rcases Ev.bnd_some h2 with ⟨k, h1, rfl⟩ | ⟨va, s1, w1, h1, h3⟩
    · exact .inl ⟨k, h1, rfl⟩
    · refine .inr ⟨va, s1, w1, h1, ?_⟩
      unfold Ev.sw at h3
      cases hc : arm i ts rest va with
      | none =>
        rw [hc] at h3
        injection h3 with h; injection h with h2 h; injection h with h3 h5
        exact .inr ⟨rfl, h2.symm, h3.symm, h5.symm⟩
      | some c => rw [hc] at h3; exact .inl ⟨c, rfl, h3⟩
theorem now_now {T : Nat → Prop} {w wr : World} (h : w.heap.size ≤ wr.heap.size) : ∀ k, Now (Now T w) wr k → Now T w k := fun k hk => hk.elim id (fun h2 => .inr (Nat.le_trans h h2))
theorem evP_up {T : Nat → Prop} {o : Out Va} {F s : Nat} {ws : List Int} {M : Nat} {wv wvi : Value} {w wr w' : World} {e : Ending} (hs : MStep M wv wvi w wr) (h : EvP (Now T w) o F s ws M wvi wr e w') : EvP T o F s ws M wv w e w' := by
  obtain ⟨wv', h1, h2, h3⟩ := h
  refine ⟨wv', h1, hs.trans h2, ?_⟩
  cases o with
  | ok u => obtain ⟨v, h4, h5⟩ := h3; exact ⟨v, h4, VAt.keep (fun k hk hl => ⟨rfl, hk.1, now_now hs.size k hk.2⟩) _ _ h5⟩
  | stop k => exact h3
/-- What holds at a round. -/
def EvI (T : Nat → Prop) (w : World) (M F : Nat) (wv : Value) (o : Out Va) (s' : Nat) (ws' : List Int) (g : Nat) (cp : Addr) (ep : Option Addr) (wr : World) : Prop := ∃ (c : Co) (e : En) (si : Nat) (wsi : List Int) (wvi : Value), (MSt wr M F si wsi wvi ∧ MStep M wv wvi w wr) ∧ CPt wr (SfT M wvi (Now T w)) cp c ∧ EAt wr (SfT M wvi (Now T w)) e ep ∧ ev F g c e si wsi = some (o, s', ws')
/-- A value that an evaluation handed back, for the loop. -/
theorem val_now {T : Nat → Prop} {w wr w1 : World} {M : Nat} {wv1 : Value} {u : Va} {v : Value} (h : w.heap.size ≤ wr.heap.size) (hv : VAt w1 (SfT M wv1 (Now (Now T w) wr)) u v) : VAt w1 (SfT M wv1 (Now T w)) u v := VAt.keep (fun k hk hl => ⟨rfl, hk.1, now_now h k hk.2⟩) _ _ hv
theorem add7 (ad : Addr) : (⟨ad.block, ad.off + 7, none⟩ : Addr) = ad.add (1 * 7) := by
  have h := add_seven ad 0 7 (by omega)
  rw [show ad.add (0 * 7) = ad from by unfold Addr.add; simp] at h
  exact h
/-- A let's variable is bound. -/
theorem evI_let {T : Nat → Prop} {w : World} {M F : Nat} {wv wv1 : Value} {o : Out Va} {s' : Nat} {ws' : List Int} {g s1 : Nat} {ws1 : List Int} {bp : Addr} {ep : Option Addr} {b : Co} {e : En} {x : Int} {va : Va} {val : Value} {w1 w2 : World} {q : Nat}
    (hm : MSt w1 M F s1 ws1 wv1) (hs : MStep M wv wv1 w w1) (hb : CPt w1 (SfT M wv1 (Now T w)) bp b) (he : EAt w1 (SfT M wv1 (Now T w)) e ep) (hv : VAt w1 (SfT M wv1 (Now T w)) va val) (hE : ev F g b (.bind x va e) s1 ws1 = some (o, s', ws'))
    (hw : Below w1.heap.size w1 w2) (hq : w1.heap.size ≤ q) (hB : Blk w2 q 109 #[.int .i64 x, val, .pointer ep]) : EvI T w M F wv o s' ws' g bp (some ⟨q, 0, none⟩) w2 := by
  refine ⟨b, .bind x va e, s1, ws1, wv1, ⟨hm.below hw, hs.below hw⟩, hb.up hw, ?_, hE⟩
  rw [EAt]
  exact ⟨q, val, ep, rfl, ⟨hm.sf hq, .inr (Nat.le_trans hs.size hq)⟩, hB, hv.up hw, he.up hw⟩
/-- A recursive function is bound. -/
theorem evI_rec {T : Nat → Prop} {w : World} {M F : Nat} {wv wv1 : Value} {o : Out Va} {s' : Nat} {ws' : List Int} {g s1 : Nat} {ws1 : List Int} {ap bp : Addr} {ep : Option Addr} {a b : Co} {e : En} {x y : Int} {w1 w2 : World} {p q : Nat} (hx : 0 < x)
    (hm : MSt w1 M F s1 ws1 wv1) (hs : MStep M wv wv1 w w1) (ha : CPt w1 (SfT M wv1 (Now T w)) ap a) (hb : CPt w1 (SfT M wv1 (Now T w)) bp b) (he : EAt w1 (SfT M wv1 (Now T w)) e ep) (hE : ev F g b (.bind x (.clo y x a e) e) s1 ws1 = some (o, s', ws'))
    (hw : Below w1.heap.size w1 w2) (hp : w1.heap.size ≤ p) (hq : w1.heap.size ≤ q) (hP : Blk w2 p 107 #[.int .i64 y, .pointer (some ap), .pointer (some ⟨q, 0, none⟩)]) (hB : Blk w2 q 109 #[.int .i64 x, .iface 103 (.pointer (some ⟨p, 0, none⟩)), .pointer ep]) : EvI T w M F wv o s' ws' g bp (some ⟨q, 0, none⟩) w2 := by
  refine ⟨b, .bind x (.clo y x a e) e, s1, ws1, wv1, ⟨hm.below hw, hs.below hw⟩, hb.up hw, ?_, hE⟩
  have hSq : SfT M wv1 (Now T w) q := ⟨hm.sf hq, .inr (Nat.le_trans hs.size hq)⟩
  rw [EAt]
  refine ⟨q, _, ep, rfl, hSq, hB, ?_, he.up hw⟩
  rw [VAt]
  exact ⟨p, ap, some ⟨q, 0, none⟩, rfl, ⟨hm.sf hp, .inr (Nat.le_trans hs.size hp)⟩, hP, ha.up hw, .inr ⟨hx, q, ep, rfl, hSq, hB, he.up hw⟩⟩
/-- A function is called. -/
theorem evI_app {T : Nat → Prop} {w : World} {M F : Nat} {wv wv1 : Value} {o : Out Va} {s' : Nat} {ws' : List Int} {g s1 : Nat} {ws1 : List Int} {bp : Addr} {ep : Option Addr} {b : Co} {e : En} {x self : Int} {va : Va} {val : Value} {w1 w2 : World} {p q : Nat}
    (hf : VAt w1 (SfT M wv1 (Now T w)) (.clo x self b e) (.iface 103 (.pointer (some ⟨p, 0, none⟩)))) (hp : Blk w1 p 107 #[.int .i64 x, .pointer (some bp), .pointer ep])
    (hs : MStep M wv wv1 w w1) (hm2 : MSt w2 M F s1 ws1 wv1) (hs2 : MStep M wv1 wv1 w1 w2) {s0 : Nat} {ws0 : List Int} (hM : MSt w1 M F s0 ws0 wv1) (hv : VAt w1 (SfT M wv1 (Now T w)) va val) (hE : ev F g b (.bind x va (around x self b e)) s1 ws1 = some (o, s', ws'))
    (hq : w1.heap.size ≤ q) (hB : Blk w2 q 109 #[.int .i64 x, val, .pointer ep]) : EvI T w M F wv o s' ws' g bp (some ⟨q, 0, none⟩) w2 := by
  have hf0 := hf
  rw [VAt] at hf
  obtain ⟨p2, bp2, ep2, h1, h2, h3, h4, h5⟩ := hf
  simp only [Value.iface.injEq, Value.pointer.injEq, Option.some.injEq, Addr.mk.injEq, and_true, true_and] at h1
  subst h1
  have h6 := h3.symm.trans hp
  simp only [Option.some.injEq, Obj.cells.injEq, Array.mk.injEq, List.cons.injEq, Value.pointer.injEq, Value.int.injEq, and_true, true_and] at h6
  obtain ⟨rfl, rfl⟩ := h6
  refine ⟨b, _, s1, ws1, wv1, ⟨hm2, hs.trans hs2⟩, h4.keep (fun k hk hl => hs2.keepT k hk hl), ?_, hE⟩
  rw [EAt]
  refine ⟨q, val, ep2, rfl, ⟨hM.sf hq, .inr (Nat.le_trans hs.size hq)⟩, hB, VAt.keep (fun k hk hl => hs2.keepT k hk hl) _ _ hv, ?_⟩
  unfold around
  rcases h5 with ⟨h6, h7⟩ | ⟨h6, q3, ep3, h7, h8, h9, h10⟩
  · rw [if_neg h6]
    exact EAt.keep (fun k hk hl => hs2.keepT k hk hl) _ _ h7
  · rw [if_pos h6, EAt]
    exact ⟨q3, _, ep3, h7, (hs2.keepT q3 h8 h9.lt).2, blk_keep h9 (fun hl => (hs2.keepT q3 h8 hl).1), VAt.keep (fun k hk hl => hs2.keepT k hk hl) _ _ hf0, EAt.keep (fun k hk hl => hs2.keepT k hk hl) _ _ h10⟩
end Go.Proofs.Ytohdaclbgedeiaa
