/-
  THE WALKS OF core.closed (JOINED), core.Closed AND core.Good.
-/
import Derived.Test.YtohdaclbgedeiaaEClosed
import Derived.Test.YtohdaclbgedeiaaETag
namespace Go.Proofs.Ytohdaclbgedeiaa
set_option linter.all false
open Go.ChangeShapes Go.WideShapes Go.ChangeAt Go.RowKit
open Ev (Co nodes nodesL closM closML goodM goodB)
theorem core_closed : ∀ (N : Nat) (t : Co), SizeOf.sizeOf t ≤ N → ∀ (M : Nat), ClosedH [t] M := by
  intro N
  induction N with
  | zero => intro t ht; cases t; simp at ht
  | succ N ih =>
    intro t ht M t' ht' v S w f n B hv hS hm hB hBn hn
    simp only [List.mem_singleton] at ht'
    subst ht'
    obtain ⟨k, x, y, m, b, ts, us⟩ := t'
    obtain ⟨T, tc, A, c, rfl, hI, hc, hrow, hwf⟩ := hv.parts
    rw [nodes] at hBn hn
    by_cases hk : k = 1 ∧ f x = 0
    · obtain ⟨rfl, h0⟩ := hk
      refine (closed_var x y m b T A ts.length tc us.length c w f n M hm hwf h0).mono ?_
      rintro e w' ⟨rfl, hb⟩
      exact ⟨by rw [closM]; simp [h0], (hm.below hb).mono (by omega), below_by hb _⟩
    · exact closed_node k x y m b T A tc ts us c S w f n M B hc.2.2.2 hrow hS hm hB (by omega) (by omega) hwf (fun h1 h0 => hk ⟨h1, h0⟩) (fun t hm' => ih t (by have := co_lt (k := k) (x := x) (y := y) (n := m) (i := b) (ts := ts) hm'; omega) M t (by simp))
theorem below_map {w1 w2 : World} {o : Obj} (hg : (w1.alloc o).grownBy w2 (some w1.heap.size)) : Below w1.heap.size w1 w2 := (al1 w1 o).grown hg (by simp) (fun k hk => by injection hk with hk; omega)
theorem bnd0 : Bnd (fun _ => 0) 0 := fun _ => by constructor <;> simp
theorem z010 : Z01 (fun _ => 0) := fun _ => by constructor <;> simp
set_option maxHeartbeats 4000000 in
set_option maxRecDepth 100000 in
theorem core_Closed (t : Co) (v : Value) (S : Nat → Prop) (w : World) (hv : CAt w S t v) (hn : nodes t ≤ 65536) : Calls Try.prog 45 #[v] w fun e w' => e = .returned (.bool (closM t (fun _ => 0))) ∧ Below w.heap.size w w' := by
  have HV := hid hv.low
  obtain ⟨k, x, y, m, i, T, tl, tc, A, l, c, rfl⟩ := hv.agg
  have hmm := @run_makeMap Try.prog
  clear hv
  go_enter Try.func45, Try.ntmps45
  go_wp2_with (go_at_call 60; go_must (refine (core_closed _ t (Nat.le_refl _) (w.heap.size + 1) t (by simp) _ _ _ (fun _ => 0) 0 0 (HV.out.up (al2 w _ _)) (fun b hb => by omega) (by have := MapI.made (w.alloc (.cells #[.int .i64 k, .int .i64 x, .int .i64 y, .int .i64 m, .bool i, .slice T tl tc, .slice A l c] 25)); simpa using this) bnd0 (by omega) (by omega)).mono ?_); rintro e w1 ⟨rfl, hm1, hg1⟩; have G := hid hg1; clear hm1 hg1)
  go_ret
  exact ⟨rfl, (al2 w _ _).grown G.out (by simp; omega) (fun k hk => by injection hk with hk; omega)⟩
set_option maxHeartbeats 4000000 in
set_option maxRecDepth 100000 in
theorem core_Good (t : Co) (v : Value) (S : Nat → Prop) (w : World) (hv : CAt w S t v) : Calls Try.prog 36 #[v] w fun e w' => e = .returned (.bool (goodB t)) ∧ Below w.heap.size w w' := by
  have HV := hid hv.low
  obtain ⟨k, x, y, m, i, T, tl, tc, A, l, c, rfl⟩ := hv.agg
  have hmm := @run_makeMap Try.prog
  clear hv
  by_cases hn : nodes t ≤ 65536
  · obtain ⟨s, hs⟩ : ∃ s, s = sizeT t := ⟨_, rfl⟩
    have hs2 : s ≤ 65536 := by rw [hs]; unfold sizeT; rw [if_pos hn]; omega
    have HS := hid hs
    have HN := hid hn
    obtain ⟨q, hq⟩ : ∃ q, (goodM t 1 (fun _ => 0)).isSome = q := ⟨_, rfl⟩
    have HQ := hid hq
    have HB := hid (show goodB t = (q && closM t (fun _ => 0)) by unfold goodB; rw [decide_eq_true hn, hq]; simp)
    clear hq hs hn
    cases q
    all_goals
      go_enter Try.func36, Try.ntmps36
      go_wp2_with (first
        | (go_at_call 43; go_must (refine (core_Size t _ (fun b => b < w.heap.size) _ (HV.out.up (al1 w _))).mono ?_); rintro e w1 ⟨e9, b1⟩; go_must (rw [← HS.out] at e9; subst e9; have B1 := hid (below_hop b1 (al1 w _)); have BX := hid ((Blk.new w _ _).below b1 (by simp)); obtain ⟨x0, x1, x2, x3, x4, x5, x6⟩ := BX.out.seven; clear b1))
        | (go_at_call 44; go_must (refine (core_good_at t _ (fun b => b < w.heap.size) _ 1 (fun _ => 0) 0 w1.heap.size (by omega) ((HV.out.up B1.out).up (al1 w1 _)) (fun b hb => by have := B1.out.size; omega) (MapI.made w1) z010 (by have := HN.out; omega)).mono ?_); rintro e w2 ⟨e9, hm2, hg2⟩; go_must (rw [HQ.out] at e9; subst e9; have B2 := hid (below_map hg2); have BX2 := hid (BX.out.below B2.out (by exact BX.out.lt)); obtain ⟨y0, y1, y2, y3, y4, y5, y6⟩ := BX2.out.seven; clear hm2 hg2))
        | (go_at_call 45; go_must (refine (core_Closed t _ (fun b => b < w.heap.size) _ ((HV.out.up B1.out).up B2.out) HN.out).mono ?_); rintro e w3 ⟨rfl, b3⟩))
      all_goals (go_ret; first
        | exact ⟨by rw [HB.out]; rfl, below_hop b3 (below_hop B2.out B1.out)⟩
        | exact ⟨by rw [HB.out]; rfl, below_hop B2.out B1.out⟩)
  · obtain ⟨s, hs⟩ : ∃ s, s = sizeT t := ⟨_, rfl⟩
    have hs2 : ¬ s ≤ 65536 := by rw [hs]; unfold sizeT; rw [if_neg hn]; omega
    have HS := hid hs
    have HB := hid (show goodB t = false by unfold goodB; rw [decide_eq_false hn]; rfl)
    clear hs hn
    go_enter Try.func36, Try.ntmps36
    go_wp2_with (go_at_call 43; go_must (refine (core_Size t _ (fun b => b < w.heap.size) _ (HV.out.up (al1 w _))).mono ?_); rintro e w1 ⟨e9, b1⟩; go_must (rw [← HS.out] at e9; subst e9; have B1 := hid (below_hop b1 (al1 w _)); clear b1))
    go_ret
    exact ⟨by rw [HB.out]; rfl, B1.out⟩
end Go.Proofs.Ytohdaclbgedeiaa
