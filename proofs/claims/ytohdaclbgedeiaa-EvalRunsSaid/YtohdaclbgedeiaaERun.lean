/-
  THE WALKS OF eval.run, Run, Steps.
  THE WALKS OF eval.Run AND eval.Steps.
-/
import Derived.Test.YtohdaclbgedeiaaEWhole
namespace Go.Proofs.Ytohdaclbgedeiaa
set_option linter.all false
open Go.ChangeShapes Go.WideShapes Go.ChangeAt Go.RowKit
open Ev (Co Va En Out goodB whole fin resO RunIs whole_ends)
/-- What a run hands back. -/
def RunV (c : Co) (l : List Int) (fuel : Int) (w : World) (e : Ending) (w' : World) : Prop := ∃ r n A1 c1 A2 c2, RunIs c l fuel r n ∧ e = .returned (.tuple #[.agg #[.int .i64 r.1, .slice A1 r.2.1.length c1, .slice A2 r.2.2.1.length c2], .int .i64 (n : Nat), .int .i64 r.2.2.2]) ∧ OwnI w' w.heap.size (.slice A1 r.2.1.length c1) r.2.1 ∧ OwnI w' w.heap.size (.slice A2 r.2.2.1.length c2) r.2.2.1 ∧ Below w.heap.size w w'
theorem ret_run {R : Ending → World → Prop} {a : Act} {w : World} {g : Nat} {v0 v1 v2 u7 u8 : Value} (h6 : a.tmps.getD 6 undef = .pointer (some ⟨g, 0, none⟩)) (h7 : a.tmps.getD 7 undef = u7) (h8 : a.tmps.getD 8 undef = u8) (hg : Blk w g 31 #[v0, v1, v2]) (hd : a.defers = [])
    (hR : R (.returned (.tuple #[.agg #[v0, v1, v2], u7, u8])) w) : bodyPost Try.prog Try.f25 R .ret a w := by
  have y0 : w.cell? ⟨g, 0, none⟩ = some v0 := hg.cell 0
  have y1 : w.cell? ⟨g, 1, none⟩ = some v1 := hg.cell 1
  have y2 : w.cell? ⟨g, 2, none⟩ = some v2 := hg.cell 2
  rw [Array.getD_eq_getD_getElem?] at h6 h7 h8
  refine bodyPost_ret ?_ hd hR
  simp [results, Try.results25, go_sem, h6, h7, h8, y0, y1, y2]
set_option maxHeartbeats 4000000 in
set_option maxRecDepth 100000 in
theorem run_bad (w : World) (c : Co) (v : Value) (S : Nat → Prop) (l : List Int) (A : Option Addr) (cA : Nat) (fuel : Int) (hv : CAt w S c v) (hg : goodB c = false) : Calls Try.prog 25 #[v, .slice A l.length cA, .int .i64 fuel] w (RunV c l fuel w) := by
  have HV := hid (And.intro hv.low (And.intro hg trivial))
  obtain ⟨k, x, y, m, i, T, tl, tc, A2, l2, c2, rfl⟩ := hv.agg
  clear hv hg
  go_enter Try.func25, Try.ntmps25
  go_wp2_with (go_at_call 36; refine (core_Good c _ (fun b => b < w.heap.size) _ (HV.out.1.up (by go_grown : Below w.heap.size w _))).mono ?_; rw [HV.out.2.1]; rintro e w1 ⟨rfl, b1⟩; have B1 := hid (below_hop b1 (by go_grown : Below w.heap.size w _)); have BR := hid ((Blk.new' (w := w.alloc (.cells #[.int .i64 k, .int .i64 x, .int .i64 y, .int .i64 m, .bool i, .slice T tl tc, .slice A2 l2 c2] 25)) (by simp) 31 #[.int .i64 0, .slice none 0 0, .slice none 0 0] : Blk _ (w.heap.size + 1) _ _).below b1 (by simp)); have BC := hid (((Blk.new w 25 #[.int .i64 k, .int .i64 x, .int .i64 y, .int .i64 m, .bool i, .slice T tl tc, .slice A2 l2 c2]).alloc _).below b1 (by simp; omega)); obtain ⟨o0, o1, o2⟩ := BR.out.three; have f0 := BR.out.frozen 0; have f1 := BR.out.frozen 1; have f2 := BR.out.frozen 2; clear b1)
  have B3 := (((BR.out.set_ 0 (.int .i64 0)).set_ 1 (.slice none 0 0)).set_ 2 (.slice none 0 0))
  refine ret_run rfl rfl rfl (B3 : Blk _ (w.heap.size + 1) _ #[.int .i64 0, .slice none 0 0, .slice none 0 0]) rfl ?_
  exact ⟨(0, [], [], 190), 0, none, 0, none, 0, .inl ⟨HV.out.2.1, rfl, rfl⟩, rfl, OwnI.nil _ _, OwnI.nil _ _, below_set (below_set (below_set B1.out (by omega) _) (by omega) _) (by omega) _⟩
set_option maxHeartbeats 4000000 in
set_option maxRecDepth 100000 in
theorem run_arg (w : World) (c : Co) (v : Value) (S : Nat → Prop) (l : List Int) (A : Option Addr) (cA : Nat) (fuel : Int) (hv : CAt w S c v) (hg : goodB c = true) (hb : 256 < l.length ∨ fuel < 0 ∨ 65536 < fuel) : Calls Try.prog 25 #[v, .slice A l.length cA, .int .i64 fuel] w (RunV c l fuel w) := by
  have HV := hid (And.intro hv.low (And.intro hg hb))
  obtain ⟨k, x, y, m, i, T, tl, tc, A2, l2, c2, rfl⟩ := hv.agg
  clear hv hg
  have H3 : (256 < (l.length : Int)) ∨ ¬ (256 < (l.length : Int)) ∧ (fuel < 0 ∨ 0 ≤ fuel ∧ 65536 < fuel) := by omega
  clear hb
  rcases H3 with h1 | ⟨h1, h2 | ⟨h2, h3⟩⟩
  all_goals
    go_enter Try.func25, Try.ntmps25
    go_wp2_with (go_at_call 36; refine (core_Good c _ (fun b => b < w.heap.size) _ (HV.out.1.up (by go_grown : Below w.heap.size w _))).mono ?_; rw [HV.out.2.1]; rintro e w1 ⟨rfl, b1⟩; have B1 := hid (below_hop b1 (by go_grown : Below w.heap.size w _)); have BR := hid ((Blk.new' (w := w.alloc (.cells #[.int .i64 k, .int .i64 x, .int .i64 y, .int .i64 m, .bool i, .slice T tl tc, .slice A2 l2 c2] 25)) (by simp) 31 #[.int .i64 0, .slice none 0 0, .slice none 0 0] : Blk _ (w.heap.size + 1) _ _).below b1 (by simp)); have BC := hid (((Blk.new w 25 #[.int .i64 k, .int .i64 x, .int .i64 y, .int .i64 m, .bool i, .slice T tl tc, .slice A2 l2 c2]).alloc _).below b1 (by simp; omega)); obtain ⟨o0, o1, o2⟩ := BR.out.three; have f0 := BR.out.frozen 0; have f1 := BR.out.frozen 1; have f2 := BR.out.frozen 2; clear b1)
    have B3 := (((BR.out.set_ 0 (.int .i64 0)).set_ 1 (.slice none 0 0)).set_ 2 (.slice none 0 0))
    refine ret_run rfl rfl rfl (B3 : Blk _ (w.heap.size + 1) _ #[.int .i64 0, .slice none 0 0, .slice none 0 0]) rfl ?_
    exact ⟨(0, [], [], 1), 0, none, 0, none, 0, .inr (.inl ⟨HV.out.2.1, HV.out.2.2, rfl, rfl⟩), rfl, OwnI.nil _ _, OwnI.nil _ _, below_set (below_set (below_set B1.out (by omega) _) (by omega) _) (by omega) _⟩
theorem OwnI.low {w : World} {B B' : Nat} {v : Value} {xs : List Int} (h : OwnI w B v xs) (hB : B' ≤ B) : OwnI w B' v xs := by
  obtain ⟨⟨h1, h2⟩, hw⟩ := h
  refine ⟨⟨h1, ?_⟩, hw⟩
  rcases h2 with h2 | ⟨g, cap, cur, hv, hg, rest⟩
  · exact .inl h2
  · exact .inr ⟨g, cap, cur, hv, Nat.le_trans hB hg, rest⟩
theorem OwnI.drew {w : World} {B : Nat} {v : Value} {xs : List Int} (h : OwnI w B v xs) : OwnI w.drew B v xs := ⟨row_keep h.own (fun _ _ => rfl), h.wf⟩
theorem ms_below {M B0 : Nat} {wv : Value} {w w' : World} (hs : MStep M (.slice none 0 0) wv w w') (hM : B0 ≤ M) (hB : B0 ≤ w.heap.size) : Below B0 w w' := ⟨hs.os, hs.tape, hs.output, hs.size, fun k hk => hs.block k (Nat.lt_of_lt_of_le hk hB) (by omega) (fun e => by simp [Value.ownBlock] at e)⟩
theorem run_mst (F : Nat) (w1 : World) (hF : F ≤ 65536) : MSt (w1.alloc (.cells #[.int .i64 F, .int .i64 0, .slice none 0 0] 70)) w1.heap.size F 0 [] (.slice none 0 0) := ⟨Blk.new _ _ _, OwnI.nil _ _, hF, Nat.zero_le _, by simp⟩
theorem run_cpt {w : World} {g : Nat} {t : TypeId} {S : Nat → Prop} {c : Co} {v0 v1 v2 v3 v4 v5 v6 : Value} (h : Blk w g t #[v0, v1, v2, v3, v4, v5, v6]) (hS : S g) (hc : CAt w S c (.agg #[v0, v1, v2, v3, v4, v5, v6])) : CPt w S ⟨g, 0, none⟩ c := ⟨hS, v0, v1, v2, v3, v4, v5, v6, h.seven, hc⟩
theorem run_res {w1 w3 : World} {g : Nat} {t t2 : TypeId} {cs cs2 : Array Value} {wv : Value} (h : Blk w1 g t cs) (hs : MStep w1.heap.size (.slice none 0 0) wv (w1.alloc (.cells cs2 t2)) w3) : Blk w3 g t cs := (hs.block g (by have := h.lt; simp; omega) (by have := h.lt; omega) (fun e => by simp [Value.ownBlock] at e)).trans (h.alloc _)
set_option maxHeartbeats 4000000 in
set_option maxRecDepth 100000 in
theorem run_ok (w : World) (c : Co) (v : Value) (S S' : Nat → Prop) (l : List Int) (A : Option Addr) (cA : Nat) (F : Nat) (hv : CAt w S c v) (hI : IAt w S' l A cA) (hg : goodB c = true) (hl : l.length ≤ 256) (hF : F ≤ 65536) : Calls Try.prog 25 #[v, .slice A l.length cA, .int .i64 F] w (RunV c l F w) := by
  obtain ⟨g, o, s, ws, hE⟩ := whole_ends hg F l
  have HV := hid (And.intro hv.low (And.intro hg (And.intro hE (And.intro hI (And.intro hl hF)))))
  obtain ⟨k, x, y, m, i, T, tl, tc, A2, l2, c2, rfl⟩ := hv.agg
  have h1 : ¬ (256 < (l.length : Int)) := by omega
  have h2 : ¬ ((F : Int) < 0) := by omega
  have h3 : ¬ (65536 < (F : Int)) := by omega
  obtain ⟨⟨e0, W0, S0, er⟩, hr⟩ : ∃ r, fin (resO o) ws = r := ⟨_, rfl⟩
  have HR := hid hr
  clear hv hg hE hI hl hF hr
  go_enter Try.func25, Try.ntmps25
  go_wp2_with (go_at_call 36; refine (core_Good c _ (fun b => b < w.heap.size) _ (HV.out.1.up (by go_grown : Below w.heap.size w _))).mono ?_; rw [HV.out.2.1]; rintro e w1 ⟨rfl, b1⟩; have B1 := hid (below_hop b1 (by go_grown : Below w.heap.size w _)); have BR := hid ((Blk.new' (w := w.alloc (.cells #[.int .i64 k, .int .i64 x, .int .i64 y, .int .i64 m, .bool i, .slice T tl tc, .slice A2 l2 c2] 25)) (by simp) 31 #[.int .i64 0, .slice none 0 0, .slice none 0 0] : Blk _ (w.heap.size + 1) _ _).below b1 (by simp)); have BC := hid (((Blk.new w 25 #[.int .i64 k, .int .i64 x, .int .i64 y, .int .i64 m, .bool i, .slice T tl tc, .slice A2 l2 c2]).alloc _).below b1 (by simp; omega)); obtain ⟨o0, o1, o2⟩ := BR.out.three; have f0 := BR.out.frozen 0; have f1 := BR.out.frozen 1; have f2 := BR.out.frozen 2; clear b1)
  have BM : Below w.heap.size w (w1.alloc (.cells #[.int .i64 F, .int .i64 0, .slice none 0 0] 70)) := B1.out.alloc B1.out.size _
  have hsz1 := B1.out.size
  have CW := eval_whole (w1.alloc (.cells #[.int .i64 F, .int .i64 0, .slice none 0 0] 70)) w1.heap.size F g s ⟨w.heap.size, 0, none⟩ c l A cA o ws HV.out.2.2.1 (run_mst F w1 HV.out.2.2.2.2.2) (run_cpt (BC.out.alloc _) (by have := BR.out.lt; omega) ((HV.out.1.up BM).mono (fun k hk _ => by omega))) (HV.out.2.2.2.1.keep (fun k hk hl => ⟨BM.block k hl, by omega⟩))
  rw [HR.out] at CW
  refine CW.mono ?_
  clear CW
  rintro e w3 ⟨A1, c1, A3, c3, ws9, wv9, rfl, ho1, ho2, hm3, hs3⟩
  have G3 := hid (And.intro ho1 (And.intro ho2 (And.intro hm3 hs3)))
  have BR3 := hid (run_res BR.out hs3)
  obtain ⟨p0, p1, p2⟩ := BR3.out.three
  have q0 := BR3.out.frozen 0
  have q1 := BR3.out.frozen 1
  have q2 := BR3.out.frozen 2
  have m1 : w3.cell? ⟨w1.heap.size, 1, none⟩ = some (.int .i64 (s : Nat)) := hm3.blk.cell 1
  have hl1 := BR3.out.lt
  have hl2 := hm3.blk.lt
  clear hsz1 ho1 ho2 hm3 hs3 o0 o1 o2 f0 f1 f2
  go_wp2
  have BW := hid (al1 w3 (.cells #[.int .i64 e0, .slice A1 W0.length c1, .slice A3 S0.length c3] 31))
  have BT := hid (Blk.new w3 31 #[.int .i64 e0, .slice A1 W0.length c1, .slice A3 S0.length c3])
  have BR4 := hid (BR3.out.alloc (.cells #[.int .i64 e0, .slice A1 W0.length c1, .slice A3 S0.length c3] 31))
  have BM4 := hid (G3.out.2.2.1.blk.alloc (.cells #[.int .i64 e0, .slice A1 W0.length c1, .slice A3 S0.length c3] 31))
  obtain ⟨W, hW⟩ : ∃ W, (w3.alloc (.cells #[.int .i64 e0, .slice A1 W0.length c1, .slice A3 S0.length c3] 31)) = W := ⟨_, rfl⟩
  obtain ⟨N, hN⟩ : ∃ N, w3.heap.size = N := ⟨_, rfl⟩
  obtain ⟨P, hP⟩ : ∃ P, w1.heap.size = P := ⟨_, rfl⟩
  obtain ⟨B, hB⟩ : ∃ B, w.heap.size + 1 = B := ⟨_, rfl⟩
  have HH := hid (And.intro hW (And.intro hN (And.intro hP hB)))
  have n1 : P ≠ B := by have := BR.out.lt; omega
  have n2 : N ≠ B := by omega
  have n3 : B ≠ P := n1.symm
  have n4 : B ≠ N := n2.symm
  rw [hW] at BW BT BR4 BM4 ⊢
  simp only [hN, hP, hB] at BT BR4 BM4 ⊢
  obtain ⟨x0, x1, x2⟩ := BT.out.three
  obtain ⟨y0, y1, y2⟩ := BR4.out.three
  have z1 : W.cell? ⟨P, 1, none⟩ = some (.int .i64 (s : Nat)) := BM4.out.cell 1
  have k0 := BR4.out.frozen 0
  have k1 := BR4.out.frozen 1
  have k2 := BR4.out.frozen 2
  clear p0 p1 p2 q0 q1 q2 m1 hl1 hl2 hW hN hP hB
  go_region
  go_wp2
  have BF := (((BR4.out.set_ 0 (.int .i64 e0)).set_ 1 (.slice A1 W0.length c1)).set_ 2 (.slice A3 S0.length c3))
  refine ret_run rfl rfl rfl (Blk.drew BF : Blk _ B _ #[.int .i64 e0, .slice A1 W0.length c1, .slice A3 S0.length c3]) rfl ?_
  obtain ⟨hW, hN, hP, hB⟩ := HH.out
  have hlt := BR.out.lt
  have hb3 := (BM.trans (ms_below G3.out.2.2.2 (by omega) BM.size)).trans (BW.out.mono (Nat.le_trans BM.size G3.out.2.2.2.size))
  have own : ∀ v xs, OwnI w3 (w1.heap.size + 1) v xs → OwnI (((W.setCell ⟨B, 0, none⟩ (.int .i64 e0)).setCell ⟨B, 1, none⟩ (.slice A1 W0.length c1)).setCell ⟨B, 2, none⟩ (.slice A3 S0.length c3)).drew w.heap.size v xs := fun v xs h => by
    have h2 : OwnI W (w1.heap.size + 1) v xs := by rw [← hW]; exact h.alloc _
    have hBl : B < w1.heap.size + 1 := by omega
    exact (OwnI.low ((((h2.set_ (a := ⟨B, 0, none⟩) hBl (.int .i64 e0)).set_ (a := ⟨B, 1, none⟩) hBl (.slice A1 W0.length c1)).set_ (a := ⟨B, 2, none⟩) hBl (.slice A3 S0.length c3))) (by omega)).drew
  exact ⟨(e0, W0, S0, er), s, A1, c1, A3, c3, .inr (.inr ⟨HV.out.2.1, HV.out.2.2.2.2.1, h2, h3, g, o, ws, by simpa using HV.out.2.2.1, HR.out.symm⟩), rfl, own _ _ G3.out.1, own _ _ G3.out.2.1, Below.drew (below_set (below_set (below_set hb3 (by omega) _) (by omega) _) (by omega) _)⟩
/-- eval.run. -/
theorem eval_run (w : World) (c : Co) (v : Value) (S S' : Nat → Prop) (l : List Int) (A : Option Addr) (cA : Nat) (fuel : Int) (hv : CAt w S c v) (hI : IAt w S' l A cA) : Calls Try.prog 25 #[v, .slice A l.length cA, .int .i64 fuel] w (RunV c l fuel w) := by
  cases hg : goodB c with
  | false => exact run_bad w c v S l A cA fuel hv hg
  | true =>
    by_cases hb : 256 < l.length ∨ fuel < 0 ∨ 65536 < fuel
    · exact run_arg w c v S l A cA fuel hv hg hb
    · obtain ⟨F, rfl⟩ : ∃ F : Nat, fuel = F := ⟨fuel.toNat, by omega⟩
      exact run_ok w c v S S' l A cA F hv hI hg (by omega) (by omega)
end Go.Proofs.Ytohdaclbgedeiaa
namespace Go.Proofs.Ytohdaclbgedeiaa
set_option linter.all false
open Go.ChangeShapes Go.WideShapes Go.ChangeAt Go.RowKit
open Ev (Co RunIs)
def RunW (c : Co) (l : List Int) (fuel : Int) (w : World) (e : Ending) (w' : World) : Prop := ∃ r n A1 c1 A2 c2, RunIs c l fuel r n ∧ e = .returned (.tuple #[.agg #[.int .i64 r.1, .slice A1 r.2.1.length c1, .slice A2 r.2.2.1.length c2], .int .i64 r.2.2.2]) ∧ OwnI w' w.heap.size (.slice A1 r.2.1.length c1) r.2.1 ∧ OwnI w' w.heap.size (.slice A2 r.2.2.1.length c2) r.2.2.1 ∧ Below w.heap.size w w'
theorem ret_Run {R : Ending → World → Prop} {a : Act} {w : World} {g : Nat} {v0 v1 v2 u7 : Value} (h6 : a.tmps.getD 6 undef = .pointer (some ⟨g, 0, none⟩)) (h7 : a.tmps.getD 7 undef = u7) (hg : Blk w g 31 #[v0, v1, v2]) (hd : a.defers = [])
    (hR : R (.returned (.tuple #[.agg #[v0, v1, v2], u7])) w) : bodyPost Try.prog Try.f10 R .ret a w := by
  have y0 : w.cell? ⟨g, 0, none⟩ = some v0 := hg.cell 0
  have y1 : w.cell? ⟨g, 1, none⟩ = some v1 := hg.cell 1
  have y2 : w.cell? ⟨g, 2, none⟩ = some v2 := hg.cell 2
  rw [Array.getD_eq_getD_getElem?] at h6 h7
  refine bodyPost_ret ?_ hd hR
  simp [results, Try.results10, go_sem, h6, h7, y0, y1, y2]
set_option maxHeartbeats 4000000 in
set_option maxRecDepth 100000 in
theorem eval_Run (w : World) (c : Co) (v : Value) (S S' : Nat → Prop) (l : List Int) (A : Option Addr) (cA : Nat) (fuel : Int) (hv : CAt w S c v) (hI : IAt w S' l A cA) : Calls Try.prog 10 #[v, .slice A l.length cA, .int .i64 fuel] w (RunW c l fuel w) := by
  have HV := hid (And.intro hv.low hI)
  obtain ⟨k, x, y, m, i, T, tl, tc, A2, l2, c2, rfl⟩ := hv.agg
  clear hv hI
  go_enter Try.func10, Try.ntmps10
  go_wp2_with fail
  have BM : Below w.heap.size w ((w.alloc (.cells #[.int .i64 k, .int .i64 x, .int .i64 y, .int .i64 m, .bool i, .slice T tl tc, .slice A2 l2 c2] 25)).alloc (.cells #[.int .i64 0, .slice none 0 0, .slice none 0 0] 31)) := al2 _ _ _
  refine (eval_run _ c _ (fun b => b < w.heap.size) S' l A cA fuel (HV.out.1.up BM) (HV.out.2.keep (fun k hk hl => ⟨BM.block k hl, hk⟩))).mono ?_
  rintro e w3 ⟨r, n, A1, c1, A3, c3, hR, rfl, ho1, ho2, b3⟩
  have HR := hid (And.intro hR (And.intro ho1 (And.intro ho2 (And.intro BM b3))))
  have BR3 := hid ((Blk.new' (w := w.alloc (.cells #[.int .i64 k, .int .i64 x, .int .i64 y, .int .i64 m, .bool i, .slice T tl tc, .slice A2 l2 c2] 25)) (g := w.heap.size + 1) (by simp) 31 #[.int .i64 0, .slice none 0 0, .slice none 0 0]).below b3 (by simp))
  obtain ⟨p0, p1, p2⟩ := BR3.out.three
  have q0 := BR3.out.frozen 0
  have q1 := BR3.out.frozen 1
  have q2 := BR3.out.frozen 2
  have hl1 := BR3.out.lt
  clear hR ho1 ho2 b3 BM
  go_wp2
  have BF := ((((BR3.out.set_ 0 (.int .i64 r.1)).set_ 1 (.slice A1 r.2.1.length c1)).set_ 2 (.slice A3 r.2.2.1.length c3))).alloc (.cells #[.int .i64 r.1, .slice A1 r.2.1.length c1, .slice A3 r.2.2.1.length c3] 31)
  refine ret_Run rfl rfl (BF : Blk _ (w.heap.size + 1) _ #[.int .i64 r.1, .slice A1 r.2.1.length c1, .slice A3 r.2.2.1.length c3]) rfl ?_
  obtain ⟨hR, ho1, ho2, BM, b3⟩ := HR.out
  have own : ∀ v xs, OwnI w3 ((w.alloc (.cells #[.int .i64 k, .int .i64 x, .int .i64 y, .int .i64 m, .bool i, .slice T tl tc, .slice A2 l2 c2] 25)).alloc (.cells #[.int .i64 0, .slice none 0 0, .slice none 0 0] 31)).heap.size v xs → OwnI ((((w3.setCell ⟨w.heap.size + 1, 0, none⟩ (.int .i64 r.1)).setCell ⟨w.heap.size + 1, 1, none⟩ (.slice A1 r.2.1.length c1)).setCell ⟨w.heap.size + 1, 2, none⟩ (.slice A3 r.2.2.1.length c3)).alloc (.cells #[.int .i64 r.1, .slice A1 r.2.1.length c1, .slice A3 r.2.2.1.length c3] 31)) w.heap.size v xs := fun v xs h => by
    have hBl : w.heap.size + 1 < w.heap.size + 1 + 1 := by omega
    have h2 : OwnI w3 (w.heap.size + 1 + 1) v xs := by simpa using h
    exact (OwnI.low ((((h2.set_ (a := ⟨w.heap.size + 1, 0, none⟩) hBl (.int .i64 r.1)).set_ (a := ⟨w.heap.size + 1, 1, none⟩) hBl (.slice A1 r.2.1.length c1)).set_ (a := ⟨w.heap.size + 1, 2, none⟩) hBl (.slice A3 r.2.2.1.length c3))) (by omega)).alloc _
  have hb4 := below_set (i := 2) (below_set (i := 1) (below_set (i := 0) (BM.trans (b3.mono BM.size)) (show w.heap.size ≤ w.heap.size + 1 by omega) (.int .i64 r.1)) (show w.heap.size ≤ w.heap.size + 1 by omega) (.slice A1 r.2.1.length c1)) (show w.heap.size ≤ w.heap.size + 1 by omega) (.slice A3 r.2.2.1.length c3)
  exact ⟨r, n, A1, c1, A3, c3, hR, rfl, own _ _ ho1, own _ _ ho2, hb4.alloc hb4.size _⟩
set_option maxHeartbeats 4000000 in
set_option maxRecDepth 100000 in
theorem eval_Steps (w : World) (c : Co) (v : Value) (S S' : Nat → Prop) (l : List Int) (A : Option Addr) (cA : Nat) (fuel : Int) (hv : CAt w S c v) (hI : IAt w S' l A cA) : Calls Try.prog 20 #[v, .slice A l.length cA, .int .i64 fuel] w (fun e w' => (∃ r n, RunIs c l fuel r n ∧ e = .returned (.int .i64 (n : Nat))) ∧ Below w.heap.size w w') := by
  have HV := hid (And.intro hv.low hI)
  obtain ⟨k, x, y, m, i, T, tl, tc, A2, l2, c2, rfl⟩ := hv.agg
  clear hv hI
  go_enter Try.func20, Try.ntmps20
  go_wp2_with fail
  have BM : Below w.heap.size w (w.alloc (.cells #[.int .i64 k, .int .i64 x, .int .i64 y, .int .i64 m, .bool i, .slice T tl tc, .slice A2 l2 c2] 25)) := al1 _ _
  refine (eval_run _ c _ (fun b => b < w.heap.size) S' l A cA fuel (HV.out.1.up BM) (HV.out.2.keep (fun k hk hl => ⟨BM.block k hl, hk⟩))).mono ?_
  rintro e w3 ⟨r, n, A1, c1, A3, c3, hR, rfl, ho1, ho2, b3⟩
  have HR := hid (And.intro hR (And.intro BM b3))
  clear hR ho1 ho2 b3 BM
  go_wp2
  go_ret
  obtain ⟨hR, BM, b3⟩ := HR.out
  exact ⟨⟨r, n, hR, rfl⟩, (BM.trans (b3.mono BM.size)).alloc (Nat.le_trans BM.size b3.size) _⟩
end Go.Proofs.Ytohdaclbgedeiaa
