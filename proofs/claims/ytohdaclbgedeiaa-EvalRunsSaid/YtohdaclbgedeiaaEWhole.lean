/-
  THE WALK OF eval.machine.whole.
-/
import Derived.Test.YtohdaclbgedeiaaEWholeP
import Derived.Laws.EntriesVeiled
import Derived.BigQuiet
import Derived.Deep.RegionHeld3
import Derived.Test.YtohdaclbgedeiaaESimE
namespace Go.Proofs.Ytohdaclbgedeiaa
set_option linter.all false
open Go.ChangeShapes Go.WideShapes Go.ChangeAt Go.RowKit Go.Shelf
open Ev (Co Va En Out evL ev R bnd app around inputV fin resO showV)
attribute [local go_sem] Oper.semAt_some
theorem leavesM_res {F : Fence} {n : Nat} {P : Program} {fn : Func} {t t' : Array Value} {R : Ending → World → Prop} (hr : results fn t = results fn t') : ∀ (ds : List Deferred) (u : FrameMode) (w : World), LeavesInM F n P fn t R ds u w → LeavesInM F n P fn t' R ds u w
  | [], .returning, w, ⟨v, h1, h2⟩ => ⟨v, hr ▸ h1, h2⟩
  | [], .panicking c, w, h => h
  | [], .run, w, h => h
  | d :: ds, u, w, ⟨h0, h⟩ => ⟨h0, h.imp (fun ⟨r, w', a, b, c⟩ => ⟨r, w', a, b, leavesM_res hr ds u w' c⟩) (fun ⟨a, fv, cap, f, args, b, c, d, e⟩ => ⟨a, fv, cap, f, args, b, c, d, e.mono (fun e u' w' h => match e, h with
    | .returned _, h => leavesM_res hr ds _ w' h
    | .panicked _, h => leavesM_res hr ds _ w' h
    | .outgrown, h => h)⟩)⟩
theorem whole_res (t : Array Value) (d : Nat) (v : Value) (h6 : d ≠ 6) (h7 : d ≠ 7) : results Try.f37 (t.setIfInBounds d v) = results Try.f37 t := by
  have e : ∀ j, d ≠ j → (t.setIfInBounds d v)[j]? = t[j]? := fun j h => Array.getElem?_setIfInBounds_ne h
  simp [results, Try.results37, Array.getD_eq_getD_getElem?, e 6 h6, e 7 h7]
theorem whole_put {d : Nat} {v : Value} {a : Act} {R : Ending → World → Prop} {u : FrameMode} {w : World} (h6 : d ≠ 6) (h7 : d ≠ 7) (h : LeavesInM Fence.wide 5 Try.prog Try.f37 (a.put (some d) v).tmps R (a.put (some d) v).defers u w) : LeavesInM Fence.wide 5 Try.prog Try.f37 a.tmps R a.defers u w := leavesM_res (whole_res a.tmps d v h6 h7) _ _ _ h
theorem meth_con (p : Option Addr) (w : World) : (method 238 79 (.pointer p) "athanor/eval.shows").run Try.prog w = .ok (91, .pointer p) w := by kernel_rfl
theorem meth_num (n : Int) (w : World) : (method 238 86 (.int .i64 n) "athanor/eval.shows").run Try.prog w = .ok (93, .int .i64 n) w := by kernel_rfl
theorem meth_fun (p : Option Addr) (w : World) : (method 238 103 (.pointer p) "athanor/eval.shows").run Try.prog w = .ok (94, .pointer p) w := by kernel_rfl
theorem whole_cells {g1 g2 : Nat} {e0 er : Int} {v : Value} {w w' : World} (h : Caught g1 g2 e0 v er w w') : w'.cell? ⟨g1, 0, none⟩ = some (.int .i64 e0) ∧ w'.cell? ⟨g1, 1, none⟩ = some v ∧ w'.cell? ⟨g1, 2, none⟩ = some (.slice none 0 0) ∧ w'.cell? ⟨g2, 0, none⟩ = some (.int .i64 er) := ⟨h.res.cell 0, h.res.cell 1, h.res.cell 2, h.err.cell0⟩
theorem whole_stopped (k : Int) {M F s : Nat} {ws : List Int} {A9 : Option Addr} {c9 : Nat} {w w' : World} (h : MSt w' M F s ws (.slice A9 ws.length c9) ∧ MStep M (.slice none 0 0) (.slice A9 ws.length c9) w w') :
    WholeP F s (fin (.stop k) ws) M w (.returned (.tuple #[.agg #[.int .i64 (if k < 0 then 0 else k), (if k < 0 then .slice none 0 0 else .slice A9 ws.length c9), .slice none 0 0], .int .i64 (if k < 0 then 190 else 0)])) w' := by
  rw [fin]
  by_cases hk : k < 0
  · simp only [if_pos hk]
    exact ⟨none, 0, none, 0, ws, _, rfl, OwnI.nil _ _, OwnI.nil _ _, h.1, h.2⟩
  · simp only [if_neg hk]
    exact ⟨A9, c9, none, 0, ws, _, rfl, h.1.own, OwnI.nil _ _, h.1, h.2⟩
/-- The world in which the loop begins. -/
def W6 (w : World) (M : Nat) (A : Option Addr) (n cA : Nat) : World :=
  ((((((w.alloc (.cells #[.pointer (some ⟨M, 0, none⟩)] 68)).alloc (.cells #[.int .i64 0, .slice none 0 0, .slice none 0 0] 31)).alloc (.cells #[.int .i64 0] 32)).alloc (.cells #[.int .i64 0, .slice none 0 0] 82)).alloc (.cells #[.pointer (some ⟨w.heap.size + 1 + 1 + 1, 0, none⟩)] 79)).alloc (.cells #[.slice A n cA] 22))
/-- What lies there. -/
structure Q6 (w : World) (M : Nat) (A : Option Addr) (n cA : Nat) (W : World) : Prop where
  size : W.heap.size = w.heap.size + 6
  below : Below w.heap.size w W
  b0 : Blk W w.heap.size 68 #[.pointer (some ⟨M, 0, none⟩)]
  b1 : Blk W (w.heap.size + 1) 31 #[.int .i64 0, .slice none 0 0, .slice none 0 0]
  b2 : Blk W (w.heap.size + 1 + 1) 32 #[.int .i64 0]
  b3 : Blk W (w.heap.size + 1 + 1 + 1) 82 #[.int .i64 0, .slice none 0 0]
  b4 : Blk W (w.heap.size + 1 + 1 + 1 + 1) 79 #[.pointer (some ⟨w.heap.size + 1 + 1 + 1, 0, none⟩)]
  b5 : Blk W (w.heap.size + 1 + 1 + 1 + 1 + 1) 22 #[.slice A n cA]
theorem w6_is (w : World) (M : Nat) (A : Option Addr) (n cA : Nat) : Q6 w M A n cA (W6 w M A n cA) := by
  unfold W6
  refine ⟨by simp, by go_grown, ?_, ?_, ?_, ?_, ?_, ?_⟩
  · exact (((((Blk.new' (by simp) _ _).alloc _).alloc _).alloc _).alloc _).alloc _
  · exact ((((Blk.new' (by simp) _ _).alloc _).alloc _).alloc _).alloc _
  · exact (((Blk.new' (by simp) _ _).alloc _).alloc _).alloc _
  · exact ((Blk.new' (by simp) _ _).alloc _).alloc _
  · exact (Blk.new' (by simp) _ _).alloc _
  · exact Blk.new' (by simp) _ _
set_option maxHeartbeats 8000000 in
set_option maxRecDepth 100000 in
theorem eval_whole (w : World) (M F g s : Nat) (cp : Addr) (c : Co) (l : List Int) (A : Option Addr) (cA : Nat) (o : Out Va) (ws : List Int) (hE : Ev.whole F g c l = some (o, s, ws)) (hm : MSt w M F 0 [] (.slice none 0 0)) (hc : CPt w (fun b => b ≠ M) cp c) (hI : IAt w (fun b => b ≠ M) l A cA) :
    Calls Try.prog 37 #[.pointer (some ⟨M, 0, none⟩), .pointer (some cp), .slice A l.length cA] w (WholeP F s (fin (resO o) ws) M w) := by
  have H := hid (And.intro hE (And.intro hm (And.intro hc hI)))
  clear hE hm hc hI
  (refine callsIn_wide (n := 5) |>.1 ?_; refine callsIn_of_wp_marks Try.func37 rfl trivial ?_ rfl; simp only [Try.ntmps37, List.size_toArray, List.length_cons, List.length_nil, Nat.reduceAdd, Nat.reduceSub, Array.replicate_succ, Array.replicate_zero, List.push_toArray, List.append_toArray, List.nil_append, List.cons_append])
  gi_wp2_with (refine ⟨trivial, ?_⟩; gi_at_call 47; go_must (refine (callsIn_wide.2 (back_new _ _ _ _)).mono ?_); rintro e w2 ⟨rfl, rfl⟩)
  refine (?_ : Code.wpIn _ _ _ _ _ _ (W6 w M A l.length cA))
  have Q := hid (w6_is w M A l.length cA)
  generalize hWW : W6 w M A l.length cA = WW at Q ⊢
  clear hWW
  have hMl := H.out.2.1.blk.lt
  refine wpIn_rangeFunc_ownG (P := Try.prog) (w := WW) rfl (by omega) (gf := 61) (lb := #[.pointer (some ⟨w.heap.size + 1 + 1 + 1 + 1 + 1, 0, none⟩)]) rfl trivial (enters_of Try.func61 (by kernel_rfl) rfl)
    (encs := fun x : Int × Int => #[.int .i64 x.1, .int .i64 x.2]) (Kp := KpZ WW.heap.size (w.heap.size + 1 + 1 + 1 + 1)) (S := fun ys => ys.map Prod.snd = l.reverse) (Sp := fun _ => True) (N := l.length) (w0 := WW) ?seq KpZ.t (fun W l o o' hl ho hc hw g h1 h2 => World.putObj_heap_other (by omega)) (Below.refl _ _) (fun _ => rfl)
    (LI w WW (w.heap.size + 1 + 1 + 1 + 1)) (fun _ _ _ => False) (LI.own _ _ _ Q.out.b4.lt Q.out.below.size) (fun _ _ _ _ _ h => h.elim) ?h0
    (fun x => { tmps := #[.pointer (some ⟨M, 0, none⟩), .pointer (some cp), .slice A l.length cA, .pointer (some ⟨w.heap.size, 0, none⟩), undef, undef, .pointer (some ⟨w.heap.size + 1, 0, none⟩), .pointer (some ⟨w.heap.size + 1 + 1, 0, none⟩), .pointer (some ⟨w.heap.size + 1 + 1 + 1 + 1, 0, none⟩), undef, .int .i64 x.2, undef, undef, undef, .func (.func 46) #[] #[.pointer (some ⟨w.heap.size, 0, none⟩), .pointer (some ⟨w.heap.size + 1, 0, none⟩), .pointer (some ⟨w.heap.size + 1 + 1, 0, none⟩)], .agg #[.int .i64 0, .slice none 0 0], .pointer (some ⟨w.heap.size + 1 + 1 + 1, 0, none⟩), .slice A l.length cA, .func (.func 61) #[] #[.pointer (some ⟨w.heap.size + 1 + 1 + 1 + 1 + 1, 0, none⟩)], .int .i64 x.1, .int .i64 x.2, undef, undef, undef, undef, undef, undef, undef, undef, undef, undef, undef, undef, undef, undef, undef, undef, undef, undef, undef, undef, undef, undef, undef, undef, undef, undef, undef, undef, undef], defers := [] }) ?assign ?body ?done ?stop
  case seq =>
    intro lp J Jx W hW hJ hJx hY hJ0
    have h5 := Q.out.b5
    refine back1_in _ (by omega) lp _ WW.heap.size (w.heap.size + 1 + 1 + 1 + 1) A cA l J Jx hY W (hW.cell h5.lt |>.trans h5.cell0) h5.lt (by omega) ?_ hJ0
    refine H.out.2.2.2.keep (fun k hk hl => ?_)
    have := Q.out.size
    exact ⟨(hW.block k (by omega)).trans (Q.out.below.block k hl), by omega, by omega⟩
  case h0 =>
    refine ⟨⟨w.heap.size + 1 + 1 + 1, Q.out.b4, ?_⟩, fun _ _ _ => rfl, Q.out.below, Nat.le_refl _⟩
    show VAt _ _ (inputV []) _
    rw [inputV, VAt]
    exact ⟨⟨_, none, 0, rfl, ⟨by omega, by omega, cells_is Q.out.b3⟩, Q.out.b3, by rw [VRow]; trivial⟩, by decide, by simp⟩
  case assign =>
    intro lp x W K hK
    gi_wp2
    exact hK
  case body =>
    intro lp pre x W hI hpre
    obtain ⟨p, hp, hv⟩ := hI.val
    have c4 := hp.cell0
    have f4 := hp.frozen 0
    have hzl := hp.lt
    have z1 : ∀ o o2, ((W.drew.alloc o).alloc o2).cell? ⟨w.heap.size + 1 + 1 + 1 + 1, 0, none⟩ = some (.pointer (some ⟨p, 0, none⟩)) := fun o o2 => ((hp.alloc o).alloc o2).cell0
    have z2 : ∀ o o2, ((W.alloc o).alloc o2).cell? ⟨w.heap.size + 1 + 1 + 1 + 1, 0, none⟩ = some (.pointer (some ⟨p, 0, none⟩)) := fun o o2 => ((hp.alloc o).alloc o2).cell0
    have z3 : ∀ o o2, ((W.drew.alloc o).alloc o2).frozen? ⟨w.heap.size + 1 + 1 + 1 + 1, 0, none⟩ = false := fun o o2 => ((hp.alloc o).alloc o2).frozen 0
    have z4 : ∀ o o2, ((W.alloc o).alloc o2).frozen? ⟨w.heap.size + 1 + 1 + 1 + 1, 0, none⟩ = false := fun o o2 => ((hp.alloc o).alloc o2).frozen 0
    have hIh := hid (And.intro hI hp)
    have h1 : 1 ≤ (5 : Nat) - 1 - 1 := by omega
    clear hI hp hv hpre
    gi_wp2
    have hmx : Try.prog.follows .mixedOrders = true := by kernel_rfl
    gi_region_with_o (refine ⟨(trivial : Fence.wide.fn 48), ?_⟩; refine (CallsIn.inRound lp (callsIn_wide.2 (ints_Wrap _ _))).mono ?_; rintro e w3 ⟨rfl, rfl⟩)
    all_goals gi_wp2
    all_goals
      have N := LI.next (x := x) hIh.out.1 Q.out.b4.lt (by omega) hIh.out.2 _ rfl
      exact ⟨N.1.trans ((KeepsOthers.drew _).from _), N.2.1, LI.own _ _ _ Q.out.b4.lt Q.out.below.size _ _ _ none N.2.2 ⟨rfl, rfl, rfl, Nat.le_refl _, fun _ _ _ => rfl⟩ (fun r e => by cases e)⟩
  case stop =>
    rintro D c9 pre W hD _ h _
    exact h.elim
  case done =>
    intro D ys W hD hS hI hDef
    obtain ⟨p, hp, hv⟩ := hI.val
    have hQs := Q.out.size
    rw [hS, List.reverse_reverse] at hv
    have hsz := hI.size
    have hm9 := H.out.2.1.below hI.below
    have hkp : ∀ g, g < w.heap.size + 6 → g ≠ w.heap.size + 1 + 1 + 1 + 1 → W.heap[g]? = WW.heap[g]? := fun g h1 h2 => hI.kp g (by omega) h2
    have hWF0 : WF w M F 0 [] (.slice none 0 0) D W := ⟨(hkp _ (by omega) (by omega)).trans Q.out.b0, (hkp _ (by omega) (by omega)).trans Q.out.b1, (hkp _ (by omega) (by omega)).trans Q.out.b2, hDef, by omega, hMl, hm9, (MStep.refl _ _ _).below hI.below, fun g e => by simp [Value.ownBlock] at e⟩
    have hcp : CPt W (SfT M (.slice none 0 0) (fun _ => True)) cp c := (H.out.2.2.1.up hI.below).keep (fun k hk hl => ⟨rfl, ⟨hk, fun e => by simp [Value.ownBlock] at e⟩, trivial⟩)
    have hval : VAt W (SfT M (.slice none 0 0) (fun _ => True)) (inputV l) (.iface 79 (.pointer (some ⟨p, 0, none⟩))) := VAt.keep (fun k hk hl => ⟨rfl, ⟨by have := hk.1; omega, fun e => by simp [Value.ownBlock] at e⟩, trivial⟩) _ _ hv
    have c0 : W.cell? ⟨w.heap.size, 0, none⟩ = some (.pointer (some ⟨M, 0, none⟩)) := hWF0.b0.cell0
    have c4 : W.cell? ⟨w.heap.size + 1 + 1 + 1 + 1, 0, none⟩ = some (.pointer (some ⟨p, 0, none⟩)) := hp.cell0
    have HWD := hid (hWF0.step (hm9.below (drew_below W)) ((MStep.refl _ _ _).below (drew_below W)))
    have HM := hid (hm9.below (drew_below W))
    have HCP := hid (hcp.up (drew_below W))
    have HVA := hid (VAt.up hval (drew_below W))
    have HLT := hid (show w.heap.size + 1 + 1 + 1 + 1 < W.heap.size by omega)
    clear hm9 hkp hWF0 hcp hval hv hp hI hS hD hDef hQs hsz
    have hE := H.out.1
    unfold Ev.whole at hE
    rcases Ev.bnd_some hE with ⟨k, h1, rfl⟩ | ⟨vf, s1, ws1, h1, hA⟩
    -- [A
    · have C := hid (eval_all F g c .nil 0 [] (.stop k) s ws h1 (fun _ => True) W.drew M cp none (.slice none 0 0) HM.out HCP.out (by rw [EAt]))
      clear h1 hE
      gi_wp2
      refine wpIn_wide.2 ?_
      refine wp_region_held_drew (S := (fun w' => w'.cell? ⟨w.heap.size, 0, none⟩ = some (.pointer (some ⟨M, 0, none⟩)) ∧ w'.cell? ⟨w.heap.size + 1 + 1 + 1 + 1, 0, none⟩ = some (.pointer (some ⟨p, 0, none⟩)))) (by kernel_rfl) ⟨c0, c4⟩ (fun hHeld => ?_)
      refine take_d (some 30) (i := 0) (v := .pointer (some ⟨M, 0, none⟩)) rfl rfl (by kernel_rfl) (by kernel_rfl) (by kernel_rfl) (fun c a w h => whole_put (by decide) (by decide) h) (.inl ⟨by rfl, fun w7 hS7 => (by (try dsimp only at hS7); obtain ⟨s0, s1⟩ := hS7; go_simp)⟩) (by assumption) ?_; try simp only [Act.put, List.setIfInBounds_toArray, List.set_cons_zero, List.set_cons_succ]
      refine take_d (some 31) (i := 1) (v := .pointer (some ⟨M, 0, none⟩)) rfl rfl (by kernel_rfl) (by kernel_rfl) (by kernel_rfl) (fun c a w h => whole_put (by decide) (by decide) h) (.inl ⟨by rfl, fun w7 hS7 => (by (try dsimp only at hS7); obtain ⟨s0, s1⟩ := hS7; go_simp)⟩) (by assumption) ?_; try simp only [Act.put, List.setIfInBounds_toArray, List.set_cons_zero, List.set_cons_succ]
      refine take_d (some 32) (i := 2) (v := .pointer (some cp)) rfl rfl (by kernel_rfl) (by kernel_rfl) (by kernel_rfl) (fun c a w h => whole_put (by decide) (by decide) h) (.inl ⟨by rfl, fun w7 hS7 => (by (try dsimp only at hS7); obtain ⟨s0, s1⟩ := hS7; go_simp)⟩) (by assumption) ?_; try simp only [Act.put, List.setIfInBounds_toArray, List.set_cons_zero, List.set_cons_succ]
      refine take_d (some 34) (i := 4) (v := .pointer (some ⟨p, 0, none⟩)) rfl rfl (by kernel_rfl) (by kernel_rfl) (by kernel_rfl) (fun c a w h => whole_put (by decide) (by decide) h) (.inl ⟨by rfl, fun w7 hS7 => (by (try dsimp only at hS7); obtain ⟨s0, s1⟩ := hS7; go_simp)⟩) (by assumption) ?_; try simp only [Act.put, List.setIfInBounds_toArray, List.set_cons_zero, List.set_cons_succ]
      refine take_d (some 35) (i := 5) (v := .iface 79 (.pointer (some ⟨p, 0, none⟩))) rfl rfl (by kernel_rfl) (by kernel_rfl) (by kernel_rfl) (fun c a w h => whole_put (by decide) (by decide) h) (.inl ⟨by rfl, fun w7 hS7 => (by (try dsimp only at hS7); obtain ⟨s0, s1⟩ := hS7; go_simp)⟩) (by assumption) ?_; try simp only [Act.put, List.setIfInBounds_toArray, List.set_cons_zero, List.set_cons_succ]
      refine wpAnyH_ready (rs := [3]) (by kernel_rfl) (by simp) (AllReadyH.cons rfl (fun K hK => ?_) AllReadyH.nil)
      go_simp
      go_wp2_with (go_at_call 50; (refine C.out.mono ?_); clear C; rintro e8 w9 ⟨wv1, hm1, hs1, h9⟩; (have h8 : e8 = .panicked [stopV k] := h9); subst h8; obtain ⟨A9, c9, rfl, _⟩ := hm1.own.slice; have HWF := hid (HWD.out.step hm1 hs1); clear hm1 hs1 h9)
      refine ⟨by simp, .inl ⟨_, _, rfl, run_takeDeferred HWF.out.dD, by simp, .inr ⟨by simp [Fence.wide], _, _, 46, #[.pointer (some ⟨w.heap.size, 0, none⟩), .pointer (some ⟨w.heap.size + 1, 0, none⟩), .pointer (some ⟨w.heap.size + 1 + 1, 0, none⟩)], rfl, by simp [go_sem], fun _ _ => trivial, (whole_catch k _ _ _ _ _ _ _ _ _ _ _ _ _ _ _ HWF.out.put.1 HWF.out.put.2.1 HWF.out.put.2.2.1 HWF.out.put.2.2.2.1.blk).mono ?_⟩⟩⟩
      rintro e8 u8 w8 ⟨rfl, hu8, hc8⟩; (show LeavesInM _ _ _ _ _ _ _ (settle u8) w8); rw [hu8]; have hWC := HWF.out.caught hc8; have hr9 : fin (resO _) _ = _ := (show fin (resO (Out.stop k)) ws = fin (.stop k) ws from rfl); have hyy := whole_cells hc8; obtain ⟨y0, y1, y2, y3⟩ := hyy; refine ⟨.tuple #[.agg #[.int .i64 (if k < 0 then 0 else k), (if k < 0 then .slice none 0 0 else .slice A9 ws.length c9), .slice none 0 0], .int .i64 (if k < 0 then 190 else 0)], by simp [results, Try.results37, go_sem, y0, y1, y2, y3], ?_⟩; rw [hr9]; exact whole_stopped k hWC
    -- A]
    have C := hid (eval_all F g c .nil 0 [] (.ok vf) s1 ws1 h1 (fun _ => True) W.drew M cp none (.slice none 0 0) HM.out HCP.out (by rw [EAt]))
    clear h1 hE
    rcases app_is hA with ⟨rfl, rfl, rfl, rfl⟩ | ⟨hsF, xf, self, b2, e2, rfl, hRun⟩ | ⟨hsF, hn, rfl, rfl, rfl⟩
    -- [B
    · obtain ⟨k, hk3⟩ : ∃ k : Int, k = 3 := ⟨_, rfl⟩
      have HK3 := hid hk3
      clear hk3
      have C3 := hid (fun (w1 : World) (wv1 vf va : Value) (hm1 : MSt w1 M s s ws wv1) => applied_fuel w1 M s ws wv1 vf va hm1)
      gi_wp2
      refine wpIn_wide.2 ?_
      refine wp_region_held_drew (S := (fun w' => w'.cell? ⟨w.heap.size, 0, none⟩ = some (.pointer (some ⟨M, 0, none⟩)) ∧ w'.cell? ⟨w.heap.size + 1 + 1 + 1 + 1, 0, none⟩ = some (.pointer (some ⟨p, 0, none⟩)))) (by kernel_rfl) ⟨c0, c4⟩ (fun hHeld => ?_)
      refine take_d (some 30) (i := 0) (v := .pointer (some ⟨M, 0, none⟩)) rfl rfl (by kernel_rfl) (by kernel_rfl) (by kernel_rfl) (fun c a w h => whole_put (by decide) (by decide) h) (.inl ⟨by rfl, fun w7 hS7 => (by (try dsimp only at hS7); obtain ⟨s0, s1⟩ := hS7; go_simp)⟩) (by assumption) ?_; try simp only [Act.put, List.setIfInBounds_toArray, List.set_cons_zero, List.set_cons_succ]
      refine take_d (some 31) (i := 1) (v := .pointer (some ⟨M, 0, none⟩)) rfl rfl (by kernel_rfl) (by kernel_rfl) (by kernel_rfl) (fun c a w h => whole_put (by decide) (by decide) h) (.inl ⟨by rfl, fun w7 hS7 => (by (try dsimp only at hS7); obtain ⟨s0, s1⟩ := hS7; go_simp)⟩) (by assumption) ?_; try simp only [Act.put, List.setIfInBounds_toArray, List.set_cons_zero, List.set_cons_succ]
      refine take_d (some 32) (i := 2) (v := .pointer (some cp)) rfl rfl (by kernel_rfl) (by kernel_rfl) (by kernel_rfl) (fun c a w h => whole_put (by decide) (by decide) h) (.inl ⟨by rfl, fun w7 hS7 => (by (try dsimp only at hS7); obtain ⟨s0, s1⟩ := hS7; go_simp)⟩) (by assumption) ?_; try simp only [Act.put, List.setIfInBounds_toArray, List.set_cons_zero, List.set_cons_succ]
      refine take_d (some 34) (i := 4) (v := .pointer (some ⟨p, 0, none⟩)) rfl rfl (by kernel_rfl) (by kernel_rfl) (by kernel_rfl) (fun c a w h => whole_put (by decide) (by decide) h) (.inl ⟨by rfl, fun w7 hS7 => (by (try dsimp only at hS7); obtain ⟨s0, s1⟩ := hS7; go_simp)⟩) (by assumption) ?_; try simp only [Act.put, List.setIfInBounds_toArray, List.set_cons_zero, List.set_cons_succ]
      refine take_d (some 35) (i := 5) (v := .iface 79 (.pointer (some ⟨p, 0, none⟩))) rfl rfl (by kernel_rfl) (by kernel_rfl) (by kernel_rfl) (fun c a w h => whole_put (by decide) (by decide) h) (.inl ⟨by rfl, fun w7 hS7 => (by (try dsimp only at hS7); obtain ⟨s0, s1⟩ := hS7; go_simp)⟩) (by assumption) ?_; try simp only [Act.put, List.setIfInBounds_toArray, List.set_cons_zero, List.set_cons_succ]
      refine wpAnyH_ready (rs := [3]) (by kernel_rfl) (by simp) (AllReadyH.cons rfl (fun K hK => ?_) AllReadyH.nil)
      go_simp
      go_wp2_with (go_at_call 50; (refine C.out.mono ?_); clear C; rintro e9 w1 ⟨wv1, hm1, hs1, h9⟩; obtain ⟨vv, h8, hvv⟩ := h9; subst h8; obtain ⟨tt, xx, rfl⟩ := hvv.iface; have KP := hid (show w1.cell? ⟨w.heap.size, 0, none⟩ = some (.pointer (some ⟨M, 0, none⟩)) ∧ w1.cell? ⟨w.heap.size + 1 + 1 + 1 + 1, 0, none⟩ = some (.pointer (some ⟨p, 0, none⟩)) from ⟨cell_of (hs1.block w.heap.size (by have := HLT.out; show w.heap.size < W.heap.size; omega) (by omega) (fun e => by simp [Value.ownBlock] at e)) (p := ⟨w.heap.size, 0, none⟩) rfl (show W.drew.cell? _ = _ from c0), cell_of (hs1.block (w.heap.size + 1 + 1 + 1 + 1) (by have := HLT.out; show w.heap.size + 1 + 1 + 1 + 1 < W.heap.size; omega) (by omega) (fun e => by simp [Value.ownBlock] at e)) (p := ⟨w.heap.size + 1 + 1 + 1 + 1, 0, none⟩) rfl (show W.drew.cell? _ = _ from c4)⟩); have G := hid (And.intro hm1 (And.intro hs1 hvv)); clear hm1 hs1 hvv)
      refine hK.out _ _ KP.out (fun hHeld2 => ?_)
      clear hK K
      refine wpAnyH_ready (rs := [6]) (by kernel_rfl) (by simp) (AllReadyH.cons rfl (fun K hK => ?_) AllReadyH.nil)
      go_simp
      go_wp2_with (go_at_call 49; refine (C3.out _ _ _ _ G.out.1).mono ?_; clear C3; rintro e9 w3 ⟨h8, b3⟩; rw [← HK3.out] at h8; subst h8; have hm3 := G.out.1.below b3; obtain ⟨A9, c9, rfl, _⟩ := hm3.own.slice; have HWF := hid ((HWD.out.step G.out.1 G.out.2.1).step hm3 ((MStep.refl _ _ _).below b3)); clear hm3 b3)
      refine ⟨by simp, .inl ⟨_, _, rfl, run_takeDeferred HWF.out.dD, by simp, .inr ⟨by simp [Fence.wide], _, _, 46, #[.pointer (some ⟨w.heap.size, 0, none⟩), .pointer (some ⟨w.heap.size + 1, 0, none⟩), .pointer (some ⟨w.heap.size + 1 + 1, 0, none⟩)], rfl, by simp [go_sem], fun _ _ => trivial, (whole_catch k _ _ _ _ _ _ _ _ _ _ _ _ _ _ _ HWF.out.put.1 HWF.out.put.2.1 HWF.out.put.2.2.1 HWF.out.put.2.2.2.1.blk).mono ?_⟩⟩⟩
      rintro e8 u8 w8 ⟨rfl, hu8, hc8⟩; (show LeavesInM _ _ _ _ _ _ _ (settle u8) w8); rw [hu8]; have hWC := HWF.out.caught hc8; have hr9 : fin (resO _) _ = _ := (show fin (resO (Out.stop 3)) ws = fin (.stop k) ws by rw [HK3.out]; rfl); have hyy := whole_cells hc8; obtain ⟨y0, y1, y2, y3⟩ := hyy; refine ⟨.tuple #[.agg #[.int .i64 (if k < 0 then 0 else k), (if k < 0 then .slice none 0 0 else .slice A9 ws.length c9), .slice none 0 0], .int .i64 (if k < 0 then 190 else 0)], by simp [results, Try.results37, go_sem, y0, y1, y2, y3], ?_⟩; rw [hr9]; exact whole_stopped k hWC
    -- B]
    · have HR := hid hRun
      have HSF := hid hsF
      clear hRun hsF
      gi_wp2
      refine wpIn_wide.2 ?_
      go_region_held3 (fun w' => w'.cell? ⟨w.heap.size, 0, none⟩ = some (.pointer (some ⟨M, 0, none⟩)) ∧ w'.cell? ⟨w.heap.size + 1 + 1 + 1 + 1, 0, none⟩ = some (.pointer (some ⟨p, 0, none⟩))) (first | exact ⟨c0, c4⟩ | with_reducible exact KP.out | with_reducible exact KP2.out | go_keep) (first
        | (go_at_call 50; (refine C.out.mono ?_); clear C; rintro e9 w1 ⟨wv1, hm1, hs1, h9⟩; obtain ⟨vv, h8, hvv⟩ := h9; subst h8; have hvw := hvv; rw [VAt] at hvw; obtain ⟨p2, bp2, ep2, rfl, hSp, hp2, _, _⟩ := hvw; have GP := hid (And.intro hSp hp2); clear hSp hp2; have KP := hid (show w1.cell? ⟨w.heap.size, 0, none⟩ = some (.pointer (some ⟨M, 0, none⟩)) ∧ w1.cell? ⟨w.heap.size + 1 + 1 + 1 + 1, 0, none⟩ = some (.pointer (some ⟨p, 0, none⟩)) from ⟨cell_of (hs1.block w.heap.size (by have := HLT.out; show w.heap.size < W.heap.size; omega) (by omega) (fun e => by simp [Value.ownBlock] at e)) (p := ⟨w.heap.size, 0, none⟩) rfl (show W.drew.cell? _ = _ from c0), cell_of (hs1.block (w.heap.size + 1 + 1 + 1 + 1) (by have := HLT.out; show w.heap.size + 1 + 1 + 1 + 1 < W.heap.size; omega) (by omega) (fun e => by simp [Value.ownBlock] at e)) (p := ⟨w.heap.size + 1 + 1 + 1 + 1, 0, none⟩) rfl (show W.drew.cell? _ = _ from c4)⟩); have G := hid (And.intro hm1 (And.intro hs1 hvv)); clear hm1 hs1 hvv)
        | (go_at_call 49; refine (applied_ok w1 M F s1 ws1 wv1 79 (.pointer (some ⟨p, 0, none⟩)) xf p2 bp2 ep2 G.out.1 (by have := G.out.1.hs; have := HSF.out; omega) GP.out.1.1.1 GP.out.2).mono ?_; rintro e9 w3 ⟨q, rfl, hq3, hB3, hm3, hs3⟩; have hfar : ∀ k, k < W.heap.size → wv1.ownBlock ≠ some k := (fun k hk e => by rcases G.out.2.1.own k e with e | e; simp [Value.ownBlock] at e; exact absurd hk (Nat.not_lt.2 e)); have hw1 := G.out.2.1.size; have KP2 := hid (show w3.cell? ⟨w.heap.size, 0, none⟩ = some (.pointer (some ⟨M, 0, none⟩)) ∧ w3.cell? ⟨w.heap.size + 1 + 1 + 1 + 1, 0, none⟩ = some (.pointer (some ⟨p, 0, none⟩)) from ⟨cell_of (hs3.block w.heap.size (Nat.lt_of_lt_of_le (show w.heap.size < W.heap.size by have := HLT.out; omega) hw1) (by omega) (hfar _ (by have := HLT.out; omega))) (p := ⟨w.heap.size, 0, none⟩) rfl KP.out.1, cell_of (hs3.block (w.heap.size + 1 + 1 + 1 + 1) (Nat.lt_of_lt_of_le HLT.out hw1) (by omega) (hfar _ HLT.out)) (p := ⟨w.heap.size + 1 + 1 + 1 + 1, 0, none⟩) rfl KP.out.2⟩); have e0 := KP2.out.1; have G3 := hid (And.intro hq3 (And.intro hB3 (And.intro hm3 hs3))); clear hq3 hB3 hm3 hs3 hfar hw1))
      have HV1 := hid (VAt.keep (T := SfT M wv1 (Now (fun _ => True) W.drew)) (fun k hk hl => ⟨(G.out.2.1.keepT k hk hl).1, (G.out.2.1.keepT k hk hl).2.1, .inl trivial⟩) _ _ HVA.out)
      have C4 := hid (eval_EvI (evI_app G.out.2.2 GP.out.2 G.out.2.1 G3.out.2.2.1 G3.out.2.2.2 G.out.1 HV1.out HR.out G3.out.1 G3.out.2.1))
      clear hA
      cases o with
      | stop k =>
        -- [C
        gi_wp2_with (refine ⟨trivial, ?_⟩; gi_at_call 50; (refine (callsIn_wide.2 C4.out).mono ?_); clear C4; rintro e9 w4 ⟨wv4, hm4, hs4, h9⟩; (have h8 : e9 = .panicked [stopV k] := h9); subst h8; obtain ⟨A9, c9, rfl, _⟩ := hm4.own.slice; have HWF := hid (HWD.out.step hm4 hs4); clear hm4 hs4 h9)
        refine ⟨by simp, .inl ⟨_, _, rfl, run_takeDeferred HWF.out.dD, by simp, .inr ⟨by simp [Fence.wide], _, _, 46, #[.pointer (some ⟨w.heap.size, 0, none⟩), .pointer (some ⟨w.heap.size + 1, 0, none⟩), .pointer (some ⟨w.heap.size + 1 + 1, 0, none⟩)], rfl, by simp [go_sem], fun _ _ => trivial, (whole_catch k _ _ _ _ _ _ _ _ _ _ _ _ _ _ _ HWF.out.put.1 HWF.out.put.2.1 HWF.out.put.2.2.1 HWF.out.put.2.2.2.1.blk).mono ?_⟩⟩⟩
        rintro e8 u8 w8 ⟨rfl, hu8, hc8⟩; (show LeavesInM _ _ _ _ _ _ _ (settle u8) w8); rw [hu8]; have hWC := HWF.out.caught hc8; have hr9 : fin (resO _) _ = _ := (show fin (resO (Out.stop k)) ws = fin (.stop k) ws from rfl); have hyy := whole_cells hc8; obtain ⟨y0, y1, y2, y3⟩ := hyy; refine ⟨.tuple #[.agg #[.int .i64 (if k < 0 then 0 else k), (if k < 0 then .slice none 0 0 else .slice A9 ws.length c9), .slice none 0 0], .int .i64 (if k < 0 then 190 else 0)], by simp [results, Try.results37, go_sem, y0, y1, y2, y3], ?_⟩; rw [hr9]; exact whole_stopped k hWC
        -- C]
      | ok u =>
        have hr8 : resO (Out.ok u) = showV u [] := rfl
        cases hs : showV u [] with
        | stop k =>
          have HRS := hid (show fin (resO (Out.ok u)) ws = fin (.stop k) ws by rw [hr8, hs])
          clear hr8
          -- [E
          cases u with
          | num n =>
            have hmt := meth_num
            have HS := hid hs
            clear hs
            gi_wp2_with (first
              | (refine ⟨trivial, ?_⟩; gi_at_call 50; (refine (callsIn_wide.2 C4.out).mono ?_); clear C4; rintro e9 w4 ⟨wv4, hm4, hs4, vv, h8, hvv⟩; subst h8; have hsx := shows_ _ (M + 1) hm4.blk.lt hvv; rw [VAt] at hvv; obtain ⟨rfl, _⟩ := hvv; have SX := hid (shX_num hsx HS.out); obtain ⟨A9, c9, rfl, _⟩ := hm4.own.slice; have HWF := hid (HWD.out.step hm4 hs4); clear hm4 hs4 hsx)
              | (refine ⟨trivial, ?_⟩; gi_at_call 93; (refine (callsIn_wide.2 SX.out).mono ?_); clear SX; rintro e9 w5 ⟨g5, h9⟩; (have h8 : e9 = .panicked [stopV k] := h9); subst h8; have g5' : w4.grownBy w5 none := g5; have HWF5 := hid (HWF.out.step (HWF.out.mst.grown g5') (grown_step g5')); clear HWF g5 g5' h9; have HWF := HWF5; clear HWF5))
            refine ⟨by simp, .inl ⟨_, _, rfl, run_takeDeferred HWF.out.dD, by simp, .inr ⟨by simp [Fence.wide], _, _, 46, #[.pointer (some ⟨w.heap.size, 0, none⟩), .pointer (some ⟨w.heap.size + 1, 0, none⟩), .pointer (some ⟨w.heap.size + 1 + 1, 0, none⟩)], rfl, by simp [go_sem], fun _ _ => trivial, (whole_catch k _ _ _ _ _ _ _ _ _ _ _ _ _ _ _ HWF.out.put.1 HWF.out.put.2.1 HWF.out.put.2.2.1 HWF.out.put.2.2.2.1.blk).mono ?_⟩⟩⟩
            rintro e8 u8 w8 ⟨rfl, hu8, hc8⟩; (show LeavesInM _ _ _ _ _ _ _ (settle u8) w8); rw [hu8]; have hWC := HWF.out.caught hc8; have hr9 : fin (resO _) _ = _ := HRS.out; have hyy := whole_cells hc8; obtain ⟨y0, y1, y2, y3⟩ := hyy; refine ⟨.tuple #[.agg #[.int .i64 (if k < 0 then 0 else k), (if k < 0 then .slice none 0 0 else .slice A9 ws.length c9), .slice none 0 0], .int .i64 (if k < 0 then 190 else 0)], by simp [results, Try.results37, go_sem, y0, y1, y2, y3], ?_⟩; rw [hr9]; exact whole_stopped k hWC
          | con t2 us2 =>
            have hmt := meth_con
            have HS := hid hs
            clear hs
            gi_wp2_with (first
              | (refine ⟨trivial, ?_⟩; gi_at_call 50; (refine (callsIn_wide.2 C4.out).mono ?_); clear C4; rintro e9 w4 ⟨wv4, hm4, hs4, vv, h8, hvv⟩; subst h8; have hsx := shows_ _ (M + 1) hm4.blk.lt hvv; rw [VAt] at hvv; obtain ⟨⟨p9, A8, c8, rfl, _⟩, _⟩ := hvv; have SX := hid (shX_con hsx HS.out); obtain ⟨A9, c9, rfl, _⟩ := hm4.own.slice; have HWF := hid (HWD.out.step hm4 hs4); clear hm4 hs4 hsx)
              | (refine ⟨trivial, ?_⟩; gi_at_call 91; (refine (callsIn_wide.2 SX.out).mono ?_); clear SX; rintro e9 w5 ⟨g5, h9⟩; (have h8 : e9 = .panicked [stopV k] := h9); subst h8; have g5' : w4.grownBy w5 none := g5; have HWF5 := hid (HWF.out.step (HWF.out.mst.grown g5') (grown_step g5')); clear HWF g5 g5' h9; have HWF := HWF5; clear HWF5))
            refine ⟨by simp, .inl ⟨_, _, rfl, run_takeDeferred HWF.out.dD, by simp, .inr ⟨by simp [Fence.wide], _, _, 46, #[.pointer (some ⟨w.heap.size, 0, none⟩), .pointer (some ⟨w.heap.size + 1, 0, none⟩), .pointer (some ⟨w.heap.size + 1 + 1, 0, none⟩)], rfl, by simp [go_sem], fun _ _ => trivial, (whole_catch k _ _ _ _ _ _ _ _ _ _ _ _ _ _ _ HWF.out.put.1 HWF.out.put.2.1 HWF.out.put.2.2.1 HWF.out.put.2.2.2.1.blk).mono ?_⟩⟩⟩
            rintro e8 u8 w8 ⟨rfl, hu8, hc8⟩; (show LeavesInM _ _ _ _ _ _ _ (settle u8) w8); rw [hu8]; have hWC := HWF.out.caught hc8; have hr9 : fin (resO _) _ = _ := HRS.out; have hyy := whole_cells hc8; obtain ⟨y0, y1, y2, y3⟩ := hyy; refine ⟨.tuple #[.agg #[.int .i64 (if k < 0 then 0 else k), (if k < 0 then .slice none 0 0 else .slice A9 ws.length c9), .slice none 0 0], .int .i64 (if k < 0 then 190 else 0)], by simp [results, Try.results37, go_sem, y0, y1, y2, y3], ?_⟩; rw [hr9]; exact whole_stopped k hWC
          | clo x2 s2 b2 e2 =>
            have hmt := meth_fun
            have HS := hid hs
            clear hs
            gi_wp2_with (first
              | (refine ⟨trivial, ?_⟩; gi_at_call 50; (refine (callsIn_wide.2 C4.out).mono ?_); clear C4; rintro e9 w4 ⟨wv4, hm4, hs4, vv, h8, hvv⟩; subst h8; have hsx := shows_ _ (M + 1) hm4.blk.lt hvv; rw [VAt] at hvv; obtain ⟨p9, bp9, ep9, rfl, _⟩ := hvv; have SX := hid (shX_clo hsx HS.out); obtain ⟨A9, c9, rfl, _⟩ := hm4.own.slice; have HWF := hid (HWD.out.step hm4 hs4); clear hm4 hs4 hsx)
              | (refine ⟨trivial, ?_⟩; gi_at_call 94; (refine (callsIn_wide.2 SX.out).mono ?_); clear SX; rintro e9 w5 ⟨g5, h9⟩; (have h8 : e9 = .panicked [stopV k] := h9); subst h8; have g5' : w4.grownBy w5 none := g5; have HWF5 := hid (HWF.out.step (HWF.out.mst.grown g5') (grown_step g5')); clear HWF g5 g5' h9; have HWF := HWF5; clear HWF5))
            refine ⟨by simp, .inl ⟨_, _, rfl, run_takeDeferred HWF.out.dD, by simp, .inr ⟨by simp [Fence.wide], _, _, 46, #[.pointer (some ⟨w.heap.size, 0, none⟩), .pointer (some ⟨w.heap.size + 1, 0, none⟩), .pointer (some ⟨w.heap.size + 1 + 1, 0, none⟩)], rfl, by simp [go_sem], fun _ _ => trivial, (whole_catch k _ _ _ _ _ _ _ _ _ _ _ _ _ _ _ HWF.out.put.1 HWF.out.put.2.1 HWF.out.put.2.2.1 HWF.out.put.2.2.2.1.blk).mono ?_⟩⟩⟩
            rintro e8 u8 w8 ⟨rfl, hu8, hc8⟩; (show LeavesInM _ _ _ _ _ _ _ (settle u8) w8); rw [hu8]; have hWC := HWF.out.caught hc8; have hr9 : fin (resO _) _ = _ := HRS.out; have hyy := whole_cells hc8; obtain ⟨y0, y1, y2, y3⟩ := hyy; refine ⟨.tuple #[.agg #[.int .i64 (if k < 0 then 0 else k), (if k < 0 then .slice none 0 0 else .slice A9 ws.length c9), .slice none 0 0], .int .i64 (if k < 0 then 190 else 0)], by simp [results, Try.results37, go_sem, y0, y1, y2, y3], ?_⟩; rw [hr9]; exact whole_stopped k hWC
          -- E]
        | ok l2 =>
          have HRS := hid (show fin (resO (Out.ok u)) ws = (1, ws, l2, 0) by rw [hr8, hs, fin])
          clear hr8
          -- [G
          cases u with
          | num n =>
            have hmt := meth_num
            have HS := hid hs
            clear hs
            gi_wp2_with (first
              | (refine ⟨trivial, ?_⟩; gi_at_call 50; (refine (callsIn_wide.2 C4.out).mono ?_); clear C4; rintro e9 w4 ⟨wv4, hm4, hs4, vv, h8, hvv⟩; subst h8; have hsx := shows_ _ (M + 1) hm4.blk.lt hvv; rw [VAt] at hvv; obtain ⟨rfl, _⟩ := hvv; have SX := hid (shX_num hsx HS.out); obtain ⟨A9, c9, rfl, _⟩ := hm4.own.slice; have HWF := hid (HWD.out.step hm4 hs4); clear hm4 hs4 hsx)
              | (refine ⟨trivial, ?_⟩; gi_at_call 93; (refine (callsIn_wide.2 SX.out).mono ?_); clear SX; rintro e9 w5 ⟨g5, lv, h8, ho5, hl5, hn5⟩; subst h8; obtain ⟨A5, c5, rfl, _⟩ := ho5.slice; have g5' : w4.grownBy w5 none := g5; have hDl := (Array.getElem?_eq_some_iff.1 HWF.out.dD).1; have HWF5 := hid (HWF.out.step (HWF.out.mst.grown g5') (grown_step g5')); have HO := hid (And.intro ho5 (show ∀ g, (Value.slice A5 l2.length c5).ownBlock = some g → D < g from fun g e => by rcases hn5 g e with e | e; simp [Value.ownBlock] at e; omega)); clear HWF g5 g5' ho5 hl5 hn5 hDl; have HWF := HWF5; clear HWF5; obtain ⟨r0, r1, r2, r3, r4, r5, r6, r7, r8, r9⟩ := HWF.out.cells))
            have DN := HWF.out.done HO.out.1 HO.out.2 _ rfl
            refine ⟨by simp, .inl ⟨_, _, rfl, run_takeDeferred DN.1, by simp, .inr ⟨by simp [Fence.wide], _, _, 46, #[.pointer (some ⟨w.heap.size, 0, none⟩), .pointer (some ⟨w.heap.size + 1, 0, none⟩), .pointer (some ⟨w.heap.size + 1 + 1, 0, none⟩)], rfl, by simp [go_sem], fun _ _ => trivial, (whole_idle _ _ _ _ _).mono ?_⟩⟩⟩
            rintro e u' w'' ⟨rfl, rfl, rfl⟩
            obtain ⟨_, y0, y1, y2, y3, yo, ym, ys9⟩ := DN
            refine ⟨.tuple #[.agg #[.int .i64 1, .slice A9 ws.length c9, .slice A5 l2.length c5], .int .i64 0], by simp [results, Try.results37, go_sem, y0, y1, y2, y3], ?_⟩
            rw [HRS.out]
            exact ⟨A9, c9, A5, c5, ws, _, rfl, ym.own, yo, ym, ys9⟩
          | con t2 us2 =>
            have hmt := meth_con
            have HS := hid hs
            clear hs
            gi_wp2_with (first
              | (refine ⟨trivial, ?_⟩; gi_at_call 50; (refine (callsIn_wide.2 C4.out).mono ?_); clear C4; rintro e9 w4 ⟨wv4, hm4, hs4, vv, h8, hvv⟩; subst h8; have hsx := shows_ _ (M + 1) hm4.blk.lt hvv; rw [VAt] at hvv; obtain ⟨⟨p9, A8, c8, rfl, _⟩, _⟩ := hvv; have SX := hid (shX_con hsx HS.out); obtain ⟨A9, c9, rfl, _⟩ := hm4.own.slice; have HWF := hid (HWD.out.step hm4 hs4); clear hm4 hs4 hsx)
              | (refine ⟨trivial, ?_⟩; gi_at_call 91; (refine (callsIn_wide.2 SX.out).mono ?_); clear SX; rintro e9 w5 ⟨g5, lv, h8, ho5, hl5, hn5⟩; subst h8; obtain ⟨A5, c5, rfl, _⟩ := ho5.slice; have g5' : w4.grownBy w5 none := g5; have hDl := (Array.getElem?_eq_some_iff.1 HWF.out.dD).1; have HWF5 := hid (HWF.out.step (HWF.out.mst.grown g5') (grown_step g5')); have HO := hid (And.intro ho5 (show ∀ g, (Value.slice A5 l2.length c5).ownBlock = some g → D < g from fun g e => by rcases hn5 g e with e | e; simp [Value.ownBlock] at e; omega)); clear HWF g5 g5' ho5 hl5 hn5 hDl; have HWF := HWF5; clear HWF5; obtain ⟨r0, r1, r2, r3, r4, r5, r6, r7, r8, r9⟩ := HWF.out.cells))
            have DN := HWF.out.done HO.out.1 HO.out.2 _ rfl
            refine ⟨by simp, .inl ⟨_, _, rfl, run_takeDeferred DN.1, by simp, .inr ⟨by simp [Fence.wide], _, _, 46, #[.pointer (some ⟨w.heap.size, 0, none⟩), .pointer (some ⟨w.heap.size + 1, 0, none⟩), .pointer (some ⟨w.heap.size + 1 + 1, 0, none⟩)], rfl, by simp [go_sem], fun _ _ => trivial, (whole_idle _ _ _ _ _).mono ?_⟩⟩⟩
            rintro e u' w'' ⟨rfl, rfl, rfl⟩
            obtain ⟨_, y0, y1, y2, y3, yo, ym, ys9⟩ := DN
            refine ⟨.tuple #[.agg #[.int .i64 1, .slice A9 ws.length c9, .slice A5 l2.length c5], .int .i64 0], by simp [results, Try.results37, go_sem, y0, y1, y2, y3], ?_⟩
            rw [HRS.out]
            exact ⟨A9, c9, A5, c5, ws, _, rfl, ym.own, yo, ym, ys9⟩
          | clo x2 s2 b2 e2 => rw [showV] at hs; cases hs
          -- G]
    -- [D
    · obtain ⟨k, hk3⟩ : ∃ k : Int, k = -1 := ⟨_, rfl⟩
      have HK3 := hid hk3
      clear hk3
      have HN := hid (And.intro hsF hn)
      clear hsF hn
      gi_wp2
      refine wpIn_wide.2 ?_
      refine wp_region_held_drew (S := (fun w' => w'.cell? ⟨w.heap.size, 0, none⟩ = some (.pointer (some ⟨M, 0, none⟩)) ∧ w'.cell? ⟨w.heap.size + 1 + 1 + 1 + 1, 0, none⟩ = some (.pointer (some ⟨p, 0, none⟩)))) (by kernel_rfl) ⟨c0, c4⟩ (fun hHeld => ?_)
      refine take_d (some 30) (i := 0) (v := .pointer (some ⟨M, 0, none⟩)) rfl rfl (by kernel_rfl) (by kernel_rfl) (by kernel_rfl) (fun c a w h => whole_put (by decide) (by decide) h) (.inl ⟨by rfl, fun w7 hS7 => (by (try dsimp only at hS7); obtain ⟨s0, s1⟩ := hS7; go_simp)⟩) (by assumption) ?_; try simp only [Act.put, List.setIfInBounds_toArray, List.set_cons_zero, List.set_cons_succ]
      refine take_d (some 31) (i := 1) (v := .pointer (some ⟨M, 0, none⟩)) rfl rfl (by kernel_rfl) (by kernel_rfl) (by kernel_rfl) (fun c a w h => whole_put (by decide) (by decide) h) (.inl ⟨by rfl, fun w7 hS7 => (by (try dsimp only at hS7); obtain ⟨s0, s1⟩ := hS7; go_simp)⟩) (by assumption) ?_; try simp only [Act.put, List.setIfInBounds_toArray, List.set_cons_zero, List.set_cons_succ]
      refine take_d (some 32) (i := 2) (v := .pointer (some cp)) rfl rfl (by kernel_rfl) (by kernel_rfl) (by kernel_rfl) (fun c a w h => whole_put (by decide) (by decide) h) (.inl ⟨by rfl, fun w7 hS7 => (by (try dsimp only at hS7); obtain ⟨s0, s1⟩ := hS7; go_simp)⟩) (by assumption) ?_; try simp only [Act.put, List.setIfInBounds_toArray, List.set_cons_zero, List.set_cons_succ]
      refine take_d (some 34) (i := 4) (v := .pointer (some ⟨p, 0, none⟩)) rfl rfl (by kernel_rfl) (by kernel_rfl) (by kernel_rfl) (fun c a w h => whole_put (by decide) (by decide) h) (.inl ⟨by rfl, fun w7 hS7 => (by (try dsimp only at hS7); obtain ⟨s0, s1⟩ := hS7; go_simp)⟩) (by assumption) ?_; try simp only [Act.put, List.setIfInBounds_toArray, List.set_cons_zero, List.set_cons_succ]
      refine take_d (some 35) (i := 5) (v := .iface 79 (.pointer (some ⟨p, 0, none⟩))) rfl rfl (by kernel_rfl) (by kernel_rfl) (by kernel_rfl) (fun c a w h => whole_put (by decide) (by decide) h) (.inl ⟨by rfl, fun w7 hS7 => (by (try dsimp only at hS7); obtain ⟨s0, s1⟩ := hS7; go_simp)⟩) (by assumption) ?_; try simp only [Act.put, List.setIfInBounds_toArray, List.set_cons_zero, List.set_cons_succ]
      refine wpAnyH_ready (rs := [3]) (by kernel_rfl) (by simp) (AllReadyH.cons rfl (fun K hK => ?_) AllReadyH.nil)
      go_simp
      go_wp2_with (go_at_call 50; (refine C.out.mono ?_); clear C; rintro e9 w1 ⟨wv1, hm1, hs1, h9⟩; obtain ⟨vv, h8, hvv⟩ := h9; subst h8; obtain ⟨tt, xx, rfl⟩ := hvv.iface; have KP := hid (show w1.cell? ⟨w.heap.size, 0, none⟩ = some (.pointer (some ⟨M, 0, none⟩)) ∧ w1.cell? ⟨w.heap.size + 1 + 1 + 1 + 1, 0, none⟩ = some (.pointer (some ⟨p, 0, none⟩)) from ⟨cell_of (hs1.block w.heap.size (by have := HLT.out; show w.heap.size < W.heap.size; omega) (by omega) (fun e => by simp [Value.ownBlock] at e)) (p := ⟨w.heap.size, 0, none⟩) rfl (show W.drew.cell? _ = _ from c0), cell_of (hs1.block (w.heap.size + 1 + 1 + 1 + 1) (by have := HLT.out; show w.heap.size + 1 + 1 + 1 + 1 < W.heap.size; omega) (by omega) (fun e => by simp [Value.ownBlock] at e)) (p := ⟨w.heap.size + 1 + 1 + 1 + 1, 0, none⟩) rfl (show W.drew.cell? _ = _ from c4)⟩); have G := hid (And.intro hm1 (And.intro hs1 hvv)); clear hm1 hs1 hvv)
      refine hK.out _ _ KP.out (fun hHeld2 => ?_)
      clear hK K
      refine wpAnyH_ready (rs := [6]) (by kernel_rfl) (by simp) (AllReadyH.cons rfl (fun K hK => ?_) AllReadyH.nil)
      go_simp
      go_wp2_with (go_at_call 49; refine (applied_bad w1 M F _ _ wv1 (.iface tt xx) _ _ vf G.out.1 (by have := G.out.1.hs; have := HN.out.1; omega) G.out.2.2 HN.out.2).mono ?_; rintro e9 w3 ⟨h8, hm3, hs3⟩; rw [← HK3.out] at h8; subst h8; obtain ⟨A9, c9, rfl, _⟩ := hm3.own.slice; have HWF := hid ((HWD.out.step G.out.1 G.out.2.1).step hm3 hs3); clear hm3 hs3)
      refine ⟨by simp, .inl ⟨_, _, rfl, run_takeDeferred HWF.out.dD, by simp, .inr ⟨by simp [Fence.wide], _, _, 46, #[.pointer (some ⟨w.heap.size, 0, none⟩), .pointer (some ⟨w.heap.size + 1, 0, none⟩), .pointer (some ⟨w.heap.size + 1 + 1, 0, none⟩)], rfl, by simp [go_sem], fun _ _ => trivial, (whole_catch k _ _ _ _ _ _ _ _ _ _ _ _ _ _ _ HWF.out.put.1 HWF.out.put.2.1 HWF.out.put.2.2.1 HWF.out.put.2.2.2.1.blk).mono ?_⟩⟩⟩
      rintro e8 u8 w8 ⟨rfl, hu8, hc8⟩; (show LeavesInM _ _ _ _ _ _ _ (settle u8) w8); rw [hu8]; have hWC := HWF.out.caught hc8; have hr9 : fin (resO _) _ = _ := (show fin (resO (Out.stop (-1))) ws = fin (.stop k) ws by rw [HK3.out]; rfl); have hyy := whole_cells hc8; obtain ⟨y0, y1, y2, y3⟩ := hyy; refine ⟨.tuple #[.agg #[.int .i64 (if k < 0 then 0 else k), (if k < 0 then .slice none 0 0 else .slice A9 ws.length c9), .slice none 0 0], .int .i64 (if k < 0 then 190 else 0)], by simp [results, Try.results37, go_sem, y0, y1, y2, y3], ?_⟩; rw [hr9]; exact whole_stopped k hWC
    -- D]
end Go.Proofs.Ytohdaclbgedeiaa
