/-
  THE WALK OF THE FUNCTION THAT eval.machine.whole DEFERS: it recovers a stop, or does nothing.
  slices.Backward OVER INTEGERS, AND ITS ITERATOR.
  WHAT eval.machine.whole KEEPS IN MEMORY: laws, no walk.
-/
import Derived.Test.YtohdaclbgedeiaaESimP
import Derived.Tactics
import Derived.Tactics2
import Derived.Defers
import Derived.Recover
import Derived.Laws.Pointers
import Derived.TacticsInMore
import Derived.RegionIn
import Derived.LoopNIn
import Derived.RecoverIn
import Derived.ControlIn
import Derived.Deep.RegionHeld3
import Derived.Test.YtohdaclbgedeiaaECo
import Derived.RangeFuncNested
import Derived.RangeFuncBound
import Derived.RangeFuncCalls
import Derived.RangeFuncLeaves
import Derived.RangeFuncWrites
import Derived.Shelf.Abstract
import Derived.Shelf.RegionOpen
import Derived.WalkKit
import Derived.OwnWalkIn
import Derived.LoopIn
import Derived.Test.YtohdaclbgedeiaaEEval
import Derived.Test.YtohdaclbgedeiaaEShow
import Derived.Test.YtohdaclbgedeiaaEFuelP
namespace Go.Proofs.Ytohdaclbgedeiaa
set_option linter.all false
open Go.ChangeShapes Go.WideShapes Go.ChangeAt Go.RowKit
theorem assert_stop (k : Int) (b : Bool) (w : World) : (Instr.typeAssert (.iface 78 (.agg #[.int .i64 k, .bool b])) 20 78 true).run Try.prog w = .ok (.tuple #[.agg #[.int .i64 k, .bool b], .bool true]) w := by kernel_rfl
/-- Nothing to recover. -/
theorem whole_idle (p4 p5 p6 : Addr) (n : Nat) (w : World) :
    CallsDIn Fence.wide n Try.prog 46 #[.pointer (some p4), .pointer (some p5), .pointer (some p6)] .returning w fun e u' w' => e = .returned (.tuple #[]) ∧ u' = .returning ∧ w' = w := by
  refine callsDIn_of_wpSIn Try.func46 rfl trivial fun c₀ cs hu => ?_
  simp only [Try.ntmps46, List.size_toArray, List.length_cons, List.length_nil, Nat.reduceAdd, Nat.reduceSub, Array.replicate_succ, Array.replicate_zero, List.push_toArray, List.append_toArray, List.nil_append, List.cons_append]
  apply wpSIn_seq
  apply wpSIn_region
  simp [wpOpsSIn, go_sem, recoverD, hu, Exit.thenS]
  refine wpSIn_of_wpIn rfl ?_
  gi_wp2
  cases c₀
  simp_all [bodyPostS, results, Try.results46]
/-- What a caught stop leaves. -/
structure Caught (g1 g2 : Nat) (e0 : Int) (v : Value) (er : Int) (w w' : World) : Prop where
  res : Blk w' g1 31 #[.int .i64 e0, v, .slice none 0 0]
  err : Blk w' g2 32 #[.int .i64 er]
  os : w'.os = w.os
  tape : w'.tape = w.tape
  output : w'.output = w.output
  size : w.heap.size ≤ w'.heap.size
  block : ∀ g, g < w.heap.size → g ≠ g1 → g ≠ g2 → w'.heap[g]? = w.heap[g]?
theorem caught_of {g1 g2 : Nat} {e0 x2 er e1 : Int} {v1 v2 v : Value} {w W : World} (BW : Below w.heap.size w W) (B1 : Blk W g1 31 #[.int .i64 e1, v1, v2]) (B2 : Blk W g2 32 #[.int .i64 x2]) (n12 : g1 ≠ g2) :
    Caught g1 g2 e0 v er w (((((W.setCell ⟨g1, 0, none⟩ (.int .i64 e0)).setCell ⟨g1, 1, none⟩ v).setCell ⟨g1, 2, none⟩ (.slice none 0 0)).setCell ⟨g2, 0, none⟩ (.int .i64 er))) := by
  refine ⟨((((B1.set_ 0 (.int .i64 e0)).set_ 1 v).set_ 2 (.slice none 0 0)).far (p := ⟨g2, 0, none⟩) n12 (.int .i64 er) : Blk _ g1 _ _), ((((B2.far (p := ⟨g1, 0, none⟩) n12.symm (.int .i64 e0)).far (p := ⟨g1, 1, none⟩) n12.symm v).far (p := ⟨g1, 2, none⟩) n12.symm (.slice none 0 0)).set0 _ : Blk _ g2 _ _), BW.os, BW.tape, BW.output, by have := BW.size; simpa using this, fun g hg h1 h2 => ?_⟩
  exact (Below.heap_setCell _ ⟨g2, 0, none⟩ _ g h2).trans ((Below.heap_setCell _ ⟨g1, 2, none⟩ _ g h1).trans ((Below.heap_setCell _ ⟨g1, 1, none⟩ _ g h1).trans ((Below.heap_setCell _ ⟨g1, 0, none⟩ _ g h1).trans (BW.block g hg))))
theorem Caught.twice {g1 g2 : Nat} {e0 e0' er er' : Int} {v v' : Value} {w w' : World} (h : Caught g1 g2 e0 v er w w') (n12 : g1 ≠ g2) : Caught g1 g2 e0' v' er' w (((((w'.setCell ⟨g1, 0, none⟩ (.int .i64 e0')).setCell ⟨g1, 1, none⟩ v').setCell ⟨g1, 2, none⟩ (.slice none 0 0)).setCell ⟨g2, 0, none⟩ (.int .i64 er'))) := by
  have k := caught_of (e0 := e0') (er := er') (v := v') (Below.refl w'.heap.size w') h.res h.err n12
  exact ⟨k.res, k.err, k.os.trans h.os, k.tape.trans h.tape, k.output.trans h.output, Nat.le_trans h.size k.size, fun g hg h1 h2 => (k.block g (Nat.lt_of_lt_of_le hg h.size) h1 h2).trans (h.block g hg h1 h2)⟩
theorem Caught.drew {g1 g2 : Nat} {e0 er : Int} {v : Value} {w w' : World} (h : Caught g1 g2 e0 v er w w') : Caught g1 g2 e0 v er w w'.drew := ⟨h.res, h.err, h.os, h.tape, h.output, h.size, h.block⟩
set_option maxHeartbeats 4000000 in
set_option maxRecDepth 100000 in
theorem catch_end (g0 g1 g2 M F s : Nat) (A : Option Addr) (wl wc : Nat) (e1 x2 e0 : Int) (v1 v2 : Value) (n : Nat) (w : World) (h0 : Blk w g0 68 #[.pointer (some ⟨M, 0, none⟩)]) (h1 : Blk w g1 31 #[.int .i64 e1, v1, v2]) (h2 : Blk w g2 32 #[.int .i64 x2]) (hM : Blk w M 70 #[.int .i64 F, .int .i64 s, .slice A wl wc]) :
    CallsDIn Fence.wide n Try.prog 46 #[.pointer (some ⟨g0, 0, none⟩), .pointer (some ⟨g1, 0, none⟩), .pointer (some ⟨g2, 0, none⟩)] (.panicking [{ v := .iface 78 (.agg #[.int .i64 e0, .bool false]), recovered := false }]) w fun e u' w' =>
      e = .returned (.tuple #[]) ∧ settle u' = .returning ∧ Caught g1 g2 e0 (.slice A wl wc) 0 w w' := by
  refine callsDIn_of_wpSIn Try.func46 rfl trivial fun c₀ cs hu => ?_
  simp only [Try.ntmps46, List.size_toArray, List.length_cons, List.length_nil, Nat.reduceAdd, Nat.reduceSub, Array.replicate_succ, Array.replicate_zero, List.push_toArray, List.append_toArray, List.nil_append, List.cons_append]
  apply wpSIn_seq
  apply wpSIn_region
  simp [wpOpsSIn, go_sem, recoverD, hu, Exit.thenS]
  refine wpSIn_of_wpIn rfl (wpIn_wide.2 ?_)
  have hta := assert_stop e0 false
  have l0 := h0.lt
  have l1 := h1.lt
  have l2 := h2.lt
  have lM := hM.lt
  have n01 := h0.ne_ h1 (by decide)
  have n02 := h0.ne_ h2 (by decide)
  have n12 := h1.ne_ h2 (by decide)
  have nM1 := hM.ne_ h1 (by decide)
  have nM2 := hM.ne_ h2 (by decide)
  have n10 := n01.symm
  have n20 := n02.symm
  have n21 := n12.symm
  have n1M := nM1.symm
  have n2M := nM2.symm
  obtain ⟨N, hN⟩ : ∃ N, w.heap.size = N := ⟨_, rfl⟩
  have m0 : g0 ≠ N := by omega
  have m1 : g1 ≠ N := by omega
  have m2 : g2 ≠ N := by omega
  have mM : M ≠ N := by omega
  have m0' := m0.symm
  have m1' := m1.symm
  have m2' := m2.symm
  have mM' := mM.symm
  have z4 : ∀ o, (w.alloc o).frozen? ⟨w.heap.size, 0, none⟩ = false → True := fun _ _ => trivial
  go_wp2
  have BW := al1 w (.cells #[.int .i64 e0, .bool false] 78)
  have B0 := h0.alloc (.cells #[.int .i64 e0, .bool false] 78)
  have B1 := h1.alloc (.cells #[.int .i64 e0, .bool false] 78)
  have B2 := h2.alloc (.cells #[.int .i64 e0, .bool false] 78)
  have BM := hM.alloc (.cells #[.int .i64 e0, .bool false] 78)
  have BN : Blk (w.alloc (.cells #[.int .i64 e0, .bool false] 78)) N 78 #[.int .i64 e0, .bool false] := Blk.new' hN.symm _ _
  obtain ⟨W, hW⟩ : ∃ W, w.alloc (.cells #[.int .i64 e0, .bool false] 78) = W := ⟨_, rfl⟩
  rw [hW] at B0 B1 B2 BM BN BW ⊢
  have HB := hid (And.intro BW (And.intro B1 B2))
  have a0 : W.cell? ⟨g0, 0, none⟩ = some (.pointer (some ⟨M, 0, none⟩)) := B0.cell0
  have a1 : W.cell? ⟨g1, 0, none⟩ = some (.int .i64 e1) := B1.cell 0
  have a2 : W.cell? ⟨g1, 1, none⟩ = some v1 := B1.cell 1
  have a3 : W.cell? ⟨g1, 2, none⟩ = some v2 := B1.cell 2
  have a4 : W.cell? ⟨g2, 0, none⟩ = some (.int .i64 x2) := B2.cell0
  have a5 : W.cell? ⟨M, 2, none⟩ = some (.slice A wl wc) := BM.cell 2
  have a6 : W.cell? ⟨N, 0, none⟩ = some (.int .i64 e0) := BN.cell 0
  have a7 : W.cell? ⟨N, 1, none⟩ = some (.bool false) := BN.cell 1
  have f1 := B1.frozen 0
  have f2 := B1.frozen 1
  have f3 := B1.frozen 2
  have f4 := B2.frozen 0
  clear h0 h1 h2 hM B0 B1 B2 BM BN BW hW hN l0 l1 l2 lM hta z4
  go_region
  go_wp2
  refine ⟨rfl, _, rfl, .tuple #[], by simp [results, Try.results46], rfl, rfl, ?_⟩
  exact Caught.drew (caught_of HB.out.1 HB.out.2.1 HB.out.2.2 n12)
set_option maxHeartbeats 4000000 in
set_option maxRecDepth 100000 in
theorem catch_stuck (g0 g1 g2 M F s : Nat) (A : Option Addr) (wl wc : Nat) (e1 x2 e0 : Int) (v1 v2 : Value) (n : Nat) (w : World) (h0 : Blk w g0 68 #[.pointer (some ⟨M, 0, none⟩)]) (h1 : Blk w g1 31 #[.int .i64 e1, v1, v2]) (h2 : Blk w g2 32 #[.int .i64 x2]) (hM : Blk w M 70 #[.int .i64 F, .int .i64 s, .slice A wl wc]) :
    CallsDIn Fence.wide n Try.prog 46 #[.pointer (some ⟨g0, 0, none⟩), .pointer (some ⟨g1, 0, none⟩), .pointer (some ⟨g2, 0, none⟩)] (.panicking [{ v := .iface 78 (.agg #[.int .i64 e0, .bool true]), recovered := false }]) w fun e u' w' =>
      e = .returned (.tuple #[]) ∧ settle u' = .returning ∧ Caught g1 g2 0 (.slice none 0 0) 190 w w' := by
  refine callsDIn_of_wpSIn Try.func46 rfl trivial fun c₀ cs hu => ?_
  simp only [Try.ntmps46, List.size_toArray, List.length_cons, List.length_nil, Nat.reduceAdd, Nat.reduceSub, Array.replicate_succ, Array.replicate_zero, List.push_toArray, List.append_toArray, List.nil_append, List.cons_append]
  apply wpSIn_seq
  apply wpSIn_region
  simp [wpOpsSIn, go_sem, recoverD, hu, Exit.thenS]
  refine wpSIn_of_wpIn rfl (wpIn_wide.2 ?_)
  have hta := assert_stop e0 true
  have l0 := h0.lt
  have l1 := h1.lt
  have l2 := h2.lt
  have lM := hM.lt
  have n01 := h0.ne_ h1 (by decide)
  have n02 := h0.ne_ h2 (by decide)
  have n12 := h1.ne_ h2 (by decide)
  have nM1 := hM.ne_ h1 (by decide)
  have nM2 := hM.ne_ h2 (by decide)
  have n10 := n01.symm
  have n20 := n02.symm
  have n21 := n12.symm
  have n1M := nM1.symm
  have n2M := nM2.symm
  obtain ⟨N, hN⟩ : ∃ N, w.heap.size = N := ⟨_, rfl⟩
  have m0 : g0 ≠ N := by omega
  have m1 : g1 ≠ N := by omega
  have m2 : g2 ≠ N := by omega
  have mM : M ≠ N := by omega
  have m0' := m0.symm
  have m1' := m1.symm
  have m2' := m2.symm
  have mM' := mM.symm
  have z4 : ∀ o, (w.alloc o).frozen? ⟨w.heap.size, 0, none⟩ = false → True := fun _ _ => trivial
  go_wp2
  have BW := al1 w (.cells #[.int .i64 e0, .bool true] 78)
  have B0 := h0.alloc (.cells #[.int .i64 e0, .bool true] 78)
  have B1 := h1.alloc (.cells #[.int .i64 e0, .bool true] 78)
  have B2 := h2.alloc (.cells #[.int .i64 e0, .bool true] 78)
  have BM := hM.alloc (.cells #[.int .i64 e0, .bool true] 78)
  have BN : Blk (w.alloc (.cells #[.int .i64 e0, .bool true] 78)) N 78 #[.int .i64 e0, .bool true] := Blk.new' hN.symm _ _
  obtain ⟨W, hW⟩ : ∃ W, w.alloc (.cells #[.int .i64 e0, .bool true] 78) = W := ⟨_, rfl⟩
  rw [hW] at B0 B1 B2 BM BN BW ⊢
  have HB := hid (And.intro BW (And.intro B1 B2))
  have a0 : W.cell? ⟨g0, 0, none⟩ = some (.pointer (some ⟨M, 0, none⟩)) := B0.cell0
  have a1 : W.cell? ⟨g1, 0, none⟩ = some (.int .i64 e1) := B1.cell 0
  have a2 : W.cell? ⟨g1, 1, none⟩ = some v1 := B1.cell 1
  have a3 : W.cell? ⟨g1, 2, none⟩ = some v2 := B1.cell 2
  have a4 : W.cell? ⟨g2, 0, none⟩ = some (.int .i64 x2) := B2.cell0
  have a5 : W.cell? ⟨M, 2, none⟩ = some (.slice A wl wc) := BM.cell 2
  have a6 : W.cell? ⟨N, 0, none⟩ = some (.int .i64 e0) := BN.cell 0
  have a7 : W.cell? ⟨N, 1, none⟩ = some (.bool true) := BN.cell 1
  have f1 := B1.frozen 0
  have f2 := B1.frozen 1
  have f3 := B1.frozen 2
  have f4 := B2.frozen 0
  clear h0 h1 h2 hM B0 B1 B2 BM BN BW hW hN l0 l1 l2 lM hta z4
  go_region
  have HC := hid (Caught.drew (caught_of (e0 := e0) (er := 0) (v := .slice A wl wc) HB.out.1 HB.out.2.1 HB.out.2.2 n12))
  have a7' : (((((W.setCell ⟨g1, 0, none⟩ (.int .i64 e0)).setCell ⟨g1, 1, none⟩ (.slice A wl wc)).setCell ⟨g1, 2, none⟩ (.slice none 0 0)).setCell ⟨g2, 0, none⟩ (.int .i64 0))).drew.cell? ⟨N, 1, none⟩ = some (.bool true) := by
    refine (World.cell?_of_block (w := W) (a := ⟨N, 1, none⟩) ?_).trans a7
    exact (Below.heap_setCell _ ⟨g2, 0, none⟩ _ N m2').trans ((Below.heap_setCell _ ⟨g1, 2, none⟩ _ N m1').trans ((Below.heap_setCell _ ⟨g1, 1, none⟩ _ N m1').trans (Below.heap_setCell _ ⟨g1, 0, none⟩ _ N m1')))
  generalize (((((W.setCell ⟨g1, 0, none⟩ (.int .i64 e0)).setCell ⟨g1, 1, none⟩ (.slice A wl wc)).setCell ⟨g1, 2, none⟩ (.slice none 0 0)).setCell ⟨g2, 0, none⟩ (.int .i64 0))).drew = W1 at HC a7' ⊢
  clear a0 a1 a2 a3 a4 a5 a6 a7 f1 f2 f3 f4
  have b1 := HC.out.res.cell 0
  have b2 := HC.out.res.cell 1
  have b3 := HC.out.res.cell 2
  have b4 := HC.out.err.cell0
  have f1 := HC.out.res.frozen 0
  have f2 := HC.out.res.frozen 1
  have f3 := HC.out.res.frozen 2
  have f4 := HC.out.err.frozen 0
  replace b1 : W1.cell? ⟨g1, 0, none⟩ = some (.int .i64 e0) := b1
  replace b2 : W1.cell? ⟨g1, 1, none⟩ = some (.slice A wl wc) := b2
  replace b3 : W1.cell? ⟨g1, 2, none⟩ = some (.slice none 0 0) := b3
  go_wp2
  refine ⟨rfl, _, rfl, .tuple #[], by simp [results, Try.results46], rfl, rfl, ?_⟩
  exact Caught.twice HC.out n12
end Go.Proofs.Ytohdaclbgedeiaa
namespace Go.Proofs.Ytohdaclbgedeiaa
set_option linter.all false
open Go.ChangeShapes Go.WideShapes Go.ChangeAt Go.RowKit Go.Shelf
attribute [local go_sem] Oper.semAt_some
set_option maxHeartbeats 2000000 in
theorem back_new (A : Option Addr) (n c : Nat) (w : World) : Calls Try.prog 47 #[.slice A n c] w fun e w' => e = .returned (.func (.func 61) #[] #[.pointer (some ⟨w.heap.size, 0, none⟩)]) ∧ w' = w.alloc (.cells #[.slice A n c] 22) := by
  go_enter Try.func47, Try.ntmps47
  go_wp2
  go_ret
  exact ⟨rfl, rfl⟩
/-- What lies below n₀ stays, but for block z. -/
def KpZ (n₀ z : Nat) (W W' : World) : Prop := ∀ g, g < n₀ → g ≠ z → W'.heap[g]? = W.heap[g]?
theorem KpZ.t {n₀ z : Nat} {A B C : World} (h : KpZ n₀ z A B) (k : KpZ n₀ z B C) : KpZ n₀ z A C := fun g h1 h2 => (k g h1 h2).trans (h g h1 h2)
set_option maxRecDepth 100000 in
set_option maxHeartbeats 2000000 in
theorem back1_in (n : Nat) (hn : 1 ≤ n) (l Bs n₀ z : Nat) (A : Option Addr) (c : Nat) (xs : List Int) (J Jx : List (Int × Int) → World → Prop)
    (hY : ∀ pre x W, J pre W → pre.length < xs.length → YieldAt Fence.wide (n - 1) Try.prog l #[.int .i64 x.1, .int .i64 x.2] W fun e W' =>
      (e = .returned (.bool true) ∧ J (pre ++ [x]) W' ∧ KpZ n₀ z W W') ∨ (e = .returned (.bool false) ∧ Jx (pre ++ [x]) W'))
    (W : World) (hBs : W.cell? ⟨Bs, 0, none⟩ = some (.slice A xs.length c)) (hBl : Bs < n₀) (hBz : Bs ≠ z) (hI : IAt W (fun b => b < n₀ ∧ b ≠ z) xs A c) (h0 : J [] W) :
    CallsIn Fence.wide n Try.prog 61 #[.func (.yield l) #[] #[], .pointer (some ⟨Bs, 0, none⟩)] W fun e W' => (∃ v, e = .returned v) ∧
      ((∃ ys : List (Int × Int), ys.map Prod.snd = xs.reverse ∧ J ys W') ∨ (∃ pre, True ∧ Jx pre W')) := by
  have hxl := hI.1.2.2.2
  have HI := hid (And.intro hI (And.intro hBs (And.intro hBl hBz)))
  have q1 : IntKind.i64.wrap ((xs.length : Int) - 1) = (xs.length : Int) - 1 := IntWalk.i64_in _ (by omega)
  clear hI hBl hBz
  refine callsIn_of_wp Try.func61 rfl trivial ?_ rfl
  simp only [Try.ntmps61, List.size_toArray, List.length_cons, List.length_nil, Nat.reduceAdd, Nat.reduceSub, Array.replicate_succ, Array.replicate_zero, List.push_toArray, List.append_toArray, List.nil_append, List.cons_append]
  gi_wp2
  gi_loopw [3] (fun i wr => ∃ (m : Nat) (v : Int) (pre : List (Int × Int)), m ≤ xs.length ∧ i = .int .i64 v ∧ v = (m : Int) - 1 ∧ Hid (pre.map Prod.snd = (xs.drop m).reverse) ∧ Hid (J pre wr) ∧ Hid (KpZ n₀ z W wr))
    (fun i _ => (intOf i + 1).toNat)
  case atStart => exact ⟨xs.length, _, [], Nat.le_refl _, rfl, rfl, hid (by simp), hid h0, hid (fun _ _ _ => rfl)⟩
  case round =>
    obtain ⟨m, v, pre, hm, rfl, hv, hpre, hJ, hk⟩ := hrel
    have b0 : wr.cell? ⟨Bs, 0, none⟩ = some (.slice A xs.length c) := cell_of (hk.out _ HI.out.2.2.1 HI.out.2.2.2) (p := ⟨Bs, 0, none⟩) rfl HI.out.2.1
    cases m with
    | zero =>
      obtain rfl : v = -1 := by omega
      clear hv hm
      gi_wp2
      go_end0
      exact ⟨⟨_, rfl⟩, .inl ⟨pre, by have h := hpre.out; simpa using h, hJ.out⟩⟩
    | succ k =>
      obtain rfl : v = k := by omega
      have hlt' : (k : Int) < xs.length := by omega
      obtain ⟨ad, rfl, hS, hcell, hwf⟩ := HI.out.1.2 k (by omega)
      have hge : (0 : Int) ≤ k := by omega
      have eb := add_block ad k
      obtain ⟨x, hx⟩ : ∃ x, x = xs[k]'(by omega) := ⟨_, rfl⟩
      have hc2 : wr.cell? (ad.add k) = some (.int .i64 x) := by rw [hx]; exact cell_of (hk.out _ hS.1 hS.2) eb hcell
      have hlen : pre.length < xs.length := by
        have h := congrArg List.length hpre.out
        simp at h
        omega
      obtain ⟨fn, tmps, assign, body, hy, hR⟩ := hY pre ((k : Int), x) wr hJ.out hlen
      have hdr : xs.drop k = x :: xs.drop (k + 1) := by rw [hx]; exact List.drop_eq_getElem_cons (by omega)
      have HD := hid hdr
      have q2 : IntKind.i64.wrap ((k : Int) - 1) = (k : Int) - 1 := IntWalk.i64_in _ (by omega)
      have hm' := hid hm
      dsimp only at hy hR
      clear hv hm hcell hS eb hwf hlen hx hdr
      gi_wp2
      refine hR.mono ?_
      rintro e W3 (⟨rfl, hJ3, hk3⟩ | ⟨rfl, hJx3⟩)
      · gi_wp2
        go_roundw
        case rel => exact ⟨k, _, pre ++ [((k : Int), x)], by have := hm'.out; omega, rfl, rfl, hid (by rw [HD.out]; have h := hpre.out; simp [h]), hid hJ3, hid (hk.out.t hk3)⟩
        case measure => simp [intOf]
      · gi_wp2
        refine bodyPost_ret (results_none rfl _ _ _) rfl ?_
        exact ⟨⟨_, rfl⟩, .inr ⟨_, trivial, hJx3⟩⟩
end Go.Proofs.Ytohdaclbgedeiaa
namespace Go.Proofs.Ytohdaclbgedeiaa
set_option linter.all false
open Go.ChangeShapes Go.WideShapes Go.ChangeAt Go.RowKit Go.Shelf
open Ev (Co Va En Out evL ev R bnd app around inputV fin resO showV)
/-- Blocks of cells from n0 on, but for z. -/
def CellS (n0 z : Nat) (W : World) : Nat → Prop := fun b => n0 ≤ b ∧ b ≠ z ∧ ∃ o : Obj, W.heap[b]? = some o ∧ o.isCells = true
theorem cells_is {w : World} {g : Nat} {t : TypeId} {cs : Array Value} (h : Blk w g t cs) : ∃ o : Obj, w.heap[g]? = some o ∧ o.isCells = true := ⟨_, h, rfl⟩
/-- What the loop over the inputs knows. -/
structure LI (w WW : World) (z : Nat) (pre : List (Int × Int)) (W : World) : Prop where
  val : ∃ p, Blk W z 79 #[.pointer (some ⟨p, 0, none⟩)] ∧ VAt W (CellS w.heap.size z W) (inputV (pre.map Prod.snd).reverse) (.iface 79 (.pointer (some ⟨p, 0, none⟩)))
  kp : KpZ WW.heap.size z WW W
  below : Below w.heap.size w W
  size : WW.heap.size ≤ W.heap.size
theorem LI.own (w WW : World) (z : Nat) (hz : z < WW.heap.size) (hw : w.heap.size ≤ WW.heap.size) : OwnFrom WW.heap.size (LI w WW z) := by
  intro pre W W' row h hg hr
  have hne : ∀ k (o : Obj), W.heap[k]? = some o → o.isCells = true → some k ≠ row := fun k o ho hc e => by
    obtain ⟨_, o2, h2, h3⟩ := hr k e.symm
    rw [ho] at h2
    injection h2 with h2
    subst h2
    rw [hc] at h3; cases h3
  have hlow : ∀ k, k < WW.heap.size → some k ≠ row := fun k hk e => by have := (hr k e.symm).1; omega
  obtain ⟨p, hp, hv⟩ := h.val
  refine ⟨⟨p, (hg.block z hp.lt (hlow z hz)).trans hp, ?_⟩, fun g h1 h2 => (hg.block g (Nat.lt_of_lt_of_le h1 h.size) (hlow g h1)).trans (h.kp g h1 h2), h.below.grown hg h.below.size (fun k e => by have := (hr k e).1; omega), Nat.le_trans h.size hg.size⟩
  refine VAt.keep (fun k hk hl => ?_) _ _ hv
  obtain ⟨h1, h2, o, h3, h4⟩ := hk
  have h5 := hg.block k hl (hne k o h3 h4)
  exact ⟨h5, h1, h2, o, h5.trans h3, h4⟩
theorem LI.next {w WW W : World} {z : Nat} {pre : List (Int × Int)} {x : Int × Int} {p : Nat} (h : LI w WW z pre W) (hz : z < WW.heap.size) (hwz : w.heap.size ≤ z) (hp : Blk W z 79 #[.pointer (some ⟨p, 0, none⟩)]) :
    ∀ W', W' = (((W.alloc (.cells #[.iface 86 (.int .i64 (w31 x.2)), .iface 79 (.pointer (some ⟨p, 0, none⟩))] 91)).alloc (.cells #[.int .i64 1, .slice (some ⟨W.heap.size, 0, none⟩) 2 2] 82)).setCell ⟨z, 0, none⟩ (.pointer (some ⟨W.heap.size + 1, 0, none⟩))) →
      KeepsFrom WW.heap.size W W' ∧ KpZ WW.heap.size z W W' ∧ LI w WW z (pre ++ [x]) W' := by
  rintro W' rfl
  have hzW : z < W.heap.size := hp.lt
  have hblk : ∀ g, g ≠ z → g < W.heap.size → (((W.alloc (.cells #[.iface 86 (.int .i64 (w31 x.2)), .iface 79 (.pointer (some ⟨p, 0, none⟩))] 91)).alloc (.cells #[.int .i64 1, .slice (some ⟨W.heap.size, 0, none⟩) 2 2] 82)).setCell ⟨z, 0, none⟩ (.pointer (some ⟨W.heap.size + 1, 0, none⟩))).heap[g]? = W.heap[g]? := fun g h1 h2 =>
    (Below.heap_setCell _ ⟨z, 0, none⟩ _ g h1).trans ((al2 W _ _).block g h2)
  have hwz2 : w.heap.size ≤ W.heap.size := h.below.size
  refine ⟨?_, fun g h1 h2 => hblk g h2 (Nat.lt_of_lt_of_le h1 h.size), ⟨⟨W.heap.size + 1, ?_, ?_⟩, ?_, ?_, ?_⟩⟩
  · exact (((KeepsOthers.alloc _ _).trans (KeepsOthers.alloc _ _)).trans (KeepsOthers.setCell _ _ _)).from _
  · exact ((hp.alloc _).alloc _).set0 _
  · have hc : (((W.alloc (.cells #[.iface 86 (.int .i64 (w31 x.2)), .iface 79 (.pointer (some ⟨p, 0, none⟩))] 91)).alloc (.cells #[.int .i64 1, .slice (some ⟨W.heap.size, 0, none⟩) 2 2] 82)).setCell ⟨z, 0, none⟩ (.pointer (some ⟨W.heap.size + 1, 0, none⟩))).heap.size = W.heap.size + 2 := by simp
    have hB1 : Blk (((W.alloc (.cells #[.iface 86 (.int .i64 (w31 x.2)), .iface 79 (.pointer (some ⟨p, 0, none⟩))] 91)).alloc (.cells #[.int .i64 1, .slice (some ⟨W.heap.size, 0, none⟩) 2 2] 82)).setCell ⟨z, 0, none⟩ (.pointer (some ⟨W.heap.size + 1, 0, none⟩))) (W.heap.size + 1) 82 #[.int .i64 1, .slice (some ⟨W.heap.size, 0, none⟩) 2 2] := (Blk.new' (by simp) _ _).far (p := ⟨z, 0, none⟩) (by simp; omega) _
    have hB0 : Blk (((W.alloc (.cells #[.iface 86 (.int .i64 (w31 x.2)), .iface 79 (.pointer (some ⟨p, 0, none⟩))] 91)).alloc (.cells #[.int .i64 1, .slice (some ⟨W.heap.size, 0, none⟩) 2 2] 82)).setCell ⟨z, 0, none⟩ (.pointer (some ⟨W.heap.size + 1, 0, none⟩))) W.heap.size 91 #[.iface 86 (.int .i64 (w31 x.2)), .iface 79 (.pointer (some ⟨p, 0, none⟩))] := ((Blk.new _ _ _).alloc _).far (p := ⟨z, 0, none⟩) (by simp; omega) _
    obtain ⟨p9, hp9, hv⟩ := h.val
    have e9 : p9 = p := by
      have := hp9.symm.trans hp
      simpa using this
    subst e9
    rw [List.map_append, List.reverse_append]
    show VAt _ _ (inputV (x.2 :: (pre.map Prod.snd).reverse)) _
    rw [inputV, VAt]
    refine ⟨⟨W.heap.size + 1, some ⟨W.heap.size, 0, none⟩, 2, rfl, ⟨by omega, by omega, cells_is hB1⟩, hB1, ?_⟩, by decide, by simp⟩
    rw [VRow, VRow, VRow]
    refine ⟨⟨_, _, rfl, ⟨by simp; omega, by simp; omega, cells_is hB0⟩, hB0.cell 0, by rw [VAt]; exact ⟨rfl, wf_small31 (w31_in _)⟩⟩, ⟨_, _, rfl, ⟨by simp; omega, by simp; omega, cells_is hB0⟩, hB0.cell 1, ?_⟩, trivial⟩
    refine VAt.keep (fun k hk hl => ?_) _ _ hv
    obtain ⟨h1, h2, o, h3, h4⟩ := hk
    have h5 := hblk k h2 hl
    exact ⟨h5, h1, h2, o, h5.trans h3, h4⟩
  · exact h.kp.t (fun g h1 h2 => hblk g h2 (Nat.lt_of_lt_of_le h1 h.size))
  · exact below_set (((h.below.alloc hwz2 _).alloc (by simp; omega) _)) hwz _
  · have := h.size; simp; omega
/-- What lies behind the loop over the inputs, through the evaluation. -/
structure WF (w : World) (M F s : Nat) (ws : List Int) (wv : Value) (D : Nat) (W : World) : Prop where
  b0 : Blk W w.heap.size 68 #[.pointer (some ⟨M, 0, none⟩)]
  b1 : Blk W (w.heap.size + 1) 31 #[.int .i64 0, .slice none 0 0, .slice none 0 0]
  b2 : Blk W (w.heap.size + 1 + 1) 32 #[.int .i64 0]
  dD : W.heap[D]? = some (.deferred (some []))
  hD : w.heap.size + 1 + 1 < D
  hM : M < w.heap.size
  mst : MSt W M F s ws wv
  ms : MStep M (.slice none 0 0) wv w W
  own : ∀ g, wv.ownBlock = some g → D < g
theorem WF.step {w : World} {M F s : Nat} {ws : List Int} {wv : Value} {D : Nat} {W : World} (h : WF w M F s ws wv D W) {s3 : Nat} {ws3 : List Int} {wv3 : Value} {w3 : World} (hm : MSt w3 M F s3 ws3 wv3) (hs : MStep M wv wv3 W w3) : WF w M F s3 ws3 wv3 D w3 := by
  have hDl : D < W.heap.size := (Array.getElem?_eq_some_iff.1 h.dD).1
  have hd := h.hD
  have hM := h.hM
  have k : ∀ g, w.heap.size ≤ g → g ≤ D → w3.heap[g]? = W.heap[g]? := fun g h1 h2 => hs.block g (by omega) (by omega) (fun e => by have := h.own g e; omega)
  refine ⟨(k _ (by omega) (by omega)).trans h.b0, (k _ (by omega) (by omega)).trans h.b1, (k _ (by omega) (by omega)).trans h.b2, (k _ (by omega) (by omega)).trans h.dD, hd, hM, hm, h.ms.trans hs, fun g e => ?_⟩
  rcases hs.own g e with e | e
  · exact h.own g e
  · omega
theorem MSt.keep {w w' : World} {M F s : Nat} {ws : List Int} {wv : Value} (h : MSt w M F s ws wv) (hM : w'.heap[M]? = w.heap[M]?) (hk : ∀ g, wv.ownBlock = some g → w'.heap[g]? = w.heap[g]?) : MSt w' M F s ws wv :=
  ⟨hM.trans h.blk, ⟨row_keep h.own.own hk, h.own.wf⟩, h.hF, h.hs, h.hw⟩
/-- The loop's record is gone. -/
theorem WF.put {w : World} {M F s : Nat} {ws : List Int} {wv : Value} {D : Nat} {W : World} (h : WF w M F s ws wv D W) :
    Blk (W.putObj D (.deferred none)) w.heap.size 68 #[.pointer (some ⟨M, 0, none⟩)] ∧ Blk (W.putObj D (.deferred none)) (w.heap.size + 1) 31 #[.int .i64 0, .slice none 0 0, .slice none 0 0] ∧ Blk (W.putObj D (.deferred none)) (w.heap.size + 1 + 1) 32 #[.int .i64 0] ∧ MSt (W.putObj D (.deferred none)) M F s ws wv ∧ MStep M (.slice none 0 0) wv w (W.putObj D (.deferred none)) := by
  have hd := h.hD
  have hM := h.hM
  have k : ∀ g, g ≠ D → (W.putObj D (.deferred none)).heap[g]? = W.heap[g]? := fun g hg => World.putObj_heap_other hg
  refine ⟨(k _ (by omega)).trans h.b0, (k _ (by omega)).trans h.b1, (k _ (by omega)).trans h.b2, h.mst.keep (k _ (by omega)) (fun g e => k g (by have := h.own g e; omega)), h.ms.os, h.ms.tape, h.ms.output, by have := h.ms.size; simpa using this, fun g h1 h2 h3 => (k g (by omega)).trans (h.ms.block g h1 h2 h3), h.ms.own⟩
/-- Behind a stop that was caught. -/
theorem WF.caught {w : World} {M F s : Nat} {ws : List Int} {wv : Value} {D : Nat} {W W' : World} (h : WF w M F s ws wv D W) {e0 er : Int} {v : Value} (hc : Caught (w.heap.size + 1) (w.heap.size + 1 + 1) e0 v er (W.putObj D (.deferred none)) W') : MSt W' M F s ws wv ∧ MStep M (.slice none 0 0) wv w W' := by
  obtain ⟨p0, p1, p2, p3, p4⟩ := h.put
  have hd := h.hD
  have hM := h.hM
  have hsz := p4.size
  refine ⟨p3.keep (hc.block M (by omega) (by omega) (by omega)) (fun g e => hc.block g (p3.own.own.lt g e).2 (by have := h.own g e; omega) (by have := h.own g e; omega)), hc.os.trans p4.os, hc.tape.trans p4.tape, hc.output.trans p4.output, Nat.le_trans p4.size hc.size, fun g h1 h2 h3 => (hc.block g (by omega) (by omega) (by omega)).trans (p4.block g h1 h2 h3), p4.own⟩
/-- What whole hands back. -/
def WholeP (F s : Nat) (r : Int × List Int × List Int × Int) (M : Nat) (w : World) (e : Ending) (w' : World) : Prop := ∃ A1 c1 A2 c2 ws wv', e = .returned (.tuple #[.agg #[.int .i64 r.1, .slice A1 r.2.1.length c1, .slice A2 r.2.2.1.length c2], .int .i64 r.2.2.2]) ∧ OwnI w' (M + 1) (.slice A1 r.2.1.length c1) r.2.1 ∧ OwnI w' (M + 1) (.slice A2 r.2.2.1.length c2) r.2.2.1 ∧ MSt w' M F s ws wv' ∧ MStep M (.slice none 0 0) wv' w w'
theorem whole_catch (k : Int) (g0 g1 g2 M F s : Nat) (A : Option Addr) (wl wc : Nat) (e1 x2 : Int) (v1 v2 : Value) (n : Nat) (w : World) (h0 : Blk w g0 68 #[.pointer (some ⟨M, 0, none⟩)]) (h1 : Blk w g1 31 #[.int .i64 e1, v1, v2]) (h2 : Blk w g2 32 #[.int .i64 x2]) (hM : Blk w M 70 #[.int .i64 F, .int .i64 s, .slice A wl wc]) :
    CallsDIn Fence.wide n Try.prog 46 #[.pointer (some ⟨g0, 0, none⟩), .pointer (some ⟨g1, 0, none⟩), .pointer (some ⟨g2, 0, none⟩)] (.panicking [stopV k]) w fun e u' w' =>
      e = .returned (.tuple #[]) ∧ settle u' = .returning ∧ Caught g1 g2 (if k < 0 then 0 else k) (if k < 0 then .slice none 0 0 else .slice A wl wc) (if k < 0 then 190 else 0) w w' := by
  unfold stopV
  by_cases hk : k < 0
  · simp only [if_pos hk, decide_eq_true hk]
    exact catch_stuck g0 g1 g2 M F s A wl wc e1 x2 0 v1 v2 n w h0 h1 h2 hM
  · simp only [if_neg hk, decide_eq_false hk]
    exact catch_end g0 g1 g2 M F s A wl wc e1 x2 k v1 v2 n w h0 h1 h2 hM
theorem eval_EvI {T : Nat → Prop} {w : World} {M F : Nat} {wv : Value} {o : Out Va} {s' : Nat} {ws' : List Int} {g : Nat} {cp : Addr} {ep : Option Addr} {wr : World} (h : EvI T w M F wv o s' ws' g cp ep wr) : Calls Try.prog 50 #[.pointer (some ⟨M, 0, none⟩), .pointer (some cp), .pointer ep] wr (EvP T o F s' ws' M wv w) := by
  obtain ⟨c, e, si, wsi, wvi, hMS, hc, he, hE⟩ := h
  exact (eval_all F g c e si wsi o s' ws' hE (Now T w) wr M cp ep wvi hMS.1 hc he).mono (fun e w' h9 => evP_up hMS.2 h9)
theorem app_no {k : Int} {xs : Array Value} {w : World} {R : World → Prop} (h : Calls Try.prog 49 xs w (fun e w' => e = .panicked [stopV k] ∧ R w')) : Calls Try.prog 49 xs w (fun e w' => (e = .returned (.tuple #[.pointer none, .pointer none]) ∧ w' = w ∧ Hid False) ∨ (e = .panicked [stopV k] ∧ R w')) := h.mono (fun _ _ h => .inr h)
theorem grown_step {w w' : World} {M : Nat} {wv : Value} (h : w.grownBy w' none) : MStep M wv wv w w' := ⟨h.os, h.tape, h.output, h.size, fun k hk _ _ => h.block k hk (fun e => by cases e), fun _ h => .inl h⟩
theorem MSt.grown {w w' : World} {M F s : Nat} {ws : List Int} {wv : Value} (hm : MSt w M F s ws wv) (h : w.grownBy w' none) : MSt w' M F s ws wv := hm.keep (h.block M hm.blk.lt (fun e => by cases e)) (fun g e => h.block g (hm.own.own.lt g e).2 (fun e => by cases e))
/-- What is shown of a value, for a call through the interface. -/
def ShX (u : Va) (w : World) (v : Value) (B : Nat) : Prop := match u with
  | .num n => Calls Try.prog 93 #[.int .i64 n, .slice none 0 0] w (ShP (showV u []) B (.slice none 0 0) w)
  | .con _ _ => ∀ p, v = .iface 79 (.pointer p) → Calls Try.prog 91 #[.pointer p, .slice none 0 0] w (ShP (showV u []) B (.slice none 0 0) w)
  | .clo _ _ _ _ => ∀ p, v = .iface 103 (.pointer p) → Calls Try.prog 94 #[.pointer p, .slice none 0 0] w (ShP (showV u []) B (.slice none 0 0) w)
theorem shows_ (u : Va) {S : Nat → Prop} {w : World} {v : Value} (B : Nat) (hB : B ≤ w.heap.size) (hv : VAt w S u v) : ShX u w v B :=
  shows_all _ u (Nat.le_refl _) S w v B (.slice none 0 0) [] hB hv (fun k _ _ e => by simp [Value.ownBlock] at e) (OwnI.nil _ _) (by simp)
theorem shX_num {n : Int} {w : World} {v : Value} {B : Nat} {R : Out (List Int)} (h : ShX (.num n) w v B) (hs : showV (.num n) [] = R) : Calls Try.prog 93 #[.int .i64 n, .slice none 0 0] w (ShP R B (.slice none 0 0) w) := by
  subst hs; exact h
theorem shX_con {t : Int} {us : List Va} {w : World} {p : Option Addr} {B : Nat} {R : Out (List Int)} (h : ShX (.con t us) w (.iface 79 (.pointer p)) B) (hs : showV (.con t us) [] = R) : Calls Try.prog 91 #[.pointer p, .slice none 0 0] w (ShP R B (.slice none 0 0) w) := by
  subst hs; exact h p rfl
theorem shX_clo {x self : Int} {b : Co} {e : En} {w : World} {p : Option Addr} {B : Nat} {R : Out (List Int)} (h : ShX (.clo x self b e) w (.iface 103 (.pointer p)) B) (hs : showV (.clo x self b e) [] = R) : Calls Try.prog 94 #[.pointer p, .slice none 0 0] w (ShP R B (.slice none 0 0) w) := by
  subst hs; exact h p rfl
/-- The cells that the last statement reads and writes. -/
theorem WF.cells {w : World} {M F s : Nat} {ws : List Int} {wv : Value} {D : Nat} {W : World} (h : WF w M F s ws wv D W) :
    W.cell? ⟨w.heap.size, 0, none⟩ = some (.pointer (some ⟨M, 0, none⟩)) ∧ W.cell? ⟨M, 2, none⟩ = some wv ∧ W.cell? ⟨w.heap.size + 1, 0, none⟩ = some (.int .i64 0) ∧ W.cell? ⟨w.heap.size + 1, 1, none⟩ = some (.slice none 0 0) ∧ W.cell? ⟨w.heap.size + 1, 2, none⟩ = some (.slice none 0 0) ∧ W.cell? ⟨w.heap.size + 1 + 1, 0, none⟩ = some (.int .i64 0) ∧
    W.frozen? ⟨w.heap.size + 1, 0, none⟩ = false ∧ W.frozen? ⟨w.heap.size + 1, 1, none⟩ = false ∧ W.frozen? ⟨w.heap.size + 1, 2, none⟩ = false ∧ W.frozen? ⟨w.heap.size + 1 + 1, 0, none⟩ = false :=
  ⟨h.b0.cell0, h.mst.blk.cell 2, h.b1.cell 0, h.b1.cell 1, h.b1.cell 2, h.b2.cell0, h.b1.frozen 0, h.b1.frozen 1, h.b1.frozen 2, h.b2.frozen 0⟩
theorem set4_of {W : World} {g1 g2 : Nat} {t1 t2 : TypeId} {a b c d : Value} (h1 : Blk W g1 t1 #[a, b, c]) (h2 : Blk W g2 t2 #[d]) (n : g1 ≠ g2) (x y z u : Value) :
    Blk ((((W.setCell ⟨g1, 0, none⟩ x).setCell ⟨g1, 1, none⟩ y).setCell ⟨g1, 2, none⟩ z).setCell ⟨g2, 0, none⟩ u) g1 t1 #[x, y, z] ∧ Blk ((((W.setCell ⟨g1, 0, none⟩ x).setCell ⟨g1, 1, none⟩ y).setCell ⟨g1, 2, none⟩ z).setCell ⟨g2, 0, none⟩ u) g2 t2 #[u] :=
  ⟨((((h1.set_ 0 x).set_ 1 y).set_ 2 z).far (p := ⟨g2, 0, none⟩) n u : Blk _ g1 _ _), ((((h2.far (p := ⟨g1, 0, none⟩) n.symm x).far (p := ⟨g1, 1, none⟩) n.symm y).far (p := ⟨g1, 2, none⟩) n.symm z).set0 _ : Blk _ g2 _ _)⟩
/-- Behind the last statement. -/
theorem WF.done {w : World} {M F s : Nat} {ws : List Int} {wv : Value} {D : Nat} {W : World} (h : WF w M F s ws wv D W) {lv : Value} {l : List Int} (ho : OwnI W (M + 1) lv l) (hn : ∀ g, lv.ownBlock = some g → D < g) :
    ∀ W', W' = ((((W.setCell ⟨w.heap.size + 1, 0, none⟩ (.int .i64 1)).setCell ⟨w.heap.size + 1, 1, none⟩ wv).setCell ⟨w.heap.size + 1, 2, none⟩ lv).setCell ⟨w.heap.size + 1 + 1, 0, none⟩ (.int .i64 0)) →
      W'.heap[D]? = some (.deferred (some [])) ∧ (W'.putObj D (.deferred none)).cell? ⟨w.heap.size + 1, 0, none⟩ = some (.int .i64 1) ∧ (W'.putObj D (.deferred none)).cell? ⟨w.heap.size + 1, 1, none⟩ = some wv ∧ (W'.putObj D (.deferred none)).cell? ⟨w.heap.size + 1, 2, none⟩ = some lv ∧ (W'.putObj D (.deferred none)).cell? ⟨w.heap.size + 1 + 1, 0, none⟩ = some (.int .i64 0) ∧
      OwnI (W'.putObj D (.deferred none)) (M + 1) lv l ∧ MSt (W'.putObj D (.deferred none)) M F s ws wv ∧ MStep M (.slice none 0 0) wv w (W'.putObj D (.deferred none)) := by
  rintro W' rfl
  have hd := h.hD
  have hM := h.hM
  have hsz := h.ms.size
  generalize hW' : ((((W.setCell ⟨w.heap.size + 1, 0, none⟩ (.int .i64 1)).setCell ⟨w.heap.size + 1, 1, none⟩ wv).setCell ⟨w.heap.size + 1, 2, none⟩ lv).setCell ⟨w.heap.size + 1 + 1, 0, none⟩ (.int .i64 0)) = W'
  have k : ∀ g, g ≠ w.heap.size + 1 → g ≠ w.heap.size + 1 + 1 → W'.heap[g]? = W.heap[g]? := fun g h1 h2 => by
    rw [← hW']
    exact (Below.heap_setCell _ ⟨w.heap.size + 1 + 1, 0, none⟩ _ g h2).trans ((Below.heap_setCell _ ⟨w.heap.size + 1, 2, none⟩ _ g h1).trans ((Below.heap_setCell _ ⟨w.heap.size + 1, 1, none⟩ _ g h1).trans (Below.heap_setCell _ ⟨w.heap.size + 1, 0, none⟩ _ g h1)))
  have k2 : ∀ g, g ≠ w.heap.size + 1 → g ≠ w.heap.size + 1 + 1 → g ≠ D → (W'.putObj D (.deferred none)).heap[g]? = W.heap[g]? := fun g h1 h2 h3 => (World.putObj_heap_other h3).trans (k g h1 h2)
  obtain ⟨B1, B2⟩ := set4_of h.b1 h.b2 (by omega) (.int .i64 1) wv lv (.int .i64 0)
  rw [hW'] at B1 B2
  have B1' : Blk (W'.putObj D (.deferred none)) (w.heap.size + 1) 31 #[.int .i64 1, wv, lv] := (World.putObj_heap_other (by omega)).trans B1
  have B2' : Blk (W'.putObj D (.deferred none)) (w.heap.size + 1 + 1) 32 #[.int .i64 0] := (World.putObj_heap_other (by omega)).trans B2
  have hsz2 : W'.heap.size = W.heap.size := by rw [← hW']; simp
  have hb : Below 0 W W' := by
    rw [← hW']
    exact below_set (below_set (below_set (below_set (Below.refl 0 W) (Nat.zero_le _) _) (Nat.zero_le _) _) (Nat.zero_le _) _) (Nat.zero_le _) _
  refine ⟨(k D (by omega) (by omega)).trans h.dD, B1'.cell 0, B1'.cell 1, B1'.cell 2, B2'.cell0, ⟨row_keep ho.own (fun g e => k2 g (by have := hn g e; omega) (by have := hn g e; omega) (by have := hn g e; omega)), ho.wf⟩, h.mst.keep (k2 M (by omega) (by omega) (by omega)) (fun g e => k2 g (by have := h.own g e; omega) (by have := h.own g e; omega) (by have := h.own g e; omega)), ?_, ?_, ?_, by simpa [hsz2] using hsz, fun g h1 h2 h3 => (k2 g (by omega) (by omega) (by omega)).trans (h.ms.block g h1 h2 h3), h.ms.own⟩
  · exact (show (W'.putObj D (.deferred none)).os = W'.os from rfl).trans (hb.os.trans h.ms.os)
  · exact (show (W'.putObj D (.deferred none)).tape = W'.tape from rfl).trans (hb.tape.trans h.ms.tape)
  · exact (show (W'.putObj D (.deferred none)).output = W'.output from rfl).trans (hb.output.trans h.ms.output)
end Go.Proofs.Ytohdaclbgedeiaa
