/-
  slices.Backward OVER INTEGERS, AND ITS ITERATOR. THE LOOP OVER THE INPUTS IN cpsrun.run.
-/
import Derived.Test.YtdmkjndlobichaaKWhole
import Derived.Test.YtdmkjndlobichaaKGoods
import Derived.Tactics
import Derived.Tactics2
import Derived.Laws.Pointers
import Derived.TacticsInMore
import Derived.RegionIn
import Derived.LoopNIn
import Derived.RecoverIn
import Derived.ControlIn
import Derived.Deep.RegionHeld3
import Derived.RangeFuncNested
import Derived.RangeFuncBound
import Derived.RangeFuncCalls
import Derived.RangeFuncLeaves
import Derived.RangeFuncWrites
import Derived.Shelf.Abstract
import Derived.Shelf.RegionOpen
import Derived.WalkKit
import Derived.OwnWalkIn
import Derived.LoopIn
namespace Go.Proofs.Ytdmkjndlobichaa
set_option linter.all false
open Go.ChangeShapes Go.WideShapes Go.ChangeAt Go.RowKit Go.Shelf
attribute [local go_sem] Oper.semAt_some
set_option maxHeartbeats 2000000 in
theorem back_new (A : Option Addr) (n c : Nat) (w : World) : Calls Try.prog 52 #[.slice A n c] w fun e w' => e = .returned (.func (.func 88) #[] #[.pointer (some ⟨w.heap.size, 0, none⟩)]) ∧ w' = w.alloc (.cells #[.slice A n c] 22) := by
  go_enter Try.func52, Try.ntmps52
  go_wp2
  go_ret
  exact ⟨rfl, rfl⟩
/-- What lies below n₀ stays, but for block z. -/
def KpZ (n₀ z : Nat) (W W' : World) : Prop := ∀ g, g < n₀ → g ≠ z → W'.heap[g]? = W.heap[g]?
theorem KpZ.t {n₀ z : Nat} {A B C : World} (h : KpZ n₀ z A B) (k : KpZ n₀ z B C) : KpZ n₀ z A C := fun g h1 h2 => (k g h1 h2).trans (h g h1 h2)
set_option maxRecDepth 100000 in
set_option maxHeartbeats 2000000 in
theorem back1_in (n : Nat) (hn : 1 ≤ n) (l Bs n₀ z : Nat) (A : Option Addr) (c : Nat) (xs : List Int) (J Jx : List (Int × Int) → World → Prop)
    (hY : ∀ pre x W, J pre W → pre.length < xs.length → YieldAt Fence.wide (n - 1) Try.prog l #[.int .i64 x.1, .int .i64 x.2] W fun e W' =>
      (e = .returned (.bool true) ∧ J (pre ++ [x]) W' ∧ KpZ n₀ z W W') ∨ (e = .returned (.bool false) ∧ Jx (pre ++ [x]) W'))
    (W : World) (hBs : W.cell? ⟨Bs, 0, none⟩ = some (.slice A xs.length c)) (hBl : Bs < n₀) (hBz : Bs ≠ z) (hI : IAt W (fun b => b < n₀ ∧ b ≠ z) xs A c) (h0 : J [] W) :
    CallsIn Fence.wide n Try.prog 88 #[.func (.yield l) #[] #[], .pointer (some ⟨Bs, 0, none⟩)] W fun e W' => (∃ v, e = .returned v) ∧
      ((∃ ys : List (Int × Int), ys.map Prod.snd = xs.reverse ∧ J ys W') ∨ (∃ pre, True ∧ Jx pre W')) := by
  have hxl := hI.1.2.2.2
  have HI := hid (And.intro hI (And.intro hBs (And.intro hBl hBz)))
  have q1 : IntKind.i64.wrap ((xs.length : Int) - 1) = (xs.length : Int) - 1 := IntWalk.i64_in _ (by omega)
  clear hI hBl hBz
  refine callsIn_of_wp Try.func88 rfl trivial ?_ rfl
  simp only [Try.ntmps88, List.size_toArray, List.length_cons, List.length_nil, Nat.reduceAdd, Nat.reduceSub, Array.replicate_succ, Array.replicate_zero, List.push_toArray, List.append_toArray, List.nil_append, List.cons_append]
  gi_wp2
  gi_loopw [3] (fun i wr => ∃ (m : Nat) (v : Int) (pre : List (Int × Int)), m ≤ xs.length ∧ i = .int .i64 v ∧ v = (m : Int) - 1 ∧ Hid (pre.map Prod.snd = (xs.drop m).reverse) ∧ Hid (J pre wr) ∧ Hid (KpZ n₀ z W wr))
    (fun i _ => (intOf i + 1).toNat)
  case atStart => exact ⟨xs.length, _, [], Nat.le_refl _, rfl, rfl, hid (by simp), hid h0, hid (fun _ _ _ => rfl)⟩
  case round =>
    obtain ⟨m, v, pre, hm, rfl, hv, hpre, hJ, hk⟩ := hrel
    have b0 : wr.cell? ⟨Bs, 0, none⟩ = some (.slice A xs.length c) := cell_of (hk.out _ HI.out.2.2.1 HI.out.2.2.2) (p := ⟨Bs, 0, none⟩) rfl HI.out.2.1
    cases m with
    | zero =>
      obtain rfl : v = -1 := by omega
      clear hv hm
      gi_wp2
      go_end0
      exact ⟨⟨_, rfl⟩, .inl ⟨pre, by have h := hpre.out; simpa using h, hJ.out⟩⟩
    | succ k =>
      obtain rfl : v = k := by omega
      have hlt' : (k : Int) < xs.length := by omega
      obtain ⟨ad, rfl, hS, hcell, hwf⟩ := HI.out.1.2 k (by omega)
      have hge : (0 : Int) ≤ k := by omega
      have eb := add_block ad k
      obtain ⟨x, hx⟩ : ∃ x, x = xs[k]'(by omega) := ⟨_, rfl⟩
      have hc2 : wr.cell? (ad.add k) = some (.int .i64 x) := by rw [hx]; exact cell_of (hk.out _ hS.1 hS.2) eb hcell
      have hlen : pre.length < xs.length := by
        have h := congrArg List.length hpre.out
        simp at h
        omega
      obtain ⟨fn, tmps, assign, body, hy, hR⟩ := hY pre ((k : Int), x) wr hJ.out hlen
      have hdr : xs.drop k = x :: xs.drop (k + 1) := by rw [hx]; exact List.drop_eq_getElem_cons (by omega)
      have HD := hid hdr
      have q2 : IntKind.i64.wrap ((k : Int) - 1) = (k : Int) - 1 := IntWalk.i64_in _ (by omega)
      have hm' := hid hm
      dsimp only at hy hR
      clear hv hm hcell hS eb hwf hlen hx hdr
      gi_wp2
      refine hR.mono ?_
      rintro e W3 (⟨rfl, hJ3, hk3⟩ | ⟨rfl, hJx3⟩)
      · gi_wp2
        go_roundw
        case rel => exact ⟨k, _, pre ++ [((k : Int), x)], by have := hm'.out; omega, rfl, rfl, hid (by rw [HD.out]; have h := hpre.out; simp [h]), hid hJ3, hid (hk.out.t hk3)⟩
        case measure => simp [intOf]
      · gi_wp2
        refine bodyPost_ret (results_none rfl _ _ _) rfl ?_
        exact ⟨⟨_, rfl⟩, .inr ⟨_, trivial, hJx3⟩⟩
open Tm (Te Pv Fr inputP frs0 goodT RunP)
/-- Blocks of cells from n0 on, but for z. -/
def CellS (n0 z : Nat) (W : World) : Nat → Prop := fun b => n0 ≤ b ∧ b ≠ z ∧ ∃ o : Obj, W.heap[b]? = some o ∧ o.isCells = true
theorem cells_is {w : World} {g : Nat} {t : TypeId} {cs : Array Value} (h : Blk w g t cs) : ∃ o : Obj, w.heap[g]? = some o ∧ o.isCells = true := ⟨_, h, rfl⟩
/-- What the loop over the inputs knows. -/
structure KLI (w WW : World) (z : Nat) (pre : List (Int × Int)) (W : World) : Prop where
  val : ∃ p, Blk W z 101 #[.pointer (some ⟨p, 0, none⟩)] ∧ PAt W (CellS w.heap.size z W) [] (inputP (pre.map Prod.snd).reverse) p
  kp : KpZ WW.heap.size z WW W
  below : Below w.heap.size w W
  size : WW.heap.size ≤ W.heap.size
theorem KLI.own (w WW : World) (z : Nat) (hz : z < WW.heap.size) (hw : w.heap.size ≤ WW.heap.size) : OwnFrom WW.heap.size (KLI w WW z) := by
  intro pre W W' row h hg hr
  have hne : ∀ k (o : Obj), W.heap[k]? = some o → o.isCells = true → some k ≠ row := fun k o ho hc e => by
    obtain ⟨_, o2, h2, h3⟩ := hr k e.symm
    rw [ho] at h2
    injection h2 with h2
    subst h2
    rw [hc] at h3; cases h3
  have hlow : ∀ k, k < WW.heap.size → some k ≠ row := fun k hk e => by have := (hr k e.symm).1; omega
  obtain ⟨p, hp, hv⟩ := h.val
  refine ⟨⟨p, (hg.block z hp.lt (hlow z hz)).trans hp, ?_⟩, fun g h1 h2 => (hg.block g (Nat.lt_of_lt_of_le h1 h.size) (hlow g h1)).trans (h.kp g h1 h2), h.below.grown hg h.below.size (fun k e => by have := (hr k e).1; omega), Nat.le_trans h.size hg.size⟩
  refine PAt.keep (Ext.refl _) (fun k hk hl => ?_) _ _ hv
  obtain ⟨h1, h2, o, h3, h4⟩ := hk
  have h5 := hg.block k hl (hne k o h3 h4)
  exact ⟨h5, h1, h2, o, h5.trans h3, h4⟩
theorem KLI.next {w WW W : World} {z : Nat} {pre : List (Int × Int)} {x : Int × Int} {p : Nat} (h : KLI w WW z pre W) (hz : z < WW.heap.size) (hwz : w.heap.size ≤ z) (hp : Blk W z 101 #[.pointer (some ⟨p, 0, none⟩)]) :
    ∀ W', W' = (((((W).alloc (.cells #[.int .i64 1, .int .i64 (w31 x.2), .slice none 0 0, .pointer none, .pointer none] 106)).alloc (.cells #[.pointer (some ⟨(W).heap.size, 0, none⟩), .pointer (some ⟨p, 0, none⟩)] 101)).alloc (.cells #[.int .i64 2, .int .i64 1, .slice (some ⟨(W).heap.size + 1, 0, none⟩) 2 2, .pointer none, .pointer none] 106)).setCell ⟨z, 0, none⟩ (.pointer (some ⟨(W).heap.size + 1 + 1, 0, none⟩))) → KeepsFrom WW.heap.size W W' ∧ KpZ WW.heap.size z W W' ∧ KLI w WW z (pre ++ [x]) W' := by
  intro W' hW'
  have hzW : z < W.heap.size := hp.lt
  have hblk : ∀ g, g ≠ z → g < W.heap.size → W'.heap[g]? = W.heap[g]? := fun g h1 h2 => by
    rw [hW']
    exact (Below.heap_setCell _ ⟨z, 0, none⟩ _ g h1).trans ((by go_grown : Below W.heap.size W (((W.alloc _).alloc _).alloc _)).block g h2)
  have hwz2 : w.heap.size ≤ W.heap.size := h.below.size
  have hsz : W'.heap.size = W.heap.size + 3 := by rw [hW']; simp
  have hB2 : Blk W' (W.heap.size + 1 + 1) 106 #[.int .i64 2, .int .i64 1, .slice (some ⟨W.heap.size + 1, 0, none⟩) 2 2, .pointer none, .pointer none] := by rw [hW']; exact (Blk.new' (by simp) _ _).far (p := ⟨z, 0, none⟩) (by simp; omega) _
  have hB1 : Blk W' (W.heap.size + 1) 101 #[.pointer (some ⟨W.heap.size, 0, none⟩), .pointer (some ⟨p, 0, none⟩)] := by rw [hW']; exact ((Blk.new' (by simp) _ _).alloc _).far (p := ⟨z, 0, none⟩) (by simp; omega) _
  have hB0 : Blk W' W.heap.size 106 #[.int .i64 1, .int .i64 (w31 x.2), .slice none 0 0, .pointer none, .pointer none] := by rw [hW']; exact (((Blk.new _ _ _).alloc _).alloc _).far (p := ⟨z, 0, none⟩) (by simp; omega) _
  have hZ : Blk W' z 101 #[.pointer (some ⟨W.heap.size + 1 + 1, 0, none⟩)] := by rw [hW']; exact (((hp.alloc _).alloc _).alloc _).set0 _
  have hbw : Below w.heap.size w W' := by rw [hW']; exact below_set (((h.below.alloc hwz2 _).alloc (by simp; omega) _).alloc (by simp; omega) _) hwz _
  have hkf : KeepsFrom WW.heap.size W W' := by rw [hW']; exact ((((KeepsOthers.alloc _ _).trans (KeepsOthers.alloc _ _)).trans (KeepsOthers.alloc _ _)).trans (KeepsOthers.setCell _ _ _)).from _
  clear hW'
  refine ⟨hkf, fun g h1 h2 => hblk g h2 (Nat.lt_of_lt_of_le h1 h.size), ⟨⟨W.heap.size + 1 + 1, hZ, ?_⟩, h.kp.t (fun g h1 h2 => hblk g h2 (Nat.lt_of_lt_of_le h1 h.size)), hbw, by have := h.size; omega⟩⟩
  obtain ⟨p9, hp9, hv⟩ := h.val
  have e9 : p9 = p := by
    have := hp9.symm.trans hp
    simpa using this
  subst e9
  rw [List.map_append, List.reverse_append]
  show PAt _ _ _ (inputP (x.2 :: (pre.map Prod.snd).reverse)) _
  rw [inputP, PAt]
  refine ⟨⟨by omega, by omega, cells_is hB2⟩, ⟨some ⟨W.heap.size + 1, 0, none⟩, 2, hB2, by simp, by decide, by simp, ?_⟩, by decide, by simp⟩
  rw [PRow, PRow, PRow]
  refine ⟨⟨_, _, rfl, ⟨by simp; omega, by simp; omega, cells_is hB1⟩, hB1.cell 0, ?_⟩, ⟨_, _, rfl, ⟨by simp; omega, by simp; omega, cells_is hB1⟩, hB1.cell 1, ?_⟩, trivial⟩
  · rw [PAt]
    exact ⟨⟨by omega, by omega, cells_is hB0⟩, hB0, wf_small31 (w31_in _)⟩
  · refine PAt.keep (Ext.refl _) (fun k hk hl => ?_) _ _ hv
    obtain ⟨h1, h2, o, h3, h4⟩ := hk
    have h5 := hblk k h2 hl
    exact ⟨h5, h1, h2, o, h5.trans h3, h4⟩
end Go.Proofs.Ytdmkjndlobichaa
