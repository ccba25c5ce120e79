/-
  THE WALKS OF cpsrun.run, Run, Steps.
-/
import Derived.Test.YtdmkjndlobichaaKRunP
import Derived.Test.YtdmkjndlobichaaKWeigh
import Derived.Test.YtdmkjndlobichaaRegTail
import Derived.Deep.RegionLaw
import Derived.Test.YtdmkjndlobichaaHKeep
import Derived.Test.YtdmkjndlobichaaKMach
import Derived.Test.YtdmkjndlobichaaKCopy
import Derived.Test.YtdmkjndlobichaaKAt
import Derived.Deep.Strs
import Derived.ProofKit
namespace Go.Proofs.Ytdmkjndlobichaa
set_option linter.all false
open Go.ChangeShapes Go.WideShapes Go.ChangeAt Go.RowKit Go.Shelf
open Tm (Te Pv Fr inputP frs0 goodT RunP)
attribute [local go_sem] Oper.semAt_some
theorem Blk.three {w : World} {g : Nat} {t : TypeId} {a b c : Value} (h : Blk w g t #[a, b, c]) : w.cell? ⟨g, 0, none⟩ = some a ∧ w.cell? ⟨g, 1, none⟩ = some b ∧ w.cell? ⟨g, 2, none⟩ = some c := ⟨h.cell 0, h.cell 1, h.cell 2⟩
/-- A row of integers of one's own, from block B on. -/
def RowI (w : World) (B : Nat) (A : Option Addr) (c : Nat) (xs : List Int) : Prop := w.ownsRow B 3 1 (.slice A xs.length c) xs.length (xs.map (.int .i64)) ∧ ∀ x ∈ xs, (Lit.int .i64 x).wf = true
/-- What a run hands back. -/
def RunKV (t : Te) (l : List Int) (fuel : Int) (w : World) (e : Ending) (w' : World) : Prop := ∃ r n A1 c1 A2 c2, RunP t l fuel r n ∧ e = .returned (.tuple #[.agg #[.int .i64 r.1, .slice A1 r.2.1.length c1, .slice A2 r.2.2.1.length c2], .int .i64 (n : Nat), .int .i64 r.2.2.2]) ∧ RowI w' w.heap.size A1 c1 r.2.1 ∧ RowI w' w.heap.size A2 c2 r.2.2.1 ∧ Below w.heap.size w w'
theorem RowI.nil (w : World) (B : Nat) : RowI w B none 0 [] := ⟨World.ownsRow_nil _ _ _ _, by simp⟩
theorem ret_krun {R : Ending → World → Prop} {a : Act} {w : World} {g : Nat} {v0 v1 v2 u7 u8 : Value} (h6 : a.tmps.getD 6 undef = .pointer (some ⟨g, 0, none⟩)) (h7 : a.tmps.getD 7 undef = u7) (h8 : a.tmps.getD 8 undef = u8) (hg : Blk w g 32 #[v0, v1, v2]) (hd : a.defers = [])
    (hR : R (.returned (.tuple #[.agg #[v0, v1, v2], u7, u8])) w) : bodyPost Try.prog Try.f29 R .ret a w := by
  have y0 : w.cell? ⟨g, 0, none⟩ = some v0 := hg.cell 0
  have y1 : w.cell? ⟨g, 1, none⟩ = some v1 := hg.cell 1
  have y2 : w.cell? ⟨g, 2, none⟩ = some v2 := hg.cell 2
  rw [Array.getD_eq_getD_getElem?] at h6 h7 h8
  refine bodyPost_ret ?_ hd hR
  simp [results, Try.results29, go_sem, h6, h7, h8, y0, y1, y2]
set_option maxHeartbeats 4000000 in
set_option maxRecDepth 100000 in
theorem krun_bad (w : World) (t : Te) (v : Value) (S : Nat → Prop) (l : List Int) (A : Option Addr) (cA : Nat) (fuel : Int) (hv : TAt w S t v) (hn : Tm.names t ≤ 1000000000000) (hg : goodT t = false) : Calls Try.prog 29 #[v, .slice A l.length cA, .int .i64 fuel] w (RunKV t l fuel w) := by
  have HV := hid (And.intro hv.low (And.intro (And.intro hg trivial) hn))
  obtain ⟨k, x, m, i, T, tl, tc, A2, al, ac, F9, fl, fc, U, ul, uc, rfl⟩ := hv.agg
  clear hv hg hn
  go_enter Try.func29, Try.ntmps29
  go_wp2_with (go_at_call 17; go_must (refine (cps_Good t _ (fun b => b < w.heap.size) _ (HV.out.1.up (al2 w (.cells #[.int .i64 k, .int .i64 x, .int .i64 m, .bool i, .slice T tl tc, .slice A2 al ac, .slice F9 fl fc, .slice U ul uc] 27) (.cells #[.int .i64 0, .slice none 0 0, .slice none 0 0] 32))) HV.out.2.2).mono ?_; rw [HV.out.2.1.1]; rintro e w1 ⟨rfl, b1⟩; have B1 := hid (below_hop b1 (al2 w (.cells #[.int .i64 k, .int .i64 x, .int .i64 m, .bool i, .slice T tl tc, .slice A2 al ac, .slice F9 fl fc, .slice U ul uc] 27) (.cells #[.int .i64 0, .slice none 0 0, .slice none 0 0] 32))); have BR := hid ((Blk.new' (w := w.alloc (.cells #[.int .i64 k, .int .i64 x, .int .i64 m, .bool i, .slice T tl tc, .slice A2 al ac, .slice F9 fl fc, .slice U ul uc] 27)) (by simp) 32 #[.int .i64 0, .slice none 0 0, .slice none 0 0] : Blk _ (w.heap.size + 1) _ _).below b1 (by simp)); have BC := hid (((Blk.new w 27 #[.int .i64 k, .int .i64 x, .int .i64 m, .bool i, .slice T tl tc, .slice A2 al ac, .slice F9 fl fc, .slice U ul uc]).alloc _).below b1 (by simp; omega)); obtain ⟨o0, o1, o2⟩ := BR.out.three; have f0 := BR.out.frozen 0; have f1 := BR.out.frozen 1; have f2 := BR.out.frozen 2; clear b1))
  have B3 := (((BR.out.set_ 0 (.int .i64 0)).set_ 1 (.slice none 0 0)).set_ 2 (.slice none 0 0))
  refine ret_krun rfl rfl rfl (B3 : Blk _ (w.heap.size + 1) _ #[.int .i64 0, .slice none 0 0, .slice none 0 0]) rfl ?_
  refine ⟨(0, [], [], 220), 0, none, 0, none, 0, ?_, rfl, RowI.nil _ _, RowI.nil _ _, below_set (below_set (below_set B1.out (by omega) _) (by omega) _) (by omega) _⟩
  unfold RunP
  rw [if_pos HV.out.2.1.1]
  exact ⟨rfl, rfl⟩
set_option maxHeartbeats 4000000 in
set_option maxRecDepth 100000 in
theorem krun_arg (w : World) (t : Te) (v : Value) (S : Nat → Prop) (l : List Int) (A : Option Addr) (cA : Nat) (fuel : Int) (hv : TAt w S t v) (hn : Tm.names t ≤ 1000000000000) (hg : goodT t = true) (hb : 256 < l.length ∨ fuel < 0 ∨ 1048576 < fuel) : Calls Try.prog 29 #[v, .slice A l.length cA, .int .i64 fuel] w (RunKV t l fuel w) := by
  have HV := hid (And.intro hv.low (And.intro (And.intro hg hb) hn))
  obtain ⟨k, x, m, i, T, tl, tc, A2, al, ac, F9, fl, fc, U, ul, uc, rfl⟩ := hv.agg
  clear hv hg hn
  have H3 : (256 < (l.length : Int)) ∨ ¬ (256 < (l.length : Int)) ∧ (fuel < 0 ∨ 0 ≤ fuel ∧ 1048576 < fuel) := by omega
  clear hb
  rcases H3 with h1 | ⟨h1, h2 | ⟨h2, h3⟩⟩
  all_goals
    go_enter Try.func29, Try.ntmps29
    go_wp2_with (go_at_call 17; go_must (refine (cps_Good t _ (fun b => b < w.heap.size) _ (HV.out.1.up (al2 w (.cells #[.int .i64 k, .int .i64 x, .int .i64 m, .bool i, .slice T tl tc, .slice A2 al ac, .slice F9 fl fc, .slice U ul uc] 27) (.cells #[.int .i64 0, .slice none 0 0, .slice none 0 0] 32))) HV.out.2.2).mono ?_; rw [HV.out.2.1.1]; rintro e w1 ⟨rfl, b1⟩; have B1 := hid (below_hop b1 (al2 w (.cells #[.int .i64 k, .int .i64 x, .int .i64 m, .bool i, .slice T tl tc, .slice A2 al ac, .slice F9 fl fc, .slice U ul uc] 27) (.cells #[.int .i64 0, .slice none 0 0, .slice none 0 0] 32))); have BR := hid ((Blk.new' (w := w.alloc (.cells #[.int .i64 k, .int .i64 x, .int .i64 m, .bool i, .slice T tl tc, .slice A2 al ac, .slice F9 fl fc, .slice U ul uc] 27)) (by simp) 32 #[.int .i64 0, .slice none 0 0, .slice none 0 0] : Blk _ (w.heap.size + 1) _ _).below b1 (by simp)); have BC := hid (((Blk.new w 27 #[.int .i64 k, .int .i64 x, .int .i64 m, .bool i, .slice T tl tc, .slice A2 al ac, .slice F9 fl fc, .slice U ul uc]).alloc _).below b1 (by simp; omega)); obtain ⟨o0, o1, o2⟩ := BR.out.three; have f0 := BR.out.frozen 0; have f1 := BR.out.frozen 1; have f2 := BR.out.frozen 2; clear b1))
    have B3 := (((BR.out.set_ 0 (.int .i64 0)).set_ 1 (.slice none 0 0)).set_ 2 (.slice none 0 0))
    refine ret_krun rfl rfl rfl (B3 : Blk _ (w.heap.size + 1) _ #[.int .i64 0, .slice none 0 0, .slice none 0 0]) rfl ?_
    refine ⟨(0, [], [], 1), 0, none, 0, none, 0, ?_, rfl, RowI.nil _ _, RowI.nil _ _, below_set (below_set (below_set B1.out (by omega) _) (by omega) _) (by omega) _⟩
    unfold RunP
    rw [if_neg (by rw [HV.out.2.1.1]; simp), if_pos HV.out.2.1.2]
    exact ⟨rfl, rfl⟩
/-- The world in which the loop over the inputs begins. -/
def KW0 (w1 : World) (A : Option Addr) (n cA : Nat) : World := (((w1.alloc (.cells #[.int .i64 2, .int .i64 0, .slice none 0 0, .pointer none, .pointer none] 106)).alloc (.cells #[.pointer (some ⟨w1.heap.size, 0, none⟩)] 101)).alloc (.cells #[.slice A n cA] 22))
structure KQ0 (w1 : World) (A : Option Addr) (n cA : Nat) (W : World) : Prop where
  size : W.heap.size = w1.heap.size + 3
  below : Below w1.heap.size w1 W
  b0 : Blk W w1.heap.size 106 #[.int .i64 2, .int .i64 0, .slice none 0 0, .pointer none, .pointer none]
  b1 : Blk W (w1.heap.size + 1) 101 #[.pointer (some ⟨w1.heap.size, 0, none⟩)]
  b2 : Blk W (w1.heap.size + 1 + 1) 22 #[.slice A n cA]
theorem kw0_is (w1 : World) (A : Option Addr) (n cA : Nat) : KQ0 w1 A n cA (KW0 w1 A n cA) := by
  unfold KW0
  refine ⟨by simp, by go_grown, ?_, ?_, ?_⟩
  · exact ((Blk.new _ _ _).alloc _).alloc _
  · exact (Blk.new' (by simp) _ _).alloc _
  · exact Blk.new' (by simp) _ _
theorem wpList_insV {w : World} {ops : Array Oper} {rest : List Oper} {o : Oper} {a : Act} {Q : Exit → Act → World → Prop} (hg : o.guard = none) (m x v : Operand) (hop : o.op = Op.insert 117 m x v) {S : Nat → Prop} {φ : List (Nat × Nat)} {B : Nat} {vars : List (Int × Pv)} {s : Int} {u : Pv} {g : Nat} (h : MapV w S φ B vars) (hk : vars.length < maxLen) (hs : (Lit.int .i64 s).wf = true) (hu : PAt w S φ u g)
    (hm : a.eval m = .map (some B)) (hx : a.eval x = .int .i64 s) (hv : a.eval v = .pointer (some ⟨g, 0, none⟩)) (hK : ∀ w', Put w w' S φ B vars s u → wpList Try.prog ops Q rest (a.put o.dst undef) w') : wpList Try.prog ops Q (o :: rest) a w := by
  refine wpList_plain hg fun K' hK' => ?_
  obtain ⟨w', hrun, h3⟩ := run_putV h hk hs hu
  unfold Oper.wp
  simp [execOp, hop, hm, hx, hv, hrun, Result.andThen]
  exact hK' _ _ (hK w' h3)
theorem Ext.all (ψ : List (Nat × Nat)) : Ext [] ψ := ⟨ψ, by simp⟩
/-- The machine and the first frame. -/
theorem MK.start {W W5 : World} {F : Nat} {l : List Int} (hF : F ≤ 1048576) (hp : Put ((W.alloc (.cells #[.int .i64 F, .int .i64 0, .slice none 0 0, .slice none 0 0] 113)).alloc (.map #[] 0)) W5 (fun b => b < W.heap.size) [] (W.heap.size + 1) [] 0 (inputP l)) :
    MK (W5.alloc (.cells #[.pointer none, .map (some (W.heap.size + 1))] 121)) W.heap.size F 0 [] (.slice none 0 0) [(W5.heap.size, W.heap.size + 1)] (frs0 l) 1 ∧ Below W.heap.size W (W5.alloc (.cells #[.pointer none, .map (some (W.heap.size + 1))] 121)) := by
  obtain ⟨hg, hM⟩ := hp
  have hs := hg.size
  simp at hs
  have hb5 : Below W.heap.size W W5 := (al2 W _ _).grown hg (by simp; omega) (fun k hk => by injection hk with hk; omega)
  have hm : MapV W5 (fun b => b < W.heap.size) [] (W.heap.size + 1) [(0, inputP l)] := hM (fun b => b < W.heap.size) (fun k hk hl => ⟨hg.block k hl (fun e => by injection e with e; omega), hk⟩)
  have hblk : Blk W5 W.heap.size 113 #[.int .i64 F, .int .i64 0, .slice none 0 0, .slice none 0 0] := (hg.block _ (by simp; omega) (fun e => by injection e with e; omega)).trans ((Blk.new W _ _).alloc _)
  have hnm : ∀ b, b < W.heap.size → Nm W.heap.size [(W5.heap.size, W.heap.size + 1)] (.slice none 0 0) b := fun b hb => ⟨by omega, by simp [Value.ownBlock], fun e p m he => by
    cases e with
    | zero => simp at he; omega
    | succ e => simp at he⟩
  refine ⟨⟨hblk.alloc _, World.ownsRow_nil _ _ _ _, Wr.nil, ⟨rfl, fun e p m he => ?_⟩, fun i j p q m hi hj => ?_, fun e p m he => ?_, fun f hf => ?_, hF, Nat.zero_le _⟩, hb5.alloc hb5.size _⟩
  · cases e with
    | succ e => simp at he
    | zero =>
      simp at he
      obtain ⟨rfl, rfl⟩ := he
      refine ⟨⟨none, [(0, inputP l)]⟩, rfl, ⟨by omega, by simp [Value.ownBlock], fun e p m he => ?_⟩, ⟨none, Blk.new _ _ _, .inl ⟨rfl, rfl⟩⟩, ?_⟩
      · cases e with
        | zero => simp at he; omega
        | succ e => simp at he
      · exact hm.keep (Ext.all _) ((al1 W5 _).block _ (by omega)) (fun k hk hl => ⟨(al1 W5 _).block k hl, hnm k hk⟩)
  · cases i with
    | succ i => simp at hi
    | zero =>
      cases j with
      | succ j => simp at hj
      | zero => rfl
  · cases e with
    | succ e => simp at he
    | zero => simp at he; exact ⟨by omega, by simp [Value.ownBlock]⟩
  · unfold frs0 at hf
    simp at hf
    subst hf
    simp
end Go.Proofs.Ytdmkjndlobichaa
/-
  THE WALK OF cpsrun.run, where all is well.
-/
namespace Go.Proofs.Ytdmkjndlobichaa
set_option linter.all false
open Go.ChangeShapes Go.WideShapes Go.ChangeAt Go.RowKit Go.Shelf
open Tm (Te Pv Fr inputP frs0 goodT RunP)
attribute [local go_sem] Oper.semAt_some
theorem wpListIn_insV {F : Fence} {nF : Nat} {w : World} {ops : Array Oper} {rest : List Oper} {o : Oper} {a : Act} {Q : Exit → Act → World → Prop} (hg : o.guard = none) (m x v : Operand) (hop : o.op = Op.insert 117 m x v) {S : Nat → Prop} {φ : List (Nat × Nat)} {B : Nat} {vars : List (Int × Pv)} {s : Int} {u : Pv} {g : Nat} (h : MapV w S φ B vars) (hk : vars.length < maxLen) (hs : (Lit.int .i64 s).wf = true) (hu : PAt w S φ u g)
    (hm : a.eval m = .map (some B)) (hx : a.eval x = .int .i64 s) (hv : a.eval v = .pointer (some ⟨g, 0, none⟩)) (hK : ∀ w', Put w w' S φ B vars s u → wpListIn F nF Try.prog ops Q rest (a.put o.dst undef) w') : wpListIn F nF Try.prog ops Q (o :: rest) a w := by
  refine wpListIn_plain hg fun K' hK' => ?_
  obtain ⟨w', hrun, h3⟩ := run_putV h hk hs hu
  unfold Oper.wpIn
  refine ⟨by simp [Oper.about, hop], ?_⟩
  rw [Oper.semAt_plain F _ _ (by rw [hop]; intro c hc'; cases hc')]
  simp [execOp, hop, hm, hx, hv, hrun, Result.andThen]
  exact hK' _ _ (hK w' h3)
theorem Blk.tpt {w : World} {g : Nat} {t : Te} {v0 v1 v2 v3 v4 v5 v6 v7 : Value} {S : Nat → Prop} (h : Blk w g 27 #[v0, v1, v2, v3, v4, v5, v6, v7]) (ht : TAt w S t (.agg #[v0, v1, v2, v3, v4, v5, v6, v7])) : TPt w (fun b => b = g ∨ S b) ⟨g, 0, none⟩ t := ⟨.inl rfl, v0, v1, v2, v3, v4, v5, v6, v7, h.eight, ht.mono (fun _ h _ => .inr h)⟩
/-- The run itself, behind all that is laid for it. -/
theorem whole_of (W W5 : World) (F : Nat) (r1 : Int) (r2 r3 : List Int) (r4 : Nat) (t : Te) (l : List Int) (g : Nat) (S : Nat → Prop) (hr : Tm.run F (F * 65537 + 65536) t 0 (frs0 l) 0 [] = some (r1, r2, r3, r4)) (hF : F ≤ 200000) (hp : Put ((W.alloc (.cells #[.int .i64 F, .int .i64 0, .slice none 0 0, .slice none 0 0] 113)).alloc (.map #[] 0)) W5 (fun b => b < W.heap.size) [] (W.heap.size + 1) [] 0 (inputP l)) (ht : TPt W S ⟨g, 0, none⟩ t) (hS : ∀ b, S b → b < W.heap.size) :
    Calls Try.prog 54 #[.pointer (some ⟨W.heap.size, 0, none⟩), .pointer (some ⟨g, 0, none⟩), .pointer (some ⟨W5.heap.size, 0, none⟩)] (W5.alloc (.cells #[.pointer none, .map (some (W.heap.size + 1))] 121)) (fun e w' => e = .returned (.agg #[.int .i64 (if r1 < 0 then 0 else r1), .bool (decide (r1 < 0))]) ∧ ∃ A1 c1 A2 c2 l2, Blk w' W.heap.size 113 #[.int .i64 F, .int .i64 r4, .slice A1 r2.length c1, .slice A2 l2.length c2] ∧ RowI w' (W.heap.size + 1) A1 c1 r2 ∧ RowI w' (W.heap.size + 1) A2 c2 l2 ∧ (r1 = 1 → l2 = r3) ∧ Below W.heap.size W w') := by
  obtain ⟨hm, hb⟩ := MK.start (by omega) hp
  have hs5 : W.heap.size + 2 ≤ W5.heap.size := by have := hp.1.size; simpa using this
  have hnm : ∀ b, b < W.heap.size → Nm W.heap.size [(W5.heap.size, W.heap.size + 1)] (.slice none 0 0) b := fun b hb => ⟨by omega, by simp [Value.ownBlock], fun e p m he => by
    cases e with
    | zero => simp at he; omega
    | succ e => simp at he⟩
  refine (run_whole F _ _ t 0 (frs0 l) [] (.slice none 0 0) [(W5.heap.size, W.heap.size + 1)] 1 W.heap.size 0 W5.heap.size (W.heap.size + 1) ⟨g, 0, none⟩ _ hr (by omega) hm rfl (ht.keep (fun k hk hl => ⟨hb.block k hl, hnm k (hS k hk)⟩))).mono ?_
  rintro e w' ⟨he, wv', sv', l2, h1, h2, h3, ⟨h4, hw2, hw3⟩, h5, h6, h7, h8, h9⟩
  obtain ⟨A1, c1, rfl, _⟩ := rowX h2
  obtain ⟨A2, c2, rfl, _⟩ := rowX h3
  exact ⟨he, A1, c1, A2, c2, l2, h1, ⟨h2, hw2.2⟩, ⟨h3, hw3.2⟩, h4, hb.trans ⟨h5, h6, h7, h8, fun b hl => h9 b (hnm b hl) (by simp; omega)⟩⟩
/-- What lies behind the run. -/
structure KEnd (w W : World) (F r4 D : Nat) (r2 l2 : List Int) (A1 A5 : Option Addr) (c1 c5 : Nat) (W9 : World) : Prop where
  bm : Blk W9 W.heap.size 113 #[.int .i64 F, .int .i64 (r4 : Nat), .slice A1 r2.length c1, .slice A5 l2.length c5]
  br : Blk W9 (w.heap.size + 1) 32 #[.int .i64 0, .slice none 0 0, .slice none 0 0]
  dD : W9.heap[D]? = some (.deferred (some []))
  r1 : RowI W9 (W.heap.size + 1) A1 c1 r2
  r2 : RowI W9 (W.heap.size + 1) A5 c5 l2
  bl : Below W.heap.size W W9
theorem RowI.keep {w w' : World} {B : Nat} {A : Option Addr} {c : Nat} {xs : List Int} (h : RowI w B A c xs) (hk : ∀ g, B ≤ g → g < w.heap.size → w'.heap[g]? = w.heap[g]?) : RowI w' B A c xs := ⟨row_keepX h.1 (fun g e => hk g (h.1.lt g e).1 (h.1.lt g e).2), h.2⟩
theorem RowI.low {w : World} {B B' : Nat} {A : Option Addr} {c : Nat} {xs : List Int} (h : RowI w B A c xs) (hB : B' ≤ B) : RowI w B' A c xs := by
  obtain ⟨⟨h1, h2⟩, hw⟩ := h
  refine ⟨⟨h1, ?_⟩, hw⟩
  rcases h2 with h2 | ⟨g, cap, cur, hv, hg, rest⟩
  · exact .inl h2
  · exact .inr ⟨g, cap, cur, hv, Nat.le_trans hB hg, rest⟩
theorem KEnd.of {w W w8 : World} {F r4 D : Nat} {r2 l2 : List Int} {A1 A5 : Option Addr} {c1 c5 : Nat} (o : Obj) (hB : Blk w8 W.heap.size 113 #[.int .i64 F, .int .i64 (r4 : Nat), .slice A1 r2.length c1, .slice A5 l2.length c5]) (hr : Blk w8 (w.heap.size + 1) 32 #[.int .i64 0, .slice none 0 0, .slice none 0 0]) (hD : w8.heap[D]? = some (.deferred (some []))) (h1 : RowI w8 (W.heap.size + 1) A1 c1 r2) (h2 : RowI w8 (W.heap.size + 1) A5 c5 l2) (hb : Below W.heap.size W w8) : ∀ W9, W9 = w8.alloc o → KEnd w W F r4 D r2 l2 A1 A5 c1 c5 W9 := by
  rintro W9 rfl
  have k : ∀ g, g < w8.heap.size → (w8.alloc o).heap[g]? = w8.heap[g]? := fun g hg => (al1 w8 o).block g hg
  exact ⟨hB.alloc _, hr.alloc _, (k D (Array.getElem?_eq_some_iff.1 hD).1).trans hD, h1.keep (fun g _ hg => k g hg), h2.keep (fun g _ hg => k g hg), hb.alloc hb.size _⟩
/-- What was shown is dropped. -/
theorem KEnd.hush {w W W9 : World} {F r4 D : Nat} {r2 l2 : List Int} {A1 A5 : Option Addr} {c1 c5 : Nat} (h : KEnd w W F r4 D r2 l2 A1 A5 c1 c5 W9) (hD : D < W.heap.size) (hw : w.heap.size + 1 < W.heap.size) : KEnd w W F r4 D r2 [] A1 none c1 0 (W9.setCell ⟨W.heap.size, 3, none⟩ (.slice none 0 0)) := by
  have k : ∀ g, g ≠ W.heap.size → (W9.setCell ⟨W.heap.size, 3, none⟩ (.slice none 0 0)).heap[g]? = W9.heap[g]? := fun g hg => Below.heap_setCell _ ⟨W.heap.size, 3, none⟩ _ g hg
  exact ⟨h.bm.set_ 3 _, (k _ (by omega)).trans h.br, (k _ (by omega)).trans h.dD, h.r1.keep (fun g hg _ => k g (by omega)), RowI.nil _ _, below_set h.bl (Nat.le_refl _) _⟩
/-- The result's cells are written, the loop's record is gone. -/
theorem KEnd.fin {w W W9 W' : World} {F r4 D : Nat} {r2 l2 : List Int} {A1 A5 : Option Addr} {c1 c5 : Nat} (h : KEnd w W F r4 D r2 l2 A1 A5 c1 c5 W9) (hw : w.heap.size + 1 < D) (hD : D < W.heap.size) (hbw : Below w.heap.size w W) {e0 : Int} {v1 v2 : Value} (hW : W' = (((W9.setCell ⟨w.heap.size + 1, 0, none⟩ (.int .i64 e0)).setCell ⟨w.heap.size + 1, 1, none⟩ v1).setCell ⟨w.heap.size + 1, 2, none⟩ v2).drew) :
    W'.heap[D]? = some (.deferred (some [])) ∧ Blk (W'.putObj D (.deferred none)) (w.heap.size + 1) 32 #[.int .i64 e0, v1, v2] ∧ RowI (W'.putObj D (.deferred none)) w.heap.size A1 c1 r2 ∧ RowI (W'.putObj D (.deferred none)) w.heap.size A5 c5 l2 ∧ Below w.heap.size w (W'.putObj D (.deferred none)) := by
  have B3 : Blk W' (w.heap.size + 1) 32 #[.int .i64 e0, v1, v2] := by rw [hW]; exact ((h.br.set_ 0 _).set_ 1 _).set_ 2 _
  have k : ∀ g, g ≠ w.heap.size + 1 → W'.heap[g]? = W9.heap[g]? := fun g hg => by rw [hW]; exact (Below.heap_setCell _ ⟨w.heap.size + 1, 2, none⟩ _ g hg).trans ((Below.heap_setCell _ ⟨w.heap.size + 1, 1, none⟩ _ g hg).trans (Below.heap_setCell _ ⟨w.heap.size + 1, 0, none⟩ _ g hg))
  have hb : Below w.heap.size w W' := by rw [hW]; exact (below_set (below_set (below_set (hbw.trans (h.bl.mono hbw.size)) (by omega) _) (by omega) _) (by omega) _).drew
  have k2 : ∀ g, g ≠ D → (W'.putObj D (.deferred none)).heap[g]? = W'.heap[g]? := fun g hg => World.putObj_heap_other hg
  have kr : ∀ g, W.heap.size + 1 ≤ g → (W'.putObj D (.deferred none)).heap[g]? = W9.heap[g]? := fun g h1 => (k2 g (by omega)).trans (k g (by omega))
  refine ⟨(k D (by omega)).trans h.dD, (k2 _ (by omega)).trans B3, ?_, ?_, hb.trans ((Below.refl _ W').grown (grownBy_putObj' W' D _) hb.size (fun k e => by cases e; omega))⟩
  · exact (RowI.low ⟨row_keepX h.r1.1 (fun g e => kr g (h.r1.1.lt g e).1), h.r1.2⟩ (by have := hbw.size; omega))
  · exact (RowI.low ⟨row_keepX h.r2.1 (fun g e => kr g (h.r2.1.lt g e).1), h.r2.2⟩ (by have := hbw.size; omega))
theorem runP_neg {t : Te} {l : List Int} {F : Nat} {r1 : Int} {r2 r3 : List Int} {r4 : Nat} (hg : goodT t = true) (hl : l.length ≤ 256) (hF : F ≤ 200000) (hr : Tm.run F (F * 65537 + 65536) t 0 (frs0 l) 0 [] = some (r1, r2, r3, r4)) (hk : r1 < 0) : RunP t l F (0, [], [], 220) r4 := by
  unfold RunP
  rw [if_neg (by rw [hg]; simp), if_neg (by omega)]
  exact ⟨_, r1, r2, r3, by simpa using hr, by rw [if_pos hk]⟩
theorem runP_one {t : Te} {l : List Int} {F : Nat} {r1 : Int} {r2 r3 : List Int} {r4 : Nat} (hg : goodT t = true) (hl : l.length ≤ 256) (hF : F ≤ 200000) (hr : Tm.run F (F * 65537 + 65536) t 0 (frs0 l) 0 [] = some (r1, r2, r3, r4)) (hk : r1 = 1) : RunP t l F (1, r2, r3, 0) r4 := by
  unfold RunP
  rw [if_neg (by rw [hg]; simp), if_neg (by omega)]
  exact ⟨_, r1, r2, r3, by simpa using hr, by rw [if_neg (by omega), if_pos hk, hk]⟩
theorem runP_end {t : Te} {l : List Int} {F : Nat} {r1 : Int} {r2 r3 : List Int} {r4 : Nat} (hg : goodT t = true) (hl : l.length ≤ 256) (hF : F ≤ 200000) (hr : Tm.run F (F * 65537 + 65536) t 0 (frs0 l) 0 [] = some (r1, r2, r3, r4)) (hk : ¬ r1 < 0) (hk1 : r1 ≠ 1) : RunP t l F (r1, r2, [], 0) r4 := by
  unfold RunP
  rw [if_neg (by rw [hg]; simp), if_neg (by omega)]
  exact ⟨_, r1, r2, r3, by simpa using hr, by rw [if_neg hk, if_neg hk1]⟩
set_option maxHeartbeats 4000000 in
set_option maxRecDepth 100000 in
theorem krun_ok (w : World) (t : Te) (v : Value) (S S' : Nat → Prop) (l : List Int) (A : Option Addr) (cA : Nat) (F : Nat) (hv : TAt w S t v) (hI : IAt w S' l A cA) (hn : Tm.names t ≤ 1000000000000) (hg : goodT t = true) (hl : l.length ≤ 256) (hF : F ≤ 200000) : Calls Try.prog 29 #[v, .slice A l.length cA, .int .i64 F] w (RunKV t l F w) := by
  obtain ⟨r, hr⟩ := Tm.run_whole F t l hv.even hg
  have HV := hid (And.intro hv.low (And.intro (And.intro hg (And.intro hr (And.intro hI (And.intro hl hF)))) hn))
  obtain ⟨k, x, m, i, T, tl, tc, A2, al, ac, F9, fl, fc, U, ul, uc, rfl⟩ := hv.agg
  have d1 : decide (256 < (l.length : Int)) = false := decide_eq_false (by omega)
  have d2 : decide ((F : Int) < 0) = false := decide_eq_false (by omega)
  have d3 : decide (1048576 < (F : Int)) = false := decide_eq_false (by omega)
  clear hv hn hg hr hI hl hF
  refine callsIn_wide (n := 5) |>.1 ?_
  refine callsIn_of_wp_marks Try.func29 rfl trivial ?_ rfl
  simp only [Try.ntmps29, List.size_toArray, List.length_cons, List.length_nil, Nat.reduceAdd, Nat.reduceSub, Array.replicate_succ, Array.replicate_zero, List.push_toArray, List.append_toArray, List.nil_append, List.cons_append]
  gi_wp2_with (first
    | (refine ⟨trivial, ?_⟩; gi_at_call 17; go_must (refine (callsIn_wide.2 (cps_Good t _ (fun b => b < w.heap.size) _ (HV.out.1.up (al2 w (.cells #[.int .i64 k, .int .i64 x, .int .i64 m, .bool i, .slice T tl tc, .slice A2 al ac, .slice F9 fl fc, .slice U ul uc] 27) (.cells #[.int .i64 0, .slice none 0 0, .slice none 0 0] 32))) HV.out.2.2)).mono ?_; rw [HV.out.2.1.1]; rintro e w1 ⟨rfl, b1⟩; have B1 := hid (below_hop b1 (al2 w (.cells #[.int .i64 k, .int .i64 x, .int .i64 m, .bool i, .slice T tl tc, .slice A2 al ac, .slice F9 fl fc, .slice U ul uc] 27) (.cells #[.int .i64 0, .slice none 0 0, .slice none 0 0] 32))); have BR := hid ((Blk.new' (w := w.alloc (.cells #[.int .i64 k, .int .i64 x, .int .i64 m, .bool i, .slice T tl tc, .slice A2 al ac, .slice F9 fl fc, .slice U ul uc] 27)) (by simp) 32 #[.int .i64 0, .slice none 0 0, .slice none 0 0] : Blk _ (w.heap.size + 1) _ _).below b1 (by simp)); have BC := hid (((Blk.new w 27 #[.int .i64 k, .int .i64 x, .int .i64 m, .bool i, .slice T tl tc, .slice A2 al ac, .slice F9 fl fc, .slice U ul uc]).alloc _).below b1 (by simp; omega)); clear b1))
    | (refine ⟨trivial, ?_⟩; gi_at_call 52; go_must (refine (callsIn_wide.2 (back_new _ _ _ _)).mono ?_); rintro e w2 ⟨rfl, rfl⟩))
  refine (?_ : Code.wpIn _ _ _ _ _ _ (KW0 w1 A l.length cA))
  have Q := hid (kw0_is w1 A l.length cA)
  generalize hWW : KW0 w1 A l.length cA = WW at Q ⊢
  clear hWW
  have hw1 := B1.out.size
  refine wpIn_rangeFunc_ownG (P := Try.prog) (w := WW) rfl (by omega) (gf := 88) (lb := #[.pointer (some ⟨w1.heap.size + 1 + 1, 0, none⟩)]) rfl trivial (enters_of Try.func88 (by kernel_rfl) rfl)
    (encs := fun x : Int × Int => #[.int .i64 x.1, .int .i64 x.2]) (Kp := KpZ WW.heap.size (w1.heap.size + 1)) (S := fun ys => ys.map Prod.snd = l.reverse) (Sp := fun _ => True) (N := l.length) (w0 := WW) ?seq KpZ.t (fun W l o o' hl ho hc hw g h1 h2 => World.putObj_heap_other (by omega)) (Below.refl _ _) (fun _ => rfl)
    (KLI w1 WW (w1.heap.size + 1)) (fun _ _ _ => False) (KLI.own _ _ _ (by have := Q.out.size; omega) Q.out.below.size) (fun _ _ _ _ _ h => h.elim) ?h0
    (fun y9 => { tmps := #[.agg #[.int .i64 k, .int .i64 x, .int .i64 m, .bool i, .slice T tl tc, .slice A2 al ac, .slice F9 fl fc, .slice U ul uc], .slice A l.length cA, .int .i64 F, .pointer (some ⟨w.heap.size, 0, none⟩), undef, undef, .pointer (some ⟨w.heap.size + 1, 0, none⟩), .int .i64 0, .int .i64 0, .pointer (some ⟨w1.heap.size + 1, 0, none⟩), undef, .int .i64 y9.2, undef, undef, .agg #[.int .i64 k, .int .i64 x, .int .i64 m, .bool i, .slice T tl tc, .slice A2 al ac, .slice F9 fl fc, .slice U ul uc], .bool true, .bool false, undef, .slice A l.length cA, .int .i64 l.length, .bool false, .bool false, .int .i64 F, .bool false, .bool false, .bool false, .int .i64 F, .bool false, .bool false, undef, .agg #[.int .i64 2, .int .i64 0, .slice none 0 0, .pointer none, .pointer none], .pointer (some ⟨w1.heap.size, 0, none⟩), .slice A l.length cA, .func (.func 88) #[] #[.pointer (some ⟨w1.heap.size + 1 + 1, 0, none⟩)], .int .i64 y9.1, .int .i64 y9.2, undef, undef, undef, undef, undef, undef, undef, undef, undef, undef, undef, undef, undef, undef, undef, undef, undef, undef, undef, undef, undef, undef, undef, undef, undef, undef, undef, undef, undef, undef, undef, undef, undef, undef, undef, undef, undef, undef, undef, undef, undef, undef, undef, undef, undef, undef, undef, undef], defers := [] }) ?assign ?body ?done ?stop
  case seq =>
    intro lp J Jx W hW hJ hJx hY hJ0
    have h5 := Q.out.b2
    refine back1_in _ (by omega) lp _ WW.heap.size (w1.heap.size + 1) A cA l J Jx hY W (hW.cell h5.lt |>.trans h5.cell0) h5.lt (by omega) ?_ hJ0
    refine HV.out.2.1.2.2.1.keep (fun k hk hl => ?_)
    have := Q.out.size
    exact ⟨(hW.block k (by omega)).trans ((Q.out.below.block k (by omega)).trans (B1.out.block k hl)), by omega, by omega⟩
  case h0 =>
    refine ⟨⟨w1.heap.size, Q.out.b1, ?_⟩, fun _ _ _ => rfl, Q.out.below, Nat.le_refl _⟩
    show PAt _ _ _ (inputP []) _
    rw [inputP, PAt]
    exact ⟨⟨by omega, by omega, cells_is Q.out.b0⟩, ⟨none, 0, Q.out.b0, by simp, by decide, by simp, by rw [PRow]; trivial⟩, by decide, by simp⟩
  case assign =>
    intro lp y9 W K hK
    gi_wp2
    exact hK
  case body =>
    intro lp pre y9 W hI hpre
    obtain ⟨p, hp, hv⟩ := hI.val
    have c4 := hp.cell0
    have f4 := hp.frozen 0
    have hzl := hp.lt
    have z1 : ∀ o o2 o3, (((W.drew.alloc o).alloc o2).alloc o3).cell? ⟨w1.heap.size + 1, 0, none⟩ = some (.pointer (some ⟨p, 0, none⟩)) := fun o o2 o3 => (((hp.alloc o).alloc o2).alloc o3).cell0
    have z2 : ∀ o o2 o3, (((W.alloc o).alloc o2).alloc o3).cell? ⟨w1.heap.size + 1, 0, none⟩ = some (.pointer (some ⟨p, 0, none⟩)) := fun o o2 o3 => (((hp.alloc o).alloc o2).alloc o3).cell0
    have z3 : ∀ o o2 o3, (((W.drew.alloc o).alloc o2).alloc o3).frozen? ⟨w1.heap.size + 1, 0, none⟩ = false := fun o o2 o3 => (((hp.alloc o).alloc o2).alloc o3).frozen 0
    have z4 : ∀ o o2 o3, (((W.alloc o).alloc o2).alloc o3).frozen? ⟨w1.heap.size + 1, 0, none⟩ = false := fun o o2 o3 => (((hp.alloc o).alloc o2).alloc o3).frozen 0
    have z5 : ∀ o, (W.drew.alloc o).cell? ⟨w1.heap.size + 1, 0, none⟩ = some (.pointer (some ⟨p, 0, none⟩)) := fun o => (hp.alloc o).cell0
    have z6 : ∀ o, (W.alloc o).cell? ⟨w1.heap.size + 1, 0, none⟩ = some (.pointer (some ⟨p, 0, none⟩)) := fun o => (hp.alloc o).cell0
    have hIh := hid (And.intro hI hp)
    have h1 : 1 ≤ (5 : Nat) - 1 - 1 := by omega
    clear hI hp hv hpre
    gi_wp2
    have hmx : Try.prog.follows .mixedOrders = true := by kernel_rfl
    gi_region_with_o (refine ⟨(trivial : Fence.wide.fn 53), ?_⟩; refine (CallsIn.inRound lp (callsIn_wide.2 (ints_Wrap _ _))).mono ?_; rintro e w3 ⟨rfl, rfl⟩)
    all_goals gi_wp2
    all_goals
      have N := KLI.next (x := y9) hIh.out.1 (by have := Q.out.size; omega) (by omega) hIh.out.2 _ rfl
      exact ⟨N.1.trans ((KeepsOthers.drew _).from _), N.2.1, KLI.own _ _ _ (by have := Q.out.size; omega) Q.out.below.size _ _ _ none N.2.2 ⟨rfl, rfl, rfl, Nat.le_refl _, fun _ _ _ => rfl⟩ (fun r e => by cases e)⟩
  case stop =>
    rintro D c9 pre W hD _ h _
    exact h.elim
  case done =>
    intro D ys W hD hS hI hDef
    obtain ⟨p, hp, hv⟩ := hI.val
    have hQs := Q.out.size
    rw [hS, List.reverse_reverse] at hv
    have hsz := hI.size
    have hWb := hI.below
    have hDl := (Array.getElem?_eq_some_iff.1 hDef).1
    have hlt1 := BR.out.lt
    have BT := hid (And.intro (BC.out.below hWb BC.out.lt) (BR.out.below hWb BR.out.lt))
    have BW := hid (B1.out.trans (hWb.mono hw1))
    have c1 : W.cell? ⟨w1.heap.size + 1, 0, none⟩ = some (.pointer (some ⟨p, 0, none⟩)) := hp.cell0
    have HP := hid (PAt.keep (T := fun b => b < W.heap.size) (Ext.refl _) (fun k hk hl => ⟨rfl, hl⟩) _ _ hv)
    have HD := hid (And.intro hDef (And.intro hDl hD))
    have NM := hid (show w1.heap.size + 1 < W.heap.size ∧ w.heap.size + 1 < w1.heap.size ∧ w1.heap.size + 3 ≤ D ∧ D < W.heap.size from ⟨by omega, hlt1, by omega, hDl⟩)
    clear hp hv hS hD hI hQs hsz hWb hDef hDl hw1
    have hmm := @run_makeMap Try.prog
    obtain ⟨r1, r2, r3, r4⟩ := r
    have CW := hid (fun (W5 : World) (hp : Put ((W.alloc (.cells #[.int .i64 F, .int .i64 0, .slice none 0 0, .slice none 0 0] 113)).alloc (.map #[] 0)) W5 (fun b => b < W.heap.size) [] (W.heap.size + 1) [] 0 (inputP l)) =>
      whole_of W W5 F r1 r2 r3 r4 t l w.heap.size _ HV.out.2.1.2.1 HV.out.2.1.2.2.2.2 hp (BT.out.1.tpt (HV.out.1.up BW.out)) (by have := NM.out; omega))
    have c2 : ∀ o o2, ((W.alloc o).alloc o2).cell? ⟨w1.heap.size + 1, 0, none⟩ = some (.pointer (some ⟨p, 0, none⟩)) := fun o o2 => ((al2 W o o2).cell (cell_lt c1)).trans c1
    by_cases hk : r1 < 0
    · have HK := hid hk
      clear hk
      gi_wp2_with (first
        | (refine wpListIn_insV (by rfl) _ _ _ (by rfl) (S := fun b => b < W.heap.size) (φ := []) (B := W.heap.size + 1) (vars := []) (s := 0) (u := inputP l) (g := p) (by have := MapV.made (W.alloc (.cells #[.int .i64 F, .int .i64 0, .slice none 0 0, .slice none 0 0] 113)) (fun b => b < W.heap.size) []; simpa using this) (by decide) (by decide) (HP.out.up (al2 W _ _)) (by rfl) (by rfl) (by rfl) ?_; intro W5 hp5; have C := hid (CW.out W5 hp5); clear hp5)
        | (refine ⟨trivial, ?_⟩; gi_at_call 54; go_must (refine (callsIn_wide.2 C.out).mono ?_); rintro e9 w8 ⟨h8, A1, c1, A5, c5, l2, hB, hr1, hr2, hl2, hb8⟩; go_must (rw [if_pos HK.out, decide_eq_true HK.out] at h8; subst h8; have HB := hid (And.intro hB (And.intro (BT.out.2.below hb8 BT.out.2.lt) (And.intro ((hb8.block D HD.out.2.1).trans HD.out.1) (And.intro hr1 (And.intro hr2 (And.intro hl2 hb8)))))); have fz8 : ∀ o, (w8.alloc o).frozen? ⟨W.heap.size, 3, none⟩ = false := (fun o => (HB.out.1.alloc o).frozen 3); have fy8 : ∀ o, (w8.alloc o).cell? ⟨W.heap.size, 3, none⟩ = some (.slice A5 l2.length c5) := (fun o => (HB.out.1.alloc o).cell 3); clear hB hr1 hr2 hl2 hb8)))
      (have KE := hid (KEnd.of (w := w) (.cells #[.int .i64 0, .bool true] 115) HB.out.1 HB.out.2.1 HB.out.2.2.1 HB.out.2.2.2.1 HB.out.2.2.2.2.1 HB.out.2.2.2.2.2.2); obtain ⟨W9, hW9⟩ : ∃ W9, W9 = w8.alloc (.cells #[.int .i64 0, .bool true] 115) := ⟨_, rfl⟩; have K9 := hid (KE.out _ hW9); have ms : W9.cell? ⟨w8.heap.size, 0, none⟩ = some (.int .i64 0) := (by rw [hW9]; exact (Blk.new w8 _ _).cell 0); rw [← hW9]; clear hW9 KE; have m1 : W9.cell? ⟨W.heap.size, 1, none⟩ = some (.int .i64 (r4 : Nat)) := K9.out.bm.cell 1; have m2 : W9.cell? ⟨W.heap.size, 2, none⟩ = some (.slice A1 r2.length c1) := K9.out.bm.cell 2; have m3 : W9.cell? ⟨W.heap.size, 3, none⟩ = some (.slice A5 l2.length c5) := K9.out.bm.cell 3; obtain ⟨q0, q1, q2⟩ := K9.out.br.three; have f0 := K9.out.br.frozen 0; have f1 := K9.out.br.frozen 1; have f2 := K9.out.br.frozen 2; have n1 : W.heap.size ≠ w.heap.size + 1 := (by have := NM.out; omega); have n2 := n1.symm; have n3 : w8.heap.size ≠ w.heap.size + 1 := (by have := NM.out; have := HB.out.2.2.2.2.2.2.size; omega); have n4 := n3.symm; refine wpIn_wide.2 ?_)
      go_region_held3 (fun w' => w'.cell? ⟨W.heap.size, 1, none⟩ = some (.int .i64 (r4 : Nat))) (first | with_reducible exact m1 | go_keep) (fail)
      gi_wp2
      (obtain ⟨x1, x2, x3, x4, x5⟩ := K9.out.fin (e0 := 0) (v1 := .slice none 0 0) (v2 := .slice none 0 0) (by have := NM.out; omega) HD.out.2.1 BW.out rfl; have y0 := x2.cell 0; have y1 := x2.cell 1; have y2 := x2.cell 2; refine ⟨by simp, .inl ⟨_, _, rfl, run_takeDeferred x1, .tuple #[.agg #[.int .i64 0, .slice none 0 0, .slice none 0 0], .int .i64 (r4 : Nat), .int .i64 220], by simp [results, Try.results29, go_sem]; simp [y0, y1, y2], ?_⟩⟩)
      refine ⟨(0, [], [], 220), r4, none, 0, none, 0, ?_, rfl, RowI.nil _ _, RowI.nil _ _, x5⟩
      exact runP_neg HV.out.2.1.1 HV.out.2.1.2.2.2.1 HV.out.2.1.2.2.2.2 HV.out.2.1.2.1 HK.out
    · by_cases hk1 : r1 = 1
      · have HK := hid (And.intro hk hk1)
        clear hk hk1
        gi_wp2_with (first
          | (refine wpListIn_insV (by rfl) _ _ _ (by rfl) (S := fun b => b < W.heap.size) (φ := []) (B := W.heap.size + 1) (vars := []) (s := 0) (u := inputP l) (g := p) (by have := MapV.made (W.alloc (.cells #[.int .i64 F, .int .i64 0, .slice none 0 0, .slice none 0 0] 113)) (fun b => b < W.heap.size) []; simpa using this) (by decide) (by decide) (HP.out.up (al2 W _ _)) (by rfl) (by rfl) (by rfl) ?_; intro W5 hp5; have C := hid (CW.out W5 hp5); clear hp5)
          | (refine ⟨trivial, ?_⟩; gi_at_call 54; go_must (refine (callsIn_wide.2 C.out).mono ?_); rintro e9 w8 ⟨h8, A1, c1, A5, c5, l2, hB, hr1, hr2, hl2, hb8⟩; go_must (rw [if_neg HK.out.1, decide_eq_false HK.out.1, HK.out.2] at h8; subst h8; have HB := hid (And.intro hB (And.intro (BT.out.2.below hb8 BT.out.2.lt) (And.intro ((hb8.block D HD.out.2.1).trans HD.out.1) (And.intro hr1 (And.intro hr2 (And.intro hl2 hb8)))))); have fz8 : ∀ o, (w8.alloc o).frozen? ⟨W.heap.size, 3, none⟩ = false := (fun o => (HB.out.1.alloc o).frozen 3); have fy8 : ∀ o, (w8.alloc o).cell? ⟨W.heap.size, 3, none⟩ = some (.slice A5 l2.length c5) := (fun o => (HB.out.1.alloc o).cell 3); clear hB hr1 hr2 hl2 hb8)))
        (have KE := hid (KEnd.of (w := w) (.cells #[.int .i64 1, .bool false] 115) HB.out.1 HB.out.2.1 HB.out.2.2.1 HB.out.2.2.2.1 HB.out.2.2.2.2.1 HB.out.2.2.2.2.2.2); obtain ⟨W9, hW9⟩ : ∃ W9, W9 = w8.alloc (.cells #[.int .i64 1, .bool false] 115) := ⟨_, rfl⟩; have K9 := hid (KE.out _ hW9); have ms : W9.cell? ⟨w8.heap.size, 0, none⟩ = some (.int .i64 1) := (by rw [hW9]; exact (Blk.new w8 _ _).cell 0); rw [← hW9]; clear hW9 KE; have m1 : W9.cell? ⟨W.heap.size, 1, none⟩ = some (.int .i64 (r4 : Nat)) := K9.out.bm.cell 1; have m2 : W9.cell? ⟨W.heap.size, 2, none⟩ = some (.slice A1 r2.length c1) := K9.out.bm.cell 2; have m3 : W9.cell? ⟨W.heap.size, 3, none⟩ = some (.slice A5 l2.length c5) := K9.out.bm.cell 3; obtain ⟨q0, q1, q2⟩ := K9.out.br.three; have f0 := K9.out.br.frozen 0; have f1 := K9.out.br.frozen 1; have f2 := K9.out.br.frozen 2; have n1 : W.heap.size ≠ w.heap.size + 1 := (by have := NM.out; omega); have n2 := n1.symm; have n3 : w8.heap.size ≠ w.heap.size + 1 := (by have := NM.out; have := HB.out.2.2.2.2.2.2.size; omega); have n4 := n3.symm; refine wpIn_wide.2 ?_)
        go_region_held3 (fun w' => w'.cell? ⟨W.heap.size, 1, none⟩ = some (.int .i64 (r4 : Nat)) ∧ w'.cell? ⟨W.heap.size, 2, none⟩ = some (.slice A1 r2.length c1) ∧ w'.cell? ⟨W.heap.size, 3, none⟩ = some (.slice A5 l2.length c5) ∧ w'.cell? ⟨w8.heap.size, 0, none⟩ = some (.int .i64 1)) (first | with_reducible exact ⟨m1, m2, m3, ms⟩ | go_keep) (fail)
        gi_wp2
        (obtain ⟨x1, x2, x3, x4, x5⟩ := K9.out.fin (e0 := 1) (v1 := .slice A1 r2.length c1) (v2 := .slice A5 l2.length c5) (by have := NM.out; omega) HD.out.2.1 BW.out rfl; have y0 := x2.cell 0; have y1 := x2.cell 1; have y2 := x2.cell 2; refine ⟨by simp, .inl ⟨_, _, rfl, run_takeDeferred x1, .tuple #[.agg #[.int .i64 1, .slice A1 r2.length c1, .slice A5 l2.length c5], .int .i64 (r4 : Nat), .int .i64 0], by simp [results, Try.results29, go_sem]; simp [y0, y1, y2], ?_⟩⟩)
        refine ⟨(1, r2, l2, 0), r4, A1, c1, A5, c5, ?_, rfl, x3, x4, x5⟩
        rw [HB.out.2.2.2.2.2.1 HK.out.2]
        exact runP_one HV.out.2.1.1 HV.out.2.1.2.2.2.1 HV.out.2.1.2.2.2.2 HV.out.2.1.2.1 HK.out.2
      · have HK := hid (And.intro hk hk1)
        have d4 : (r1 != 1) = true := by simpa using hk1
        clear hk hk1
        gi_wp2_with (first
          | (refine wpListIn_insV (by rfl) _ _ _ (by rfl) (S := fun b => b < W.heap.size) (φ := []) (B := W.heap.size + 1) (vars := []) (s := 0) (u := inputP l) (g := p) (by have := MapV.made (W.alloc (.cells #[.int .i64 F, .int .i64 0, .slice none 0 0, .slice none 0 0] 113)) (fun b => b < W.heap.size) []; simpa using this) (by decide) (by decide) (HP.out.up (al2 W _ _)) (by rfl) (by rfl) (by rfl) ?_; intro W5 hp5; have C := hid (CW.out W5 hp5); clear hp5)
          | (refine ⟨trivial, ?_⟩; gi_at_call 54; go_must (refine (callsIn_wide.2 C.out).mono ?_); rintro e9 w8 ⟨h8, A1, c1, A5, c5, l2, hB, hr1, hr2, hl2, hb8⟩; go_must (rw [if_neg HK.out.1, decide_eq_false HK.out.1] at h8; subst h8; have HB := hid (And.intro hB (And.intro (BT.out.2.below hb8 BT.out.2.lt) (And.intro ((hb8.block D HD.out.2.1).trans HD.out.1) (And.intro hr1 (And.intro hr2 (And.intro hl2 hb8)))))); have fz8 : ∀ o, (w8.alloc o).frozen? ⟨W.heap.size, 3, none⟩ = false := (fun o => (HB.out.1.alloc o).frozen 3); have fy8 : ∀ o, (w8.alloc o).cell? ⟨W.heap.size, 3, none⟩ = some (.slice A5 l2.length c5) := (fun o => (HB.out.1.alloc o).cell 3); clear hB hr1 hr2 hl2 hb8)))
        (have KE := hid (KEnd.of (w := w) (.cells #[.int .i64 r1, .bool false] 115) HB.out.1 HB.out.2.1 HB.out.2.2.1 HB.out.2.2.2.1 HB.out.2.2.2.2.1 HB.out.2.2.2.2.2.2); obtain ⟨W8, hW8⟩ : ∃ W8, W8 = w8.alloc (.cells #[.int .i64 r1, .bool false] 115) := ⟨_, rfl⟩; obtain ⟨W9, hW9⟩ : ∃ W9, W9 = W8.setCell ⟨W.heap.size, 3, none⟩ (.slice none 0 0) := ⟨_, rfl⟩; have K9 := hid (hW9 ▸ (KE.out _ hW8).hush HD.out.2.1 (by have := NM.out; omega)); have ms : W9.cell? ⟨w8.heap.size, 0, none⟩ = some (.int .i64 r1) := (by rw [hW9, hW8]; exact ((Blk.new w8 115 #[.int .i64 r1, .bool false]).far (p := ⟨W.heap.size, 3, none⟩) (by have := HB.out.1.lt; simp; omega) _).cell 0); rw [← hW8, ← hW9]; clear hW9 hW8 KE; have m1 : W9.cell? ⟨W.heap.size, 1, none⟩ = some (.int .i64 (r4 : Nat)) := K9.out.bm.cell 1; have m2 : W9.cell? ⟨W.heap.size, 2, none⟩ = some (.slice A1 r2.length c1) := K9.out.bm.cell 2; have m3 : W9.cell? ⟨W.heap.size, 3, none⟩ = some (.slice none 0 0) := K9.out.bm.cell 3; obtain ⟨q0, q1, q2⟩ := K9.out.br.three; have f0 := K9.out.br.frozen 0; have f1 := K9.out.br.frozen 1; have f2 := K9.out.br.frozen 2; have n1 : W.heap.size ≠ w.heap.size + 1 := (by have := NM.out; omega); have n2 := n1.symm; have n3 : w8.heap.size ≠ w.heap.size + 1 := (by have := NM.out; have := HB.out.2.2.2.2.2.2.size; omega); have n4 := n3.symm; refine wpIn_wide.2 ?_)
        go_region_held3 (fun w' => w'.cell? ⟨W.heap.size, 1, none⟩ = some (.int .i64 (r4 : Nat)) ∧ w'.cell? ⟨W.heap.size, 2, none⟩ = some (.slice A1 r2.length c1) ∧ w'.cell? ⟨W.heap.size, 3, none⟩ = some (.slice none 0 0) ∧ w'.cell? ⟨w8.heap.size, 0, none⟩ = some (.int .i64 r1)) (first | with_reducible exact ⟨m1, m2, m3, ms⟩ | go_keep) (fail)
        gi_wp2
        (obtain ⟨x1, x2, x3, x4, x5⟩ := K9.out.fin (e0 := r1) (v1 := .slice A1 r2.length c1) (v2 := .slice none 0 0) (by have := NM.out; omega) HD.out.2.1 BW.out rfl; have y0 := x2.cell 0; have y1 := x2.cell 1; have y2 := x2.cell 2; refine ⟨by simp, .inl ⟨_, _, rfl, run_takeDeferred x1, .tuple #[.agg #[.int .i64 r1, .slice A1 r2.length c1, .slice none 0 0], .int .i64 (r4 : Nat), .int .i64 0], by simp [results, Try.results29, go_sem]; simp [y0, y1, y2], ?_⟩⟩)
        refine ⟨(r1, r2, [], 0), r4, A1, c1, none, 0, ?_, rfl, x3, RowI.nil _ _, x5⟩
        exact runP_end HV.out.2.1.1 HV.out.2.1.2.2.2.1 HV.out.2.1.2.2.2.2 HV.out.2.1.2.1 (by have := HK.out.1; omega) HK.out.2
end Go.Proofs.Ytdmkjndlobichaa
/-
  THE WALKS OF cpsrun.run, Run AND Steps.
-/
namespace Go.Proofs.Ytdmkjndlobichaa
set_option linter.all false
open Go.ChangeShapes Go.WideShapes Go.ChangeAt Go.RowKit
open Tm (Te goodT RunP)
/-- cpsrun.run. -/
theorem kps_run (w : World) (t : Te) (v : Value) (S S' : Nat → Prop) (l : List Int) (A : Option Addr) (cA : Nat) (fuel : Int) (hv : TAt w S t v) (hI : IAt w S' l A cA) (hn : Tm.names t ≤ 1000000000000) (hf : fuel ≤ 200000 ∨ 1048576 < fuel) : Calls Try.prog 29 #[v, .slice A l.length cA, .int .i64 fuel] w (RunKV t l fuel w) := by
  cases hg : goodT t with
  | false => exact krun_bad w t v S l A cA fuel hv hn hg
  | true =>
    by_cases hb : 256 < l.length ∨ fuel < 0 ∨ 1048576 < fuel
    · exact krun_arg w t v S l A cA fuel hv hn hg hb
    · obtain ⟨F, rfl⟩ : ∃ F : Nat, fuel = F := ⟨fuel.toNat, by omega⟩
      exact krun_ok w t v S S' l A cA F hv hI hn hg (by omega) (by omega)
def RunKW (t : Te) (l : List Int) (fuel : Int) (w : World) (e : Ending) (w' : World) : Prop := ∃ r n A1 c1 A2 c2, RunP t l fuel r n ∧ e = .returned (.tuple #[.agg #[.int .i64 r.1, .slice A1 r.2.1.length c1, .slice A2 r.2.2.1.length c2], .int .i64 r.2.2.2]) ∧ RowI w' w.heap.size A1 c1 r.2.1 ∧ RowI w' w.heap.size A2 c2 r.2.2.1 ∧ Below w.heap.size w w'
theorem ret_KRun {R : Ending → World → Prop} {a : Act} {w : World} {g : Nat} {v0 v1 v2 u7 : Value} (h6 : a.tmps.getD 6 undef = .pointer (some ⟨g, 0, none⟩)) (h7 : a.tmps.getD 7 undef = u7) (hg : Blk w g 32 #[v0, v1, v2]) (hd : a.defers = [])
    (hR : R (.returned (.tuple #[.agg #[v0, v1, v2], u7])) w) : bodyPost Try.prog Try.f9 R .ret a w := by
  have y0 : w.cell? ⟨g, 0, none⟩ = some v0 := hg.cell 0
  have y1 : w.cell? ⟨g, 1, none⟩ = some v1 := hg.cell 1
  have y2 : w.cell? ⟨g, 2, none⟩ = some v2 := hg.cell 2
  rw [Array.getD_eq_getD_getElem?] at h6 h7
  refine bodyPost_ret ?_ hd hR
  simp [results, Try.results9, go_sem, h6, h7, y0, y1, y2]
set_option maxHeartbeats 4000000 in
set_option maxRecDepth 100000 in
theorem cpsrun_Run (w : World) (t : Te) (v : Value) (S S' : Nat → Prop) (l : List Int) (A : Option Addr) (cA : Nat) (fuel : Int) (hv : TAt w S t v) (hI : IAt w S' l A cA) (hn : Tm.names t ≤ 1000000000000) (hf : fuel ≤ 200000 ∨ 1048576 < fuel) : Calls Try.prog 9 #[v, .slice A l.length cA, .int .i64 fuel] w (RunKW t l fuel w) := by
  have HV := hid (And.intro hv.low hI)
  obtain ⟨k, x, m, i, T, tl, tc, A2, al, ac, F9, fl, fc, U, ul, uc, rfl⟩ := hv.agg
  clear hv hI
  go_enter Try.func9, Try.ntmps9
  go_wp2_with fail
  have BM : Below w.heap.size w ((w.alloc (.cells #[.int .i64 k, .int .i64 x, .int .i64 m, .bool i, .slice T tl tc, .slice A2 al ac, .slice F9 fl fc, .slice U ul uc] 27)).alloc (.cells #[.int .i64 0, .slice none 0 0, .slice none 0 0] 32)) := al2 _ _ _
  refine (kps_run _ t _ (fun b => b < w.heap.size) S' l A cA fuel (HV.out.1.up BM) (HV.out.2.keep (fun k hk hl => ⟨BM.block k hl, hk⟩)) hn hf).mono ?_
  rintro e w3 ⟨r, n, A1, c1, A3, c3, hR, rfl, ho1, ho2, b3⟩
  have HR := hid (And.intro hR (And.intro ho1 (And.intro ho2 (And.intro BM b3))))
  have BR3 := hid ((Blk.new' (w := w.alloc (.cells #[.int .i64 k, .int .i64 x, .int .i64 m, .bool i, .slice T tl tc, .slice A2 al ac, .slice F9 fl fc, .slice U ul uc] 27)) (g := w.heap.size + 1) (by simp) 32 #[.int .i64 0, .slice none 0 0, .slice none 0 0]).below b3 (by simp))
  obtain ⟨p0, p1, p2⟩ := BR3.out.three
  have q0 := BR3.out.frozen 0
  have q1 := BR3.out.frozen 1
  have q2 := BR3.out.frozen 2
  have hl1 := BR3.out.lt
  clear hR ho1 ho2 b3 BM
  go_wp2
  have BF := ((((BR3.out.set_ 0 (.int .i64 r.1)).set_ 1 (.slice A1 r.2.1.length c1)).set_ 2 (.slice A3 r.2.2.1.length c3))).alloc (.cells #[.int .i64 r.1, .slice A1 r.2.1.length c1, .slice A3 r.2.2.1.length c3] 32)
  refine ret_KRun rfl rfl (BF : Blk _ (w.heap.size + 1) _ #[.int .i64 r.1, .slice A1 r.2.1.length c1, .slice A3 r.2.2.1.length c3]) rfl ?_
  obtain ⟨hR, ho1, ho2, BM, b3⟩ := HR.out
  have own : ∀ A c xs, RowI w3 ((w.alloc (.cells #[.int .i64 k, .int .i64 x, .int .i64 m, .bool i, .slice T tl tc, .slice A2 al ac, .slice F9 fl fc, .slice U ul uc] 27)).alloc (.cells #[.int .i64 0, .slice none 0 0, .slice none 0 0] 32)).heap.size A c xs → RowI ((((w3.setCell ⟨w.heap.size + 1, 0, none⟩ (.int .i64 r.1)).setCell ⟨w.heap.size + 1, 1, none⟩ (.slice A1 r.2.1.length c1)).setCell ⟨w.heap.size + 1, 2, none⟩ (.slice A3 r.2.2.1.length c3)).alloc (.cells #[.int .i64 r.1, .slice A1 r.2.1.length c1, .slice A3 r.2.2.1.length c3] 32)) w.heap.size A c xs := fun A c xs h => by
    have h2 : RowI w3 (w.heap.size + 1 + 1) A c xs := by simpa using h
    refine RowI.low (h2.keep (fun g hg hl => ?_)) (by omega)
    exact ((al1 _ _).block g (by simpa using hl)).trans ((Below.heap_setCell _ ⟨w.heap.size + 1, 2, none⟩ _ g (by dsimp only; omega)).trans ((Below.heap_setCell _ ⟨w.heap.size + 1, 1, none⟩ _ g (by dsimp only; omega)).trans (Below.heap_setCell _ ⟨w.heap.size + 1, 0, none⟩ _ g (by dsimp only; omega))))
  have hb4 := below_set (i := 2) (below_set (i := 1) (below_set (i := 0) (BM.trans (b3.mono BM.size)) (show w.heap.size ≤ w.heap.size + 1 by omega) (.int .i64 r.1)) (show w.heap.size ≤ w.heap.size + 1 by omega) (.slice A1 r.2.1.length c1)) (show w.heap.size ≤ w.heap.size + 1 by omega) (.slice A3 r.2.2.1.length c3)
  exact ⟨r, n, A1, c1, A3, c3, hR, rfl, own _ _ _ ho1, own _ _ _ ho2, hb4.alloc hb4.size _⟩
set_option maxHeartbeats 4000000 in
set_option maxRecDepth 100000 in
theorem cpsrun_Steps (w : World) (t : Te) (v : Value) (S S' : Nat → Prop) (l : List Int) (A : Option Addr) (cA : Nat) (fuel : Int) (hv : TAt w S t v) (hI : IAt w S' l A cA) (hn : Tm.names t ≤ 1000000000000) (hf : fuel ≤ 200000 ∨ 1048576 < fuel) : Calls Try.prog 14 #[v, .slice A l.length cA, .int .i64 fuel] w (fun e w' => (∃ r n, RunP t l fuel r n ∧ e = .returned (.int .i64 (n : Nat))) ∧ Below w.heap.size w w') := by
  have HV := hid (And.intro hv.low hI)
  obtain ⟨k, x, m, i, T, tl, tc, A2, al, ac, F9, fl, fc, U, ul, uc, rfl⟩ := hv.agg
  clear hv hI
  go_enter Try.func14, Try.ntmps14
  go_wp2_with fail
  have BM : Below w.heap.size w (w.alloc (.cells #[.int .i64 k, .int .i64 x, .int .i64 m, .bool i, .slice T tl tc, .slice A2 al ac, .slice F9 fl fc, .slice U ul uc] 27)) := al1 _ _
  refine (kps_run _ t _ (fun b => b < w.heap.size) S' l A cA fuel (HV.out.1.up BM) (HV.out.2.keep (fun k hk hl => ⟨BM.block k hl, hk⟩)) hn hf).mono ?_
  rintro e w3 ⟨r, n, A1, c1, A3, c3, hR, rfl, ho1, ho2, b3⟩
  have HR := hid (And.intro hR (And.intro BM b3))
  clear hR ho1 ho2 b3 BM
  go_wp2
  go_ret
  obtain ⟨hR, BM, b3⟩ := HR.out
  exact ⟨⟨r, n, hR, rfl⟩, (BM.trans (b3.mono BM.size)).alloc (Nat.le_trans BM.size b3.size) _⟩
end Go.Proofs.Ytdmkjndlobichaa
/-
  THE WALKS OF athanorkeep.Begins AND OF athanorref18.Same.
-/
namespace Go.Proofs.Ytdmkjndlobichaa
set_option linter.all false
open Go.ChangeShapes Go.WideShapes Go.ChangeAt Go.RowKit
theorem Ints.take {w : World} {B : Nat} {A : Option Addr} {n c : Nat} {xs : List Int} (h : Ints w B A n c xs) {k : Nat} (hk : k ≤ n) : Ints w B A k c (xs.take k) := by
  have hl := h.len
  refine ⟨by rw [List.length_take]; omega, Nat.le_trans hk h.cap, h.max, fun x hx => h.wf x (List.mem_of_mem_take hx), fun e => ⟨by have := (h.nil e).1; omega, (h.nil e).2⟩, ?_⟩
  rcases h.at_ with h0 | ⟨ad, hA, hb, hc⟩
  · exact .inl (by omega)
  · refine .inr ⟨ad, hA, hb, fun i hi => (hc i (by omega)).trans ?_⟩
    rw [← gw_get (show i < xs.length by omega), ← gw_get (show i < (xs.take k).length by rw [List.length_take]; omega), List.getElem_take]
theorem begins_iff (xs ys : List Int) : decide (ys <+: xs) = (decide (ys.length ≤ xs.length) && decide (xs.take ys.length = ys)) := by
  rw [Bool.eq_iff_iff]
  simp only [decide_eq_true_eq, Bool.and_eq_true]
  constructor
  · rintro ⟨zs, rfl⟩; simp
  · rintro ⟨_, h⟩
    exact ⟨xs.drop ys.length, by have h9 := List.take_append_drop ys.length xs; rw [h] at h9; exact h9⟩
set_option maxHeartbeats 4000000 in
set_option maxRecDepth 100000 in
theorem keep_Begins (B : Nat) (A1 A2 : Option Addr) (n1 c1 n2 c2 : Nat) (xs ys : List Int) (w : World) (hBw : B ≤ w.heap.size) (h1 : Ints w B A1 n1 c1 xs) (h2 : Ints w B A2 n2 c2 ys) :
    Calls Try.prog 12 #[.slice A1 n1 c1, .slice A2 n2 c2] w fun e w' => e = .returned (.bool (decide (ys <+: xs))) ∧ Below w.heap.size w w' := by
  have e1 := h1.len
  have e2 := h2.len
  have m1 := h1.max
  have k1 := h1.cap
  have nn := h1.nil
  rw [begins_iff]
  by_cases hn : n2 ≤ n1
  · have H := hid (And.intro (h1.take hn) h2)
    have HN := hid (show decide (ys.length ≤ xs.length) = true by simp; omega)
    have HE := hid e2
    have hn' : (n2 : Int) ≤ n1 := by omega
    have hc' : (n1 : Int) ≤ c1 := by omega
    have hb' : (n2 : Int) ≤ c1 := by omega
    have h0 : (0 : Int) ≤ n2 := by omega
    have q9 : (n2 : Int) ≤ 9223372036854775807 := by unfold maxLen at m1; omega
    have hcm : c1 ≤ maxLen := m1
    clear e1 e2 h1 h2 k1
    go_enter Try.func12, Try.ntmps12
    go_wp2_with (go_at_call 28; go_must (refine (keep_Same B A1 A2 n2 c1 n2 c2 (xs.take n2) ys w hBw H.out.1 H.out.2).mono ?_); rintro e w1 ⟨rfl, b1⟩)
    go_ret
    exact ⟨by rw [HN.out, ← HE.out]; simp, b1⟩
  · have HN := hid (show decide (ys.length ≤ xs.length) = false by simp; omega)
    have hn' : ¬ (n2 : Int) ≤ n1 := by omega
    clear e1 e2 h1 h2
    go_enter Try.func12, Try.ntmps12
    go_wp2
    go_ret
    exact ⟨by rw [HN.out]; simp, Below.refl _ _⟩
set_option maxHeartbeats 4000000 in
set_option maxRecDepth 100000 in
theorem ref18_Same (B : Nat) (e1 e2 : Int) (A1 A2 A3 A4 : Option Addr) (n1 c1 n2 c2 n3 c3 n4 c4 : Nat) (xs ys us vs : List Int) (w : World) (hBw : B ≤ w.heap.size) (h1 : Ints w B A1 n1 c1 xs) (h2 : Ints w B A2 n2 c2 ys) (h3 : Ints w B A3 n3 c3 us) (h4 : Ints w B A4 n4 c4 vs) :
    Calls Try.prog 11 #[.agg #[.int .i64 e1, .slice A1 n1 c1, .slice A3 n3 c3], .agg #[.int .i64 e2, .slice A2 n2 c2, .slice A4 n4 c4]] w fun e w' => e = .returned (.bool (decide (e1 = e2 ∧ xs = ys ∧ us = vs))) ∧ Below w.heap.size w w' := by
  have H := hid (And.intro h1 (And.intro h2 (And.intro h3 (And.intro h4 hBw))))
  have BM : Below w.heap.size w ((w.alloc (.cells #[.int .i64 e1, .slice A1 n1 c1, .slice A3 n3 c3] 32)).alloc (.cells #[.int .i64 e2, .slice A2 n2 c2, .slice A4 n4 c4] 32)) := al2 _ _ _
  have HM := hid BM
  clear h1 h2 h3 h4 hBw BM
  by_cases he : e1 = e2
  · subst he
    by_cases hx : xs = ys
    · have HX := hid hx
      have P0 := hid trivial
      clear hx
      go_enter Try.func11, Try.ntmps11
      go_wp2_with (first
        | (go_at_call 28; have _ := P0.out; clear P0; (refine (keep_Same B A1 A2 n1 c1 n2 c2 xs ys _ (Nat.le_trans H.out.2.2.2.2 HM.out.size) (H.out.1.below (HM.out.mono H.out.2.2.2.2) (Nat.le_refl _)) (H.out.2.1.below (HM.out.mono H.out.2.2.2.2) (Nat.le_refl _))).mono ?_); rintro e w1 ⟨rfl, b1⟩; rw [decide_eq_true HX.out]; have B1 := hid (below_hop b1 HM.out); have BX := hid (((Blk.new w 32 #[.int .i64 e1, .slice A1 n1 c1, .slice A3 n3 c3]).alloc _).below b1 (by simp; omega)); have BY := hid ((Blk.new' (w := w.alloc (.cells #[.int .i64 e1, .slice A1 n1 c1, .slice A3 n3 c3] 32)) (g := w.heap.size + 1) (by simp) 32 #[.int .i64 e1, .slice A2 n2 c2, .slice A4 n4 c4]).below b1 (by simp)); obtain ⟨x0, x1, x2⟩ := BX.out.three; obtain ⟨y0, y1, y2⟩ := BY.out.three; clear b1)
        | (go_at_call 28; (refine (keep_Same B A3 A4 n3 c3 n4 c4 us vs w1 (Nat.le_trans H.out.2.2.2.2 B1.out.size) (H.out.2.2.1.below (B1.out.mono H.out.2.2.2.2) (Nat.le_refl _)) (H.out.2.2.2.1.below (B1.out.mono H.out.2.2.2.2) (Nat.le_refl _))).mono ?_); rintro e w2 ⟨rfl, b2⟩))
      go_ret
      exact ⟨by simp [HX.out], below_hop b2 B1.out⟩
    · have HX := hid hx
      clear hx
      go_enter Try.func11, Try.ntmps11
      go_wp2_with (go_at_call 28; (refine (keep_Same B A1 A2 n1 c1 n2 c2 xs ys _ (Nat.le_trans H.out.2.2.2.2 HM.out.size) (H.out.1.below (HM.out.mono H.out.2.2.2.2) (Nat.le_refl _)) (H.out.2.1.below (HM.out.mono H.out.2.2.2.2) (Nat.le_refl _))).mono ?_); rintro e w1 ⟨rfl, b1⟩; rw [decide_eq_false HX.out]; have B1 := hid (below_hop b1 HM.out); clear b1)
      go_ret
      exact ⟨by simp [HX.out], B1.out⟩
  · have HE := hid he
    have he' : (e1 == e2) = false := by simp [he]
    clear he
    go_enter Try.func11, Try.ntmps11
    go_wp2
    go_ret
    exact ⟨by simp [HE.out], HM.out⟩
end Go.Proofs.Ytdmkjndlobichaa
/-
  PLAIN: with more fuel; the run that wakes looks at.
-/
namespace Go.Proofs.Ytdmkjndlobichaa
set_option linter.all false
namespace Tm
theorem runP_fuel {t : Te} {l : List Int} {a b : Int} {r q : Int × List Int × List Int × Int} {n m : Nat} (ha : 0 ≤ a) (hab : a ≤ b) (hb : b ≤ 1048576) (hr : RunP t l a r n) (hq : RunP t l b q m) :
    (r.2.2.2 ≠ 0 → q.2.2.2 = r.2.2.2 ∧ r.1 = 0) ∧ (r.2.2.2 = 0 → r.1 ≠ 3 → q = r) ∧ (r.2.2.2 = 0 → r.1 = 3 → q.2.2.2 = 220 ∨ r.2.1 <+: q.2.1) := by
  unfold RunP at hr hq
  by_cases hg : goodT t = false
  · rw [if_pos hg] at hr hq
    obtain ⟨rfl, rfl⟩ := hr
    obtain ⟨rfl, rfl⟩ := hq
    exact ⟨fun _ => ⟨rfl, rfl⟩, fun h => by simp at h, fun h => by simp at h⟩
  · rw [if_neg hg] at hr hq
    by_cases hl : 256 < l.length
    · rw [if_pos (.inl hl)] at hr hq
      obtain ⟨rfl, rfl⟩ := hr
      obtain ⟨rfl, rfl⟩ := hq
      exact ⟨fun _ => ⟨rfl, rfl⟩, fun h => by simp at h, fun h => by simp at h⟩
    · rw [if_neg (by omega)] at hr hq
      obtain ⟨g, k, ws, ss, h1, rfl⟩ := hr
      obtain ⟨g2, k2, ws2, ss2, h2, rfl⟩ := hq
      obtain ⟨f1, f2⟩ := run_fuel (show a.toNat ≤ b.toNat by omega) (Nat.zero_le _) h1 h2
      by_cases hk : k < 0
      · have h9 := f1 (by show k ≠ 3; omega)
        simp only [Prod.mk.injEq] at h9
        obtain ⟨rfl, rfl, rfl, rfl⟩ := h9
        simp only [if_pos hk]
        exact ⟨fun _ => by simp, fun h => by simp at h, fun h => by simp at h⟩
      · simp only [if_neg hk]
        refine ⟨fun h => absurd rfl h, fun _ h3 => ?_, fun _ h3 => ?_⟩
        · have h9 := f1 h3
          simp only [Prod.mk.injEq] at h9
          obtain ⟨rfl, rfl, rfl, rfl⟩ := h9
          rw [if_neg hk]
        · by_cases hk2 : k2 < 0
          · rw [if_pos hk2]; exact .inl rfl
          · rw [if_neg hk2]; exact .inr (f2 h3)
/-- A run tells one thing. -/
theorem runP_uniq {t : Te} {l : List Int} {f : Int} {r q : Int × List Int × List Int × Int} {n m : Nat} (hr : RunP t l f r n) (hq : RunP t l f q m) : q = r ∧ m = n := by
  unfold RunP at hr hq
  by_cases hg : goodT t = false
  · rw [if_pos hg] at hr hq
    exact ⟨hq.1.trans hr.1.symm, hq.2.trans hr.2.symm⟩
  · rw [if_neg hg] at hr hq
    split at hr
    · rename_i h9
      rw [if_pos h9] at hq
      exact ⟨hq.1.trans hr.1.symm, hq.2.trans hr.2.symm⟩
    · rename_i h9
      rw [if_neg h9] at hq
      obtain ⟨g, k, ws, ss, h1, rfl⟩ := hr
      obtain ⟨g2, k2, ws2, ss2, h2, rfl⟩ := hq
      have h9 := run_one h1 h2
      simp only [Prod.mk.injEq] at h9
      obtain ⟨rfl, rfl, rfl, rfl⟩ := h9
      exact ⟨rfl, rfl⟩
def plnT : Te := .mk 8 0 0 false [] [(true, 0)] [] [] []
theorem pln_run {r : Int × List Int × List Int × Int} {n : Nat} (h : RunP plnT [5] 0 r n) : r = (1, [], [1, 5, 0], 0) := by
  have hg : goodT plnT = true := by decide +kernel
  have h2 : RunP plnT [5] 0 (1, [], [1, 5, 0], 0) 0 := by
    unfold RunP
    rw [if_neg (by rw [hg]; simp), if_neg (by decide)]
    exact ⟨1, 1, [], [1, 5, 0], by rfl, by decide⟩
  exact ((runP_uniq h2 h).1)
end Tm
end Go.Proofs.Ytdmkjndlobichaa
/-
  THE WALK OF athanorlaw23.wakes.
-/
namespace Go.Proofs.Ytdmkjndlobichaa
set_option linter.all false
open Go.ChangeShapes Go.WideShapes Go.ChangeAt Go.RowKit
open Tm (Te plnT pln_run)
/-- A row of integers of one's own, as it reads. -/
theorem own_iat {w : World} {B n c : Nat} {A : Option Addr} {xs : List Int} (h : OwnI w B (.slice A n c) xs) (hl : xs.length ≤ 17592186044416) : n = xs.length ∧ IAt w (fun b => B ≤ b) xs A c := by
  have hown := h.own
  obtain ⟨⟨h1, h2⟩, hw⟩ := h
  simp only [List.length_map, Nat.mul_one] at h1 h2
  rcases h2 with ⟨e, h0⟩ | ⟨g, cap, cur, e, hB, hg, hc, hm, hs, ht⟩
  · injection e with e1 e2 e3
    subst e1 e2 e3
    have : xs = [] := by simpa using h0
    subst this
    exact ⟨rfl, ⟨Nat.le_refl _, Nat.zero_le _, fun _ => ⟨rfl, rfl⟩, by simp⟩, fun j hj => by simp at hj⟩
  · injection e with e1 e2 e3
    subst e1 e2 e3
    refine ⟨rfl, ⟨hc, hm, fun h => (by cases h), hl⟩, fun j hj => ⟨⟨g, 0, none⟩, rfl, hB, ?_, hw _ (List.getElem_mem hj)⟩⟩
    exact World.ownsRow.cells hown (g := g) rfl j _ (by simp [hj])
theorem iat_ints {w : World} {S : Nat → Prop} {B tc : Nat} {ts : List Int} {T : Option Addr} (h : IAt w S ts T tc) (hS : ∀ b, S b → b < w.heap.size → b < B) : Ints w B T ts.length tc ts := by
  refine ⟨rfl, h.1.1, h.1.2.1, fun x hx => ?_, fun e => ?_, ?_⟩
  · obtain ⟨j, hj, rfl⟩ := List.getElem_of_mem hx
    obtain ⟨_, _, _, _, h4⟩ := h.2 j hj
    exact h4
  · obtain ⟨h1, h2⟩ := h.1.2.2.1 e
    exact ⟨by rw [h1]; rfl, h2⟩
  · by_cases h0 : ts.length = 0
    · exact .inl h0
    · obtain ⟨ad, e, h1, h2, _⟩ := h.2 0 (by omega)
      refine .inr ⟨ad, e, hS _ h1 (by have := cell_lt h2; rw [add_block] at this; exact this), fun i hi => ?_⟩
      obtain ⟨ad2, e2, _, h4, _⟩ := h.2 i hi
      rw [e] at e2
      injection e2 with e2
      subst e2
      rw [h4, gw_get hi]
theorem iat_nil (w : World) (S : Nat → Prop) : IAt w S [] none 0 := ⟨⟨Nat.le_refl _, Nat.zero_le _, fun _ => ⟨rfl, rfl⟩, by simp⟩, fun j h => by simp at h⟩
theorem iat_five {w : World} {b : Nat} (h : Blk w b 3 #[.int .i64 5]) : IAt w (fun _ => True) [5] (some ⟨b, 0, none⟩) 1 :=
  ⟨⟨Nat.le_refl _, by unfold maxLen; simp, fun h => (by cases h), by simp⟩, fun j hj => by
    obtain rfl : j = 0 := by simp at hj; omega
    exact ⟨_, rfl, trivial, h.cell 0, (show (Lit.int .i64 5).wf = true by decide)⟩⟩
theorem own_ints {w w' : World} {B : Nat} {A : Option Addr} {n c : Nat} {xs : List Int} (h : OwnI w B (.slice A n c) xs) (hb : Below w.heap.size w w') : Ints w' w'.heap.size A n c xs := h.ints.below hb hb.size
theorem plnT_at {w : World} {S : Nat → Prop} {b : Nat} {t : TypeId} (hS : S b) (h : Blk w b t #[.bool true, .int .i64 0]) : TAt w S plnT (.agg #[.int .i64 8, .int .i64 0, .int .i64 0, .bool false, .slice none 0 0, .slice (some ⟨b, 0, none⟩) 1 1, .slice none 0 0, .slice none 0 0]) := by
  refine TAt.make rfl rfl rfl rfl (iat_nil _ _) ⟨⟨by simp, by unfold maxLen; omega, fun h => (by cases h), by simp⟩, fun j hj => ?_⟩ ⟨by simp, by simp, by simp, by simp⟩ rfl (by rw [FRow]; trivial) ⟨by simp, by simp, by simp, by simp⟩ (by rw [TRow]; trivial) (by unfold Wf3; decide)
  obtain rfl : j = 0 := by simp at hj; omega
  exact ⟨_, rfl, hS, h.cell 0, h.cell 1, (show (Lit.int .i64 0).wf = true by decide)⟩
set_option maxHeartbeats 4000000 in
set_option maxRecDepth 100000 in
theorem law22_Plain (w : World) : Calls Try.prog 27 #[] w fun e w' => (∃ v, e = .returned v ∧ TAt w' (fun b => w.heap.size ≤ b) plnT v) ∧ Below w.heap.size w w' := by
  go_enter Try.func27, Try.ntmps27
  go_wp2
  refine ret_term rfl (by rfl) ((Blk.new _ _ _).alloc _) rfl ⟨⟨_, rfl, plnT_at (b := w.heap.size + 1) (by omega) (Blk.new' (by simp) _ _)⟩, al2 _ _ _⟩
theorem RowI.ints {w w' : World} {B : Nat} {A : Option Addr} {c : Nat} {xs : List Int} (h : RowI w B A c xs) (hb : Below w.heap.size w w') : Ints w' w'.heap.size A xs.length c xs := own_ints (B := B) ⟨by simpa [Own] using h.1, h.2⟩ hb
set_option maxHeartbeats 4000000 in
set_option maxRecDepth 100000 in
theorem law23_wakes (w : World) : Calls Try.prog 8 #[] w fun e w' => e = .returned (.bool true) ∧ Below w.heap.size w w' := by
  go_enter Try.func8, Try.ntmps8
  go_wp2_with (first
    | (go_at_call 27; (refine (law22_Plain _).mono ?_); rintro e w1 ⟨⟨v, rfl, hv⟩, b1⟩; obtain ⟨k, x, m, i, T, tl, tc, A2, al, ac, F9, fl, fc, U, ul, uc, rfl⟩ := hv.agg; have V1 := hid (And.intro hv b1); clear hv b1)
    | (go_at_call 9; go_must ((refine (cpsrun_Run (w1.alloc (.cells #[.int .i64 5] 3)) plnT _ _ (fun _ => True) [5] (some ⟨w1.heap.size, 0, none⟩) 1 0 (V1.out.1.up (al1 w1 _)) (iat_five (Blk.new _ _ _)) (by decide) (.inl (by decide))).mono ?_); rintro e w2 ⟨r, n, A1, c1, A3, c3, hR, h9, ho1, ho2, b2⟩; have hr := pln_run hR; subst hr; subst h9; have R1 := hid (And.intro ho2 (below_hop b2 ((V1.out.2).alloc V1.out.2.size _))); clear hR ho1 ho2 b2)))
  have hz : Below w2.heap.size w2 ((w2.alloc (.cells #[.int .i64 1, .slice A1 0 c1, .slice A3 3 c3] 32)).alloc (.cells #[.int .i64 1, .int .i64 5, .int .i64 0] 3)) := al2 _ _ _
  have hlit : Blk ((w2.alloc (.cells #[.int .i64 1, .slice A1 0 c1, .slice A3 3 c3] 32)).alloc (.cells #[.int .i64 1, .int .i64 5, .int .i64 0] 3)) (w2.heap.size + 1) 3 (cellsOf [1, 5, 0]) := Blk.new' (by simp) _ _
  have hI := ints_of_blk (B := ((w2.alloc (.cells #[.int .i64 1, .slice A1 0 c1, .slice A3 3 c3] 32)).alloc (.cells #[.int .i64 1, .int .i64 5, .int .i64 0] 3)).heap.size) hlit hlit.lt (by simp) (by decide)
  refine (keep_Same _ A3 _ 3 c3 3 3 [1, 5, 0] [1, 5, 0] _ (Nat.le_refl _) (R1.out.1.ints hz) hI).mono ?_
  rintro e w4 ⟨rfl, b4⟩
  have HZ := hid (below_hop b4 (below_hop hz R1.out.2))
  clear hz b4
  go_wp2
  go_ret
  exact ⟨rfl, HZ.out⟩
end Go.Proofs.Ytdmkjndlobichaa
/-
  TERMS THAT ARE HANDED IN.
-/
namespace Go.Proofs.Ytdmkjndlobichaa
set_option linter.all false
open Go.ChangeShapes Go.WideShapes Go.ChangeAt Go.RowKit
open Tm (Te)
instance : Inhabited Te := ⟨.mk 0 0 0 false [] [] [] [] []⟩
/-- No part weighs more than a process may hold. -/
def WtOk {H : Type} (P : Program) (t : TypeId) (d : DataW H) : Prop := ∀ n ∈ d.weights P t, n ≤ reachBytes
theorem weightsAll_mem {H : Type} {P : Program} {e : TypeId} : ∀ {ds : List (DataW H)} {d : DataW H}, d ∈ ds → ∀ n ∈ d.weights P e, n ∈ DataW.weightsAll P e ds
  | d0 :: ds, d, hd, n, hn => by
    rw [DataW.weightsAll, List.mem_append]
    rcases List.mem_cons.1 hd with rfl | hd
    · exact .inl hn
    · exact .inr (weightsAll_mem hd n hn)
theorem slice_of_trodW {H : Type} {enc : TypeId × Value → H} {P : Program} {W : World} {base : Nat} {sp : Nat → Bool} {hd : Bool} {t te : TypeId} {n bt B fuel : Nat} {E : List Value → Prop} (ht : P.underlying t = some (.slice te)) (hn : P.cellsOf te = n) (hbt : P.bytesOf te = bt) (hpos : 0 < n)
    (hE : ∀ m es y, m < fuel → DataW.trod enc P W base sp hd m te es = some y → (∀ p ∈ y.2, p.block < B) → WtOk P te y.1 → E es) {cs : List Value} {x : DataW H × List MemPlace} (h : DataW.trod enc P W base sp hd fuel t cs = some x) (hlt : ∀ p ∈ x.2, p.block < B) (hw : WtOk P t x.1) :
    ∃ A len c, cs = [.slice A len c] ∧ len ≤ c ∧ c ≤ maxLen ∧ len * bt ≤ reachBytes ∧ (A = none → len = 0 ∧ c = 0) ∧ ∀ i, i < len → ∃ ad es, A = some ad ∧ ad.block < B ∧ W.cells? base (ad.add (i * n)) n = some es ∧ E es := by
  rcases DataW.trod_slice ht h with ⟨e2, _⟩ | ⟨a, len, cap, elems, rest, m, rfl, e2, hx, hb, hlc, hcm, hel, he, _, _⟩
  · exact ⟨none, 0, 0, e2, Nat.le_refl _, Nat.zero_le _, by simp, fun _ => ⟨rfl, rfl⟩, fun i hi => by omega⟩
  · have hw1 : ∀ k ∈ (DataW.slice (elems.map (·.1)) (rest.map (·.1))).weights P t, k ≤ reachBytes := by rw [hx] at hw; exact hw
    simp only [DataW.weights, ht] at hw1
    refine ⟨some a, len, cap, e2, hlc, hcm, ?_, fun h => (by cases h), fun i hi => ?_⟩
    · have h9 := hw1 _ (List.mem_cons_self)
      rw [hbt] at h9
      simp only [List.length_map] at h9
      rw [hel, Nat.add_mul] at h9
      omega
    have h3 := he i hi
    rw [hn] at h3
    have hi2 : i < elems.length := by omega
    rw [List.getElem?_eq_getElem hi2] at h3
    cases hcell : W.cells? base (a.add (i * n)) n with
    | none => rw [hcell] at h3; simp at h3
    | some es =>
      rw [hcell] at h3
      simp only [Option.bind_some] at h3
      refine ⟨a, es, rfl, ?_, hcell, hE _ _ _ (by omega) h3 (fun p hp => hlt p (by rw [hx]; exact List.mem_append_right _ (List.mem_flatMap.2 ⟨_, List.mem_append_left _ (List.getElem_mem hi2), hp⟩))) (fun k hk => hw1 k (List.mem_cons_of_mem _ (List.mem_append_left _ (weightsAll_mem (List.mem_map.2 ⟨_, List.getElem_mem hi2, rfl⟩) k hk))))⟩
      have : MemPlace.cell a.block (a.off + 0) ∈ x.2 := by
        rw [hx]
        refine List.mem_append_left _ (List.mem_map.2 ⟨0, ?_, rfl⟩)
        rw [hn]
        simp only [List.mem_range]
        exact Nat.mul_pos (by omega) hpos
      exact hlt _ this
theorem cell_of_cells {W : World} {base : Nat} {q : Addr} {n : Nat} {es : List Value} (h : W.cells? base q n = some es) : es.length = n ∧ (∀ v, es[0]? = some v → W.cell? q = some v) ∧ (∀ j v, 0 < j → es[j]? = some v → W.cell? ⟨q.block, q.off + j, none⟩ = some v) := by
  obtain ⟨h0, h1, hg⟩ := World.cells?_some h
  have hl : es.length = n := by first | exact h0 | exact h0.symm | exact h1 | exact h1.symm | omega
  refine ⟨hl, fun v hv => ?_, fun j v hj hv => ?_⟩
  · have hi := (List.getElem?_eq_some_iff.1 hv).1
    have := hg 0 (by omega)
    rw [show q.add 0 = q from by unfold Addr.add; simp] at this
    rw [this]
    first | exact hv | simpa using hv
  · have hi := (List.getElem?_eq_some_iff.1 hv).1
    have := hg j (by omega)
    rw [show q.add j = ⟨q.block, q.off + j, none⟩ from by unfold Addr.add; rw [if_neg (by omega)]] at this
    rw [this]
    first | exact hv | simpa using hv
theorem trod_struct8F {H : Type} {enc : TypeId × Value → H} {P : Program} {w : World} {base : Nat} {spare : Nat → Bool} {held : Bool} {t : TypeId} {f0 f1 f2 f3 f4 f5 f6 f7 : Field} {fuel : Nat} {cs : List Value} {x : DataW H × List MemPlace} (ht : P.underlying t = some (.struct #[f0, f1, f2, f3, f4, f5, f6, f7])) (h : DataW.trod enc P w base spare held fuel t cs = some x) :
    ∃ y0 y1 y2 y3 y4 y5 y6 y7 n, fuel = n + 1 ∧ x = (.agg [y0.1, y1.1, y2.1, y3.1, y4.1, y5.1, y6.1, y7.1], y0.2 ++ (y1.2 ++ (y2.2 ++ (y3.2 ++ (y4.2 ++ (y5.2 ++ (y6.2 ++ y7.2))))))) ∧ cs.length = P.cellsOf t ∧ DataW.trod enc P w base spare held n f0.type ((cs.drop f0.offset).take (P.cellsOf f0.type)) = some y0 ∧ DataW.trod enc P w base spare held n f1.type ((cs.drop f1.offset).take (P.cellsOf f1.type)) = some y1 ∧ DataW.trod enc P w base spare held n f2.type ((cs.drop f2.offset).take (P.cellsOf f2.type)) = some y2 ∧ DataW.trod enc P w base spare held n f3.type ((cs.drop f3.offset).take (P.cellsOf f3.type)) = some y3 ∧ DataW.trod enc P w base spare held n f4.type ((cs.drop f4.offset).take (P.cellsOf f4.type)) = some y4 ∧ DataW.trod enc P w base spare held n f5.type ((cs.drop f5.offset).take (P.cellsOf f5.type)) = some y5 ∧ DataW.trod enc P w base spare held n f6.type ((cs.drop f6.offset).take (P.cellsOf f6.type)) = some y6 ∧ DataW.trod enc P w base spare held n f7.type ((cs.drop f7.offset).take (P.cellsOf f7.type)) = some y7 := by
  obtain ⟨xs, n, hn, rfl, hl, hlen, hf⟩ := DataW.trod_struct ht h
  match xs, hlen with
  | [y0, y1, y2, y3, y4, y5, y6, y7], _ => exact ⟨y0, y1, y2, y3, y4, y5, y6, y7, n, hn, by simp, hl, by simpa using hf 0 f0 rfl, by simpa using hf 1 f1 rfl, by simpa using hf 2 f2 rfl, by simpa using hf 3 f3 rfl, by simpa using hf 4 f4 rfl, by simpa using hf 5 f5 rfl, by simpa using hf 6 f6 rfl, by simpa using hf 7 f7 rfl⟩
theorem trod_struct3F {H : Type} {enc : TypeId × Value → H} {P : Program} {w : World} {base : Nat} {spare : Nat → Bool} {held : Bool} {t : TypeId} {f0 f1 f2 : Field} {fuel : Nat} {cs : List Value} {x : DataW H × List MemPlace} (ht : P.underlying t = some (.struct #[f0, f1, f2])) (h : DataW.trod enc P w base spare held fuel t cs = some x) :
    ∃ y0 y1 y2 n, fuel = n + 1 ∧ x = (.agg [y0.1, y1.1, y2.1], y0.2 ++ (y1.2 ++ y2.2)) ∧ cs.length = P.cellsOf t ∧ DataW.trod enc P w base spare held n f0.type ((cs.drop f0.offset).take (P.cellsOf f0.type)) = some y0 ∧ DataW.trod enc P w base spare held n f1.type ((cs.drop f1.offset).take (P.cellsOf f1.type)) = some y1 ∧ DataW.trod enc P w base spare held n f2.type ((cs.drop f2.offset).take (P.cellsOf f2.type)) = some y2 := by
  obtain ⟨xs, n, hn, rfl, hl, hlen, hf⟩ := DataW.trod_struct ht h
  match xs, hlen with
  | [y0, y1, y2], _ => exact ⟨y0, y1, y2, n, hn, by simp, hl, by simpa using hf 0 f0 rfl, by simpa using hf 1 f1 rfl, by simpa using hf 2 f2 rfl⟩
theorem trod_struct2F {H : Type} {enc : TypeId × Value → H} {P : Program} {w : World} {base : Nat} {spare : Nat → Bool} {held : Bool} {t : TypeId} {f0 f1 : Field} {fuel : Nat} {cs : List Value} {x : DataW H × List MemPlace} (ht : P.underlying t = some (.struct #[f0, f1])) (h : DataW.trod enc P w base spare held fuel t cs = some x) :
    ∃ y0 y1 n, fuel = n + 1 ∧ x = (.agg [y0.1, y1.1], y0.2 ++ y1.2) ∧ cs.length = P.cellsOf t ∧ DataW.trod enc P w base spare held n f0.type ((cs.drop f0.offset).take (P.cellsOf f0.type)) = some y0 ∧ DataW.trod enc P w base spare held n f1.type ((cs.drop f1.offset).take (P.cellsOf f1.type)) = some y1 := by
  obtain ⟨xs, n, hn, rfl, hl, hlen, hf⟩ := DataW.trod_struct ht h
  match xs, hlen with
  | [y0, y1], _ => exact ⟨y0, y1, n, hn, by simp, hl, by simpa using hf 0 f0 rfl, by simpa using hf 1 f1 rfl⟩
/-- A handed-in row of integers. -/
theorem iat_of {H : Type} {enc : TypeId × Value → H} {W : World} {B base : Nat} {sp : Nat → Bool} {hd : Bool} {fuel : Nat} {cs : List Value} {x : DataW H × List MemPlace} (h : DataW.trod enc Try.prog W base sp hd fuel 22 cs = some x) (hlt : ∀ p ∈ x.2, p.block < B) (hw : WtOk Try.prog 22 x.1) :
    ∃ (ts : List Int) (A : Option Addr) (c : Nat), cs = [.slice A ts.length c] ∧ IAt W (fun b => b < B) ts A c := by
  obtain ⟨A, len, c, h1, h2, h3, h4, h5, h6⟩ := slice_of_trodW (n := 1) (bt := 8) (E := fun es => ∃ k : Int, es = [.int .i64 k] ∧ (Lit.int .i64 k).wf = true) Try.underlying22 (by kernel_rfl) (by kernel_rfl) (by omega) (fun m es y _ hy _ _ => by obtain ⟨k, e, _, hk⟩ := DataW.trod_int Try.underlying3 hy; exact ⟨k, e, hk⟩) h hlt hw
  have hf : ∀ i, i < len → ∃ k : Int, ∃ ad, A = some ad ∧ ad.block < B ∧ W.cell? (ad.add i) = some (.int .i64 k) ∧ (Lit.int .i64 k).wf = true := by
    intro i hi
    obtain ⟨ad, es, g1, g2, g3, k, rfl, g4⟩ := h6 i hi
    rw [Nat.mul_one] at g3
    obtain ⟨_, k0, _⟩ := cell_of_cells g3
    exact ⟨k, ad, g1, g2, k0 _ rfl, g4⟩
  obtain ⟨f, hf2⟩ := Deep.choose_lt hf
  have hl : len ≤ 17592186044416 := by unfold reachBytes at h4; omega
  refine ⟨(List.range len).map f, A, c, by simpa using h1, ⟨by simpa using h2, h3, fun e => ?_, by simpa using hl⟩, fun j hj => ?_⟩
  · obtain ⟨rfl, rfl⟩ := h5 e
    exact ⟨rfl, rfl⟩
  · obtain ⟨ad, e1, e2, e3, e4⟩ := hf2 j (by simpa using hj)
    exact ⟨ad, e1, e2, by simpa using e3, by simpa using e4⟩
set_option maxRecDepth 100000 in
/-- A handed-in row of atoms. -/
theorem atat_of {H : Type} {enc : TypeId × Value → H} {W : World} {B base : Nat} {sp : Nat → Bool} {hd : Bool} {fuel : Nat} {cs : List Value} {x : DataW H × List MemPlace} (h : DataW.trod enc Try.prog W base sp hd fuel 23 cs = some x) (hlt : ∀ p ∈ x.2, p.block < B) (hw : WtOk Try.prog 23 x.1) :
    ∃ (ats : List (Bool × Int)) (A : Option Addr) (c : Nat), cs = [.slice A ats.length c] ∧ AtAt W (fun b => b < B) ats A c := by
  have hca : Try.prog.cellsOf 73 = 2 := by kernel_rfl
  have hci : Try.prog.cellsOf 3 = 1 := by kernel_rfl
  have hcb : Try.prog.cellsOf 4 = 1 := by kernel_rfl
  obtain ⟨A, len, c, h1, h2, h3, h4, h5, h6⟩ := slice_of_trodW (n := 2) (bt := 16) (E := fun es => ∃ (b : Bool) (k : Int), es = [.bool b, .int .i64 k] ∧ (Lit.int .i64 k).wf = true) Try.underlying23 (by kernel_rfl) (by kernel_rfl) (by omega) (fun m es y _ hy _ _ => by
    obtain ⟨y0, y1, n, rfl, rfl, hl, h0, h1⟩ := trod_struct2F Try.underlying73 hy
    rw [hca] at hl
    match es, hl with
    | [c0, c1], _ =>
    simp only [hci, hcb, List.drop_zero, List.drop_succ_cons, List.take_succ_cons, List.take_zero] at h0 h1
    obtain ⟨b, e0, _⟩ := DataW.trod_bool Try.underlying4 h0
    obtain ⟨k, e1, _, hk⟩ := DataW.trod_int Try.underlying3 h1
    simp only [List.cons.injEq, and_true] at e0 e1
    subst e0 e1
    exact ⟨b, k, rfl, hk⟩) h hlt hw
  have hf : ∀ i, i < len → ∃ q : Bool × Int, ∃ ad, A = some ad ∧ ad.block < B ∧ W.cell? (ad.add (i * 2)) = some (.bool q.1) ∧ W.cell? ⟨(ad.add (i * 2)).block, (ad.add (i * 2)).off + 1, none⟩ = some (.int .i64 q.2) ∧ (Lit.int .i64 q.2).wf = true := by
    intro i hi
    obtain ⟨ad, es, g1, g2, g3, b, k, rfl, g4⟩ := h6 i hi
    obtain ⟨_, k0, k1⟩ := cell_of_cells g3
    exact ⟨(b, k), ad, g1, g2, k0 _ rfl, k1 1 _ (by omega) rfl, g4⟩
  obtain ⟨f, hf2⟩ := Deep.choose_lt hf
  have hl : len ≤ 17592186044416 := by unfold reachBytes at h4; omega
  refine ⟨(List.range len).map f, A, c, by simpa using h1, ⟨by simpa using h2, h3, fun e => ?_, by simpa using hl⟩, fun j hj => ?_⟩
  · obtain ⟨rfl, rfl⟩ := h5 e
    exact ⟨rfl, rfl⟩
  · obtain ⟨ad, e1, e2, e3, e4, e5⟩ := hf2 j (by simpa using hj)
    exact ⟨ad, e1, e2, by simpa using e3, by simpa using e4, by simpa using e5⟩
def TeE (W : World) (B : Nat) (es : List Value) : Prop := ∃ t c0 c1 c2 c3 c4 c5 c6 c7, es = [c0, c1, c2, c3, c4, c5, c6, c7] ∧ TAt W (fun b => b < B) t (.agg #[c0, c1, c2, c3, c4, c5, c6, c7])
/-- A function's ten cells. -/
def FuE (W : World) (B : Nat) (es : List Value) : Prop := ∃ (x : Int) (ps : List Int) (t : Te) (P : Option Addr) (pc : Nat) (c0 c1 c2 c3 c4 c5 c6 c7 : Value), es = [.int .i64 x, .slice P ps.length pc, c0, c1, c2, c3, c4, c5, c6, c7] ∧ IAt W (fun b => b < B) ps P pc ∧ (Lit.int .i64 x).wf = true ∧ TAt W (fun b => b < B) t (.agg #[c0, c1, c2, c3, c4, c5, c6, c7])
set_option maxRecDepth 100000 in
theorem trow_of {H : Type} {enc : TypeId × Value → H} {W : World} {B base : Nat} {sp : Nat → Bool} {hd : Bool} {fuel : Nat} {cs : List Value} {x : DataW H × List MemPlace} (ih : ∀ m es y, m < fuel → DataW.trod enc Try.prog W base sp hd m 27 es = some y → (∀ p ∈ y.2, p.block < B) → WtOk Try.prog 27 y.1 → TeE W B es)
    (h : DataW.trod enc Try.prog W base sp hd fuel 25 cs = some x) (hlt : ∀ p ∈ x.2, p.block < B) (hw : WtOk Try.prog 25 x.1) : ∃ (us : List Te) (A : Option Addr) (c : Nat), cs = [.slice A us.length c] ∧ Sz us A c ∧ TRow W (fun b => b < B) us A 0 := by
  obtain ⟨A, len, c, h1, h2, h3, h4, h5, h6⟩ := slice_of_trodW (n := 8) (bt := 128) (E := TeE W B) Try.underlying25 (by kernel_rfl) (by kernel_rfl) (by omega) ih h hlt hw
  have hf : ∀ i, i < len → ∃ t : Te, ∃ ad v0 v1 v2 v3 v4 v5 v6 v7, A = some ad ∧ ad.block < B ∧ ((W).cell? (ad.add (i * 8)) = some (v0) ∧ (W).cell? ⟨(ad.add (i * 8)).block, (ad.add (i * 8)).off + 1, none⟩ = some (v1) ∧ (W).cell? ⟨(ad.add (i * 8)).block, (ad.add (i * 8)).off + 2, none⟩ = some (v2) ∧ (W).cell? ⟨(ad.add (i * 8)).block, (ad.add (i * 8)).off + 3, none⟩ = some (v3) ∧ (W).cell? ⟨(ad.add (i * 8)).block, (ad.add (i * 8)).off + 4, none⟩ = some (v4) ∧ (W).cell? ⟨(ad.add (i * 8)).block, (ad.add (i * 8)).off + 5, none⟩ = some (v5) ∧ (W).cell? ⟨(ad.add (i * 8)).block, (ad.add (i * 8)).off + 6, none⟩ = some (v6) ∧ (W).cell? ⟨(ad.add (i * 8)).block, (ad.add (i * 8)).off + 7, none⟩ = some (v7)) ∧ TAt W (fun b => b < B) t (.agg #[v0, v1, v2, v3, v4, v5, v6, v7]) := by
    intro i hi
    obtain ⟨ad, es, g1, g2, g3, t, c0, c1, c2, c3, c4, c5, c6, c7, rfl, g4⟩ := h6 i hi
    obtain ⟨_, k0, k1⟩ := cell_of_cells g3
    exact ⟨t, ad, c0, c1, c2, c3, c4, c5, c6, c7, g1, g2, ⟨k0 _ rfl, k1 1 _ (by omega) rfl, k1 2 _ (by omega) rfl, k1 3 _ (by omega) rfl, k1 4 _ (by omega) rfl, k1 5 _ (by omega) rfl, k1 6 _ (by omega) rfl, k1 7 _ (by omega) rfl⟩, g4⟩
  obtain ⟨f, hf2⟩ := Deep.choose_lt hf
  have hl : len ≤ 17592186044416 := by unfold reachBytes at h4; omega
  refine ⟨(List.range len).map f, A, c, by simpa using h1, ⟨by simpa using h2, h3, fun e => ?_, by simpa using hl⟩, ?_⟩
  · obtain ⟨rfl, rfl⟩ := h5 e
    exact ⟨rfl, rfl⟩
  · by_cases hl : len = 0
    · subst hl
      simp only [List.range_zero, List.map_nil]
      rw [TRow]; trivial
    · obtain ⟨ad, _, _, _, _, _, _, _, _, rfl, hb, _⟩ := hf2 0 (by omega)
      refine TRow.mk hb _ 0 (fun k hk => ?_)
      have hk2 : k < len := by simpa using hk
      obtain ⟨ad', v0, v1, v2, v3, v4, v5, v6, v7, e, q⟩ := hf2 k hk2
      injection e with e
      subst e
      rw [Nat.zero_add]
      exact ⟨v0, v1, v2, v3, v4, v5, v6, v7, q.2.1, by simpa using q.2.2⟩
set_option maxRecDepth 100000 in
theorem frow_of {H : Type} {enc : TypeId × Value → H} {W : World} {B base : Nat} {sp : Nat → Bool} {hd : Bool} {fuel : Nat} {cs : List Value} {x : DataW H × List MemPlace} (ih : ∀ m es y, m < fuel → DataW.trod enc Try.prog W base sp hd m 27 es = some y → (∀ p ∈ y.2, p.block < B) → WtOk Try.prog 27 y.1 → TeE W B es)
    (h : DataW.trod enc Try.prog W base sp hd fuel 24 cs = some x) (hlt : ∀ p ∈ x.2, p.block < B) (hw : WtOk Try.prog 24 x.1) : ∃ (fh : List (Int × List Int)) (fb : List Te) (A : Option Addr) (c : Nat), fh.length = fb.length ∧ cs = [.slice A fb.length c] ∧ Sz fb A c ∧ FRow W (fun b => b < B) fh fb A 0 := by
  have hcf : Try.prog.cellsOf 59 = 10 := by kernel_rfl
  have hct : Try.prog.cellsOf 27 = 8 := by kernel_rfl
  have hci : Try.prog.cellsOf 3 = 1 := by kernel_rfl
  have hcs : Try.prog.cellsOf 22 = 1 := by kernel_rfl
  obtain ⟨A, len, c, h1, h2, h3, h4, h5, h6⟩ := slice_of_trodW (n := 10) (bt := 160) (E := FuE W B) Try.underlying24 (by kernel_rfl) (by kernel_rfl) (by omega) (fun m es y hm hy hp hwy => by
    obtain ⟨y0, y1, y2, n, rfl, rfl, hl, g0, g1, g2⟩ := trod_struct3F Try.underlying59 hy
    have hw1 : WtOk Try.prog 22 y1.1 := fun k hk => hwy k (by simp only [DataW.weights, Try.underlying59]; exact DataW.weights_mem_each (j := 1) rfl rfl k hk)
    have hw2 : WtOk Try.prog 27 y2.1 := fun k hk => hwy k (by simp only [DataW.weights, Try.underlying59]; exact DataW.weights_mem_each (j := 2) rfl rfl k hk)
    rw [hcf] at hl
    match es, hl with
    | [c0, c1, c2, c3, c4, c5, c6, c7, c8, c9], _ =>
    simp only [hci, hcs, hct, List.drop_zero, List.drop_succ_cons, List.take_succ_cons, List.take_zero] at g0 g1 g2
    obtain ⟨k, e0, _, hk⟩ := DataW.trod_int Try.underlying3 g0
    obtain ⟨ps, P, pc, e1, hP⟩ := iat_of g1 (fun p hp9 => hp p (by simp [hp9])) hw1
    obtain ⟨t, d0, d1, d2, d3, d4, d5, d6, d7, e2, ht⟩ := ih _ _ _ (by omega) g2 (fun p hp9 => hp p (by simp [hp9])) hw2
    simp only [List.cons.injEq, and_true] at e0 e1 e2
    obtain ⟨rfl, rfl, rfl, rfl, rfl, rfl, rfl, rfl⟩ := e2
    subst e0 e1
    exact ⟨k, ps, t, P, pc, _, _, _, _, _, _, _, _, rfl, hP, hk, ht⟩) h hlt hw
  have hf : ∀ i, i < len → ∃ (q9 : (Int × List Int) × Te), ∃ ad P pc v0 v1 v2 v3 v4 v5 v6 v7, A = some ad ∧ ad.block < B ∧ ((W).cell? (ad.add (i * 10)) = some (.int .i64 q9.1.1) ∧ (W).cell? ⟨(ad.add (i * 10)).block, (ad.add (i * 10)).off + 1, none⟩ = some (.slice P q9.1.2.length pc) ∧ (W).cell? ⟨(ad.add (i * 10)).block, (ad.add (i * 10)).off + 2, none⟩ = some (v0) ∧ (W).cell? ⟨(ad.add (i * 10)).block, (ad.add (i * 10)).off + 3, none⟩ = some (v1) ∧ (W).cell? ⟨(ad.add (i * 10)).block, (ad.add (i * 10)).off + 4, none⟩ = some (v2) ∧ (W).cell? ⟨(ad.add (i * 10)).block, (ad.add (i * 10)).off + 5, none⟩ = some (v3) ∧ (W).cell? ⟨(ad.add (i * 10)).block, (ad.add (i * 10)).off + 6, none⟩ = some (v4) ∧ (W).cell? ⟨(ad.add (i * 10)).block, (ad.add (i * 10)).off + 7, none⟩ = some (v5) ∧ (W).cell? ⟨(ad.add (i * 10)).block, (ad.add (i * 10)).off + 8, none⟩ = some (v6) ∧ (W).cell? ⟨(ad.add (i * 10)).block, (ad.add (i * 10)).off + 9, none⟩ = some (v7)) ∧ IAt W (fun b => b < B) q9.1.2 P pc ∧ (Lit.int .i64 q9.1.1).wf = true ∧ TAt W (fun b => b < B) q9.2 (.agg #[v0, v1, v2, v3, v4, v5, v6, v7]) := by
    intro i hi
    obtain ⟨ad, es, g1, g2, g3, x, ps, t, P, pc, c0, c1, c2, c3, c4, c5, c6, c7, rfl, g4, g5, g6⟩ := h6 i hi
    obtain ⟨_, k0, k1⟩ := cell_of_cells g3
    exact ⟨((x, ps), t), ad, P, pc, c0, c1, c2, c3, c4, c5, c6, c7, g1, g2, ⟨k0 _ rfl, k1 1 _ (by omega) rfl, k1 2 _ (by omega) rfl, k1 3 _ (by omega) rfl, k1 4 _ (by omega) rfl, k1 5 _ (by omega) rfl, k1 6 _ (by omega) rfl, k1 7 _ (by omega) rfl, k1 8 _ (by omega) rfl, k1 9 _ (by omega) rfl⟩, g4, g5, g6⟩
  obtain ⟨f, hf2⟩ := Deep.choose_lt hf
  have hl : len ≤ 17592186044416 := by unfold reachBytes at h4; omega
  refine ⟨(List.range len).map (fun i => (f i).1), (List.range len).map (fun i => (f i).2), A, c, by simp, by simpa using h1, ⟨by simpa using h2, h3, fun e => ?_, by simpa using hl⟩, ?_⟩
  · obtain ⟨rfl, rfl⟩ := h5 e
    exact ⟨rfl, rfl⟩
  · by_cases hl : len = 0
    · subst hl
      simp only [List.range_zero, List.map_nil]
      rw [FRow]; trivial
    · obtain ⟨ad, _, _, _, _, _, _, _, _, _, _, rfl, hb, _⟩ := hf2 0 (by omega)
      refine FRow.mk hb _ _ 0 (by simp) (fun k hk hk3 => ?_)
      have hk2 : k < len := by simpa using hk
      obtain ⟨ad', P, pc, v0, v1, v2, v3, v4, v5, v6, v7, e, q⟩ := hf2 k hk2
      injection e with e
      subst e
      rw [Nat.zero_add]
      exact ⟨P, pc, v0, v1, v2, v3, v4, v5, v6, v7, by simpa using q.2.1, by simpa using q.2.2.1, by simpa using q.2.2.2.1, by simpa using q.2.2.2.2⟩
set_option maxRecDepth 100000 in
theorem te_of_trod {H : Type} {enc : TypeId × Value → H} {W : World} {B base : Nat} {sp : Nat → Bool} {hd : Bool} : ∀ {fuel : Nat} {cs : List Value} {x : DataW H × List MemPlace}
    (_ : DataW.trod enc Try.prog W base sp hd fuel 27 cs = some x) (_ : ∀ p ∈ x.2, p.block < B) (_ : WtOk Try.prog 27 x.1), TeE W B cs := by
  have hc : Try.prog.cellsOf 27 = 8 := by kernel_rfl
  have hci : Try.prog.cellsOf 3 = 1 := by kernel_rfl
  have hcb : Try.prog.cellsOf 4 = 1 := by kernel_rfl
  have hcs : Try.prog.cellsOf 22 = 1 := by kernel_rfl
  have hca : Try.prog.cellsOf 23 = 1 := by kernel_rfl
  have hcf : Try.prog.cellsOf 24 = 1 := by kernel_rfl
  have hcc : Try.prog.cellsOf 25 = 1 := by kernel_rfl
  intro fuel
  induction fuel using Nat.strongRecOn with
  | _ fuel ih =>
  intro cs x h hlt hw
  obtain ⟨y0, y1, y2, y3, y4, y5, y6, y7, n, rfl, rfl, hl, h0, h1, h2, h3, h4, h5, h6, h7⟩ := trod_struct8F Try.underlying27 h
  have hw4 : WtOk Try.prog 22 y4.1 := fun k hk => hw k (by simp only [DataW.weights, Try.underlying27]; exact DataW.weights_mem_each (j := 4) rfl rfl k hk)
  have hw5 : WtOk Try.prog 23 y5.1 := fun k hk => hw k (by simp only [DataW.weights, Try.underlying27]; exact DataW.weights_mem_each (j := 5) rfl rfl k hk)
  have hw6 : WtOk Try.prog 24 y6.1 := fun k hk => hw k (by simp only [DataW.weights, Try.underlying27]; exact DataW.weights_mem_each (j := 6) rfl rfl k hk)
  have hw7 : WtOk Try.prog 25 y7.1 := fun k hk => hw k (by simp only [DataW.weights, Try.underlying27]; exact DataW.weights_mem_each (j := 7) rfl rfl k hk)
  rw [hc] at hl
  match cs, hl with
  | [c0, c1, c2, c3, c4, c5, c6, c7], _ =>
  simp only [hci, hcs, hcb, hcc, hca, hcf, List.drop_zero, List.drop_succ_cons, List.take_succ_cons, List.take_zero] at h0 h1 h2 h3 h4 h5 h6 h7
  obtain ⟨k, e0, _, hk⟩ := DataW.trod_int Try.underlying3 h0
  obtain ⟨a, e1, _, ha⟩ := DataW.trod_int Try.underlying3 h1
  obtain ⟨m, e2, _, hm⟩ := DataW.trod_int Try.underlying3 h2
  obtain ⟨i, e3, _⟩ := DataW.trod_bool Try.underlying4 h3
  obtain ⟨ts, T4, tc, e4, g4⟩ := iat_of h4 (fun p hp => hlt p (by simp [hp])) hw4
  obtain ⟨ats, A5, ac, e5, g5⟩ := atat_of h5 (fun p hp => hlt p (by simp [hp])) hw5
  obtain ⟨fh, fb, F6, fc, hfl, e6, g6, g6'⟩ := frow_of (fun m es y hm hy hp => ih m (by omega) hy hp) h6 (fun p hp => hlt p (by simp [hp])) hw6
  obtain ⟨us, U7, uc, e7, g7, g7'⟩ := trow_of (fun m es y hm hy hp => ih m (by omega) hy hp) h7 (fun p hp => hlt p (by simp [hp])) hw7
  simp only [List.cons.injEq, and_true] at e0 e1 e2 e3 e4 e5 e6 e7
  subst e0 e1 e2 e3 e4 e5 e6 e7
  exact ⟨.mk k a m i ts ats fh fb us, _, _, _, _, _, _, _, _, rfl, TAt.make rfl rfl rfl rfl g4 g5 g6 hfl g6' g7 g7' ⟨hk, ha, hm⟩⟩
set_option maxRecDepth 100000 in
theorem open_term {H : Type} {enc : TypeId × Value → H} {W : World} {B b0 b1 : Nat} {sp : Nat → Bool} {hd : Bool} {v : Value} {d : DataW H} {ps : List MemPlace} (hval : Value.okWide Try.prog W .any b1 27 v) (h : DataW.Trod enc Try.prog W b0 sp hd 27 v d ps) (hlt : ∀ p ∈ ps, p.block < B) (hw : WtOk Try.prog 27 d) :
    ∃ t, TAt W (fun b => b < B) t v := by
  obtain ⟨cs, rfl, hsz⟩ := okWide_struct Try.underlying27 hval
  obtain ⟨fuel, hf⟩ := h
  obtain ⟨t, c0, c1, c2, c3, c4, c5, c6, c7, e, ht⟩ := te_of_trod hf hlt hw
  dsimp only [Value.cells] at e
  refine ⟨t, ?_⟩
  have : cs = #[c0, c1, c2, c3, c4, c5, c6, c7] := by apply Array.ext'; simpa using e
  rw [this]
  exact ht
set_option maxRecDepth 100000 in
theorem open_iat {H : Type} {enc : TypeId × Value → H} {W : World} {B b0 b1 : Nat} {sp : Nat → Bool} {hd : Bool} {v : Value} {d : DataW H} {ps : List MemPlace} (hval : Value.okWide Try.prog W .any b1 22 v) (h : DataW.Trod enc Try.prog W b0 sp hd 22 v d ps) (hlt : ∀ p ∈ ps, p.block < B) (hw : WtOk Try.prog 22 d) : ∃ xs A c, v = .slice A xs.length c ∧ IAt W (fun b => b < B) xs A c := by
  obtain ⟨a, l, c, rfl⟩ := okWide_slice Try.underlying22 hval
  obtain ⟨fuel, hf⟩ := h
  obtain ⟨ts, A, c', e, hi⟩ := iat_of hf hlt hw
  simp only [Value.cells, List.cons.injEq, and_true] at e
  exact ⟨ts, A, c', e, hi⟩
theorem wt_of {H : Type} {P : Program} {ts : List TypeId} {ds : List (DataW H)} (h : (DataW.weightsEach P ts ds).all (· ≤ reachBytes) = true) {j : Nat} {t : TypeId} {d : DataW H} (ht : ts[j]? = some t) (hd : ds[j]? = some d) : WtOk P t d := fun n hn => by
  have := List.all_eq_true.1 h n (DataW.weights_mem_each ht hd n hn)
  simpa using this
end Go.Proofs.Ytdmkjndlobichaa
