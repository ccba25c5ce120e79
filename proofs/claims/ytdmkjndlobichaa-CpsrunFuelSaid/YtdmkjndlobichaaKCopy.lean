/-
  THE WALK OF athanorref22.Copy: the same term, in new memory.
-/
import Derived.Test.YtdmkjndlobichaaKRow
import Derived.Test.YtdmkjndlobichaaRegPath
import Derived.Deep.RegionHeld3
import Derived.Deep.CutBlock
import Derived.Deep.DeepCutAuto
namespace Go.Proofs.Ytdmkjndlobichaa
set_option linter.all false
open Go.ChangeShapes Go.WideShapes Go.ChangeAt Go.RowKit
open Tm (Te)
def set8 (w : World) (g : Nat) (v0 v1 v2 v3 v4 v5 v6 v7 : Value) : World := (((((((w.setCell ⟨g, 0, none⟩ v0).setCell ⟨g, 1, none⟩ v1).setCell ⟨g, 2, none⟩ v2).setCell ⟨g, 3, none⟩ v3).setCell ⟨g, 4, none⟩ v4).setCell ⟨g, 5, none⟩ v5).setCell ⟨g, 6, none⟩ v6).setCell ⟨g, 7, none⟩ v7
theorem set8_blk {w : World} {g : Nat} {u0 u1 u2 u3 u4 u5 u6 u7 v0 v1 v2 v3 v4 v5 v6 v7 : Value} (h : Blk w g 27 #[u0, u1, u2, u3, u4, u5, u6, u7]) : Blk (set8 w g v0 v1 v2 v3 v4 v5 v6 v7) g 27 #[v0, v1, v2, v3, v4, v5, v6, v7] := by
  have h0 : Blk (w.setCell ⟨g, 0, none⟩ v0) g 27 #[v0, u1, u2, u3, u4, u5, u6, u7] := h.set_ 0 v0
  have h1 : Blk ((w.setCell ⟨g, 0, none⟩ v0).setCell ⟨g, 1, none⟩ v1) g 27 #[v0, v1, u2, u3, u4, u5, u6, u7] := h0.set_ 1 v1
  have h2 : Blk (((w.setCell ⟨g, 0, none⟩ v0).setCell ⟨g, 1, none⟩ v1).setCell ⟨g, 2, none⟩ v2) g 27 #[v0, v1, v2, u3, u4, u5, u6, u7] := h1.set_ 2 v2
  have h3 : Blk ((((w.setCell ⟨g, 0, none⟩ v0).setCell ⟨g, 1, none⟩ v1).setCell ⟨g, 2, none⟩ v2).setCell ⟨g, 3, none⟩ v3) g 27 #[v0, v1, v2, v3, u4, u5, u6, u7] := h2.set_ 3 v3
  have h4 : Blk (((((w.setCell ⟨g, 0, none⟩ v0).setCell ⟨g, 1, none⟩ v1).setCell ⟨g, 2, none⟩ v2).setCell ⟨g, 3, none⟩ v3).setCell ⟨g, 4, none⟩ v4) g 27 #[v0, v1, v2, v3, v4, u5, u6, u7] := h3.set_ 4 v4
  have h5 : Blk ((((((w.setCell ⟨g, 0, none⟩ v0).setCell ⟨g, 1, none⟩ v1).setCell ⟨g, 2, none⟩ v2).setCell ⟨g, 3, none⟩ v3).setCell ⟨g, 4, none⟩ v4).setCell ⟨g, 5, none⟩ v5) g 27 #[v0, v1, v2, v3, v4, v5, u6, u7] := h4.set_ 5 v5
  have h6 : Blk (((((((w.setCell ⟨g, 0, none⟩ v0).setCell ⟨g, 1, none⟩ v1).setCell ⟨g, 2, none⟩ v2).setCell ⟨g, 3, none⟩ v3).setCell ⟨g, 4, none⟩ v4).setCell ⟨g, 5, none⟩ v5).setCell ⟨g, 6, none⟩ v6) g 27 #[v0, v1, v2, v3, v4, v5, v6, u7] := h5.set_ 6 v6
  have h7 : Blk ((((((((w.setCell ⟨g, 0, none⟩ v0).setCell ⟨g, 1, none⟩ v1).setCell ⟨g, 2, none⟩ v2).setCell ⟨g, 3, none⟩ v3).setCell ⟨g, 4, none⟩ v4).setCell ⟨g, 5, none⟩ v5).setCell ⟨g, 6, none⟩ v6).setCell ⟨g, 7, none⟩ v7) g 27 #[v0, v1, v2, v3, v4, v5, v6, v7] := h6.set_ 7 v7
  exact h7
theorem set8_other {w : World} {g k : Nat} {v0 v1 v2 v3 v4 v5 v6 v7 : Value} (hk : k ≠ g) : (set8 w g v0 v1 v2 v3 v4 v5 v6 v7).heap[k]? = w.heap[k]? := ((Below.heap_setCell _ ⟨g, 7, none⟩ _ k hk).trans ((Below.heap_setCell _ ⟨g, 6, none⟩ _ k hk).trans ((Below.heap_setCell _ ⟨g, 5, none⟩ _ k hk).trans ((Below.heap_setCell _ ⟨g, 4, none⟩ _ k hk).trans ((Below.heap_setCell _ ⟨g, 3, none⟩ _ k hk).trans ((Below.heap_setCell _ ⟨g, 2, none⟩ _ k hk).trans ((Below.heap_setCell _ ⟨g, 1, none⟩ _ k hk).trans (Below.heap_setCell _ ⟨g, 0, none⟩ _ k hk))))))))
theorem set8_below {B : Nat} {w0 w : World} {g : Nat} {v0 v1 v2 v3 v4 v5 v6 v7 : Value} (h : Below B w0 w) (hg : B ≤ g) : Below B w0 (set8 w g v0 v1 v2 v3 v4 v5 v6 v7) := (below_set (below_set (below_set (below_set (below_set (below_set (below_set (below_set h hg _) hg _) hg _) hg _) hg _) hg _) hg _) hg _)
/-- The end of a function that hands back a term. -/
theorem ret_term {fn : Func} {p : Tmp} (h : fn.results = #[.cell p 27]) {R : Ending → World → Prop} {a : Act} {w : World} {g : Nat} {v0 v1 v2 v3 v4 v5 v6 v7 : Value} (hp : a.tmps.getD p undef = .pointer (some ⟨g, 0, none⟩)) (hg : Blk w g 27 #[v0, v1, v2, v3, v4, v5, v6, v7]) (hd : a.defers = [])
    (hR : R (.returned (.agg #[v0, v1, v2, v3, v4, v5, v6, v7])) w) : bodyPost Try.prog fn R .ret a w :=
  bodyPost_ret (results_cell_row h _ _ g _ _ _ _ hp hg Try.underlying27 rfl (by kernel_rfl)) hd hR
/-- While the two rows of integers and atoms are made. -/
structure CpS (w : World) (bx : Array Value) (X : World) (vI vA : Value) (nI nA : Nat) (xI xA : List Value) : Prop where
  b : Blk X w.heap.size 27 bx
  o : Blk X (w.heap.size + 1) 27 #[.int .i64 0, .int .i64 0, .int .i64 0, .bool false, .slice none 0 0, .slice none 0 0, .slice none 0 0, .slice none 0 0]
  hb : Below w.heap.size w X
  hz : w.heap.size + 2 ≤ X.heap.size
  rI : X.ownsRow (w.heap.size + 2) 3 1 vI nI xI
  rA : X.ownsRow (w.heap.size + 2) 73 2 vA nA xA
  ne : ∀ g, vI.ownBlock = some g → vA.ownBlock ≠ some g
section
variable {w X Y : World} {bx : Array Value} {vI vA v' : Value} {nI nA n' : Nat} {xI xA x' : List Value}
theorem CpS.lit1 (h : CpS w bx X vI vA nI nA xI xA) : CpS w bx (X.alloc (.cells #[] 3)) (.slice (some ⟨X.heap.size, 0, none⟩) 0 0) vA 0 nA [] xA :=
  ⟨h.b.alloc _, h.o.alloc _, h.hb.alloc (by have := h.hz; omega) _, by have := h.hz; simp; omega, lit0X h.hz, World.ownsRow.alloc h.rA _, fun g hg e => by have := h.rA.lt g e; simp [Value.ownBlock] at hg; omega⟩
theorem CpS.lit2 (h : CpS w bx X vI vA nI nA xI xA) : CpS w bx (X.alloc (.cells #[] 73)) vI (.slice (some ⟨X.heap.size, 0, none⟩) 0 0) nI 0 xI [] :=
  ⟨h.b.alloc _, h.o.alloc _, h.hb.alloc (by have := h.hz; omega) _, by have := h.hz; simp; omega, World.ownsRow.alloc h.rI _, lit0X h.hz, fun g hg e => by have := h.rI.lt g hg; simp [Value.ownBlock] at e; omega⟩
theorem CpS.app1 (h : CpS w bx X vI vA nI nA xI xA) (r1 : Y.ownsRow (w.heap.size + 2) 3 1 v' n' x') (r2 : X.grownBy Y vI.ownBlock) (r3 : ∀ g, v'.ownBlock = some g → vI.ownBlock = some g ∨ X.heap.size ≤ g) : CpS w bx Y v' vA n' nA x' xA := by
  have hz := h.hz
  have hI : ∀ g, vI.ownBlock = some g → w.heap.size + 2 ≤ g := fun g e => (h.rI.lt g e).1
  refine ⟨(r2.block _ (by omega) (fun e => by have := hI _ e.symm; omega)).trans h.b, (r2.block _ (by omega) (fun e => by have := hI _ e.symm; omega)).trans h.o, h.hb.grown r2 (by omega) (fun k e => by have := hI k e; omega), by have := r2.size; omega, r1, row_keepX h.rA (fun g e => r2.block g (h.rA.lt g e).2 (fun e2 => h.ne g e2.symm e)), fun g e e2 => ?_⟩
  rcases r3 g e with e3 | e3
  · exact h.ne g e3 e2
  · have := h.rA.lt g e2; omega
theorem CpS.app2 (h : CpS w bx X vI vA nI nA xI xA) (r1 : Y.ownsRow (w.heap.size + 2) 73 2 v' n' x') (r2 : X.grownBy Y vA.ownBlock) (r3 : ∀ g, v'.ownBlock = some g → vA.ownBlock = some g ∨ X.heap.size ≤ g) : CpS w bx Y vI v' nI n' xI x' := by
  have hz := h.hz
  have hI : ∀ g, vA.ownBlock = some g → w.heap.size + 2 ≤ g := fun g e => (h.rA.lt g e).1
  refine ⟨(r2.block _ (by omega) (fun e => by have := hI _ e.symm; omega)).trans h.b, (r2.block _ (by omega) (fun e => by have := hI _ e.symm; omega)).trans h.o, h.hb.grown r2 (by omega) (fun k e => by have := hI k e; omega), by have := r2.size; omega, row_keepX h.rI (fun g e => r2.block g (h.rI.lt g e).2 (fun e2 => h.ne g e e2.symm)), r1, fun g e e2 => ?_⟩
  rcases r3 g e2 with e3 | e3
  · exact h.ne g e e3
  · have := h.rI.lt g e; omega
theorem CpS.set (h : CpS w bx X vI vA nI nA xI xA) {i : Nat} {u : Value} {bx' : Array Value} (hb : Blk (X.setCell ⟨w.heap.size, i, none⟩ u) w.heap.size 27 bx') : CpS w bx' (X.setCell ⟨w.heap.size, i, none⟩ u) vI vA nI nA xI xA := by
  have hz := h.hz
  have k : ∀ g, w.heap.size + 1 ≤ g → (X.setCell ⟨w.heap.size, i, none⟩ u).heap[g]? = X.heap[g]? := fun g hg => Below.heap_setCell _ _ _ _ (by dsimp only; omega)
  exact ⟨hb, (k _ (Nat.le_refl _)).trans h.o, below_set h.hb (Nat.le_refl _) _, by simpa using hz, row_keepX h.rI (fun g e => k g (by have := h.rI.lt g e; omega)), row_keepX h.rA (fun g e => k g (by have := h.rA.lt g e; omega)), h.ne⟩
end
theorem IAt.low2 {w : World} {S : Nat → Prop} {ts : List Int} {A : Option Addr} {c : Nat} (h : IAt w S ts A c) : IAt w (fun b => b < w.heap.size) ts A c := h.keep (fun _ _ hl => ⟨rfl, hl⟩)
theorem AtAt.low2 {w : World} {S : Nat → Prop} {ts : List (Bool × Int)} {A : Option Addr} {c : Nat} (h : AtAt w S ts A c) : AtAt w (fun b => b < w.heap.size) ts A c := h.keep (fun _ _ hl => ⟨rfl, hl⟩)
theorem below_hop2 {B : Nat} {W w w' : World} (h : Below w.heap.size w w') (b : Below B W w) (hB : B ≤ w.heap.size) : Below B W w' := b.trans (h.mono hB)
/-- An element of the functions' row, out of its parts. -/
theorem pf_mk {fh : List (Int × List Int)} {fb : List Te} {i : Nat} (hi : i < fb.length) (hi2 : i < fh.length) (hw : (Lit.int .i64 fh[i].1).wf = true) {wr : World} :
    ∀ (w3 : World) (o : Obj) (P : Option Addr) (pc : Nat) (v0 v1 v2 v3 v4 v5 v6 v7 : Value) {w2 : World}, IAt w3 (fun q => wr.heap.size ≤ q ∧ q < w3.heap.size) fh[i].2 P pc → TAt w3 (fun b => w2.heap.size ≤ b) fb[i] (.agg #[v0, v1, v2, v3, v4, v5, v6, v7]) → Below wr.heap.size wr w2 → Below w2.heap.size w2 w3 →
      PF fh fb (w3.alloc o) (fun b => wr.heap.size ≤ b ∧ b < (w3.alloc o).heap.size) i [.int .i64 fh[i].1, .slice P fh[i].2.length pc, v0, v1, v2, v3, v4, v5, v6, v7] := by
  intro w3 o P pc v0 v1 v2 v3 v4 v5 v6 v7 w2 h1 h2 h3 h4
  have hs : (w3.alloc o).heap.size = w3.heap.size + 1 := by simp
  refine ⟨fh[i], fb[i], P, pc, v0, v1, v2, v3, v4, v5, v6, v7, List.getElem?_eq_getElem hi2, List.getElem?_eq_getElem hi, rfl, h1.keep (fun q hq hl => ⟨Below.heap_alloc _ _ _ hl, hq.1, by omega⟩), hw, h2.keep (fun q hq hl => ⟨Below.heap_alloc _ _ _ hl, by have := h3.size; omega, by omega⟩)⟩
theorem pt_mk {us : List Te} {j : Nat} (hj : j < us.length) {w1 w3 : World} {v0 v1 v2 v3 v4 v5 v6 v7 : Value} (h : TAt w3 (fun b => w1.heap.size ≤ b) us[j] (.agg #[v0, v1, v2, v3, v4, v5, v6, v7])) (o : Obj) :
    PT us (w3.alloc o) (fun b => w1.heap.size ≤ b ∧ b < (w3.alloc o).heap.size) j [v0, v1, v2, v3, v4, v5, v6, v7] := by
  have hs : (w3.alloc o).heap.size = w3.heap.size + 1 := by simp
  exact ⟨us[j], List.getElem?_eq_getElem hj, h.keep (fun q hq hl => ⟨Below.heap_alloc _ _ _ hl, by omega, by omega⟩)⟩
/-- What Copy tells. -/
def CopyT (t : Te) (w : World) (e : Ending) (w' : World) : Prop := (∃ v, e = .returned v ∧ TAt w' (fun b => w.heap.size ≤ b) t v) ∧ Below w.heap.size w w'
set_option maxHeartbeats 8000000 in
set_option maxRecDepth 100000 in
theorem copyt_node (k x m : Int) (b : Bool) (T A F U : Option Addr) (tc ac fc uc : Nat) (ts : List Int) (ats : List (Bool × Int)) (fh : List (Int × List Int)) (fb us : List Te) (w : World) (S : Nat → Prop) (hI : IAt w S ts T tc) (hA : AtAt w S ats A ac) (hts : ts.length ≤ 900000) (hal : ats.length ≤ 900000) (hul : us.length ≤ 900000) (hfl : fb.length ≤ 900000) (hps : ∀ h ∈ fh, h.2.length ≤ 900000) (hfe : fh.length = fb.length) (hfr : FRow w S fh fb F 0) (hrow : TRow w S us U 0) (hwf : Wf3 k x m)
    (ih : ∀ t, t ∈ fb ∨ t ∈ us → ∀ (v : Value) (S : Nat → Prop) (w : World), TAt w S t v → Calls Try.prog 10 #[v] w (CopyT t w)) :
    Calls Try.prog 10 #[.agg #[.int .i64 k, .int .i64 x, .int .i64 m, .bool b, .slice T ts.length tc, .slice A ats.length ac, .slice F fb.length fc, .slice U us.length uc]] w (CopyT (.mk k x m b ts ats fh fb us) w) := by
  have H := hid (And.intro hI (And.intro hA (And.intro hfr (And.intro hrow (And.intro hwf (And.intro ih hps))))))
  clear hI hA hfr hrow hwf ih hps
  go_enter Try.func10, Try.ntmps10
  go_wp2
  have BX := hid ((Blk.new w 27 #[.int .i64 k, .int .i64 x, .int .i64 m, .bool b, .slice T ts.length tc, .slice A ats.length ac, .slice F fb.length fc, .slice U us.length uc]).alloc (.cells #[.int .i64 0, .int .i64 0, .int .i64 0, .bool false, .slice none 0 0, .slice none 0 0, .slice none 0 0, .slice none 0 0] 27))
  have BO := hid (Blk.new' (w := w.alloc (.cells #[.int .i64 k, .int .i64 x, .int .i64 m, .bool b, .slice T ts.length tc, .slice A ats.length ac, .slice F fb.length fc, .slice U us.length uc] 27)) (g := w.heap.size + 1) (by simp) 27 #[.int .i64 0, .int .i64 0, .int .i64 0, .bool false, .slice none 0 0, .slice none 0 0, .slice none 0 0, .slice none 0 0])
  have HB := hid (al2 w (.cells #[.int .i64 k, .int .i64 x, .int .i64 m, .bool b, .slice T ts.length tc, .slice A ats.length ac, .slice F fb.length fc, .slice U us.length uc] 27) (.cells #[.int .i64 0, .int .i64 0, .int .i64 0, .bool false, .slice none 0 0, .slice none 0 0, .slice none 0 0, .slice none 0 0] 27))
  have HZ := hid (show ((w.alloc (.cells #[.int .i64 k, .int .i64 x, .int .i64 m, .bool b, .slice T ts.length tc, .slice A ats.length ac, .slice F fb.length fc, .slice U us.length uc] 27)).alloc (.cells #[.int .i64 0, .int .i64 0, .int .i64 0, .bool false, .slice none 0 0, .slice none 0 0, .slice none 0 0, .slice none 0 0] 27)).heap.size = w.heap.size + 2 by simp)
  generalize (w.alloc (.cells #[.int .i64 k, .int .i64 x, .int .i64 m, .bool b, .slice T ts.length tc, .slice A ats.length ac, .slice F fb.length fc, .slice U us.length uc] 27)).alloc (.cells #[.int .i64 0, .int .i64 0, .int .i64 0, .bool false, .slice none 0 0, .slice none 0 0, .slice none 0 0, .slice none 0 0] 27) = X0 at BX BO HB HZ ⊢
  go_cut [] (fun wx => ∃ (A1 : Option Addr) (c1 : Nat) (A2 : Option Addr) (c2 : Nat), Hid (Blk wx w.heap.size 27 #[.int .i64 k, .int .i64 x, .int .i64 m, .bool b, .slice A1 ts.length c1, .slice A2 ats.length c2, .slice F fb.length fc, .slice U us.length uc]) ∧ Hid (Blk wx (w.heap.size + 1) 27 #[.int .i64 0, .int .i64 0, .int .i64 0, .bool false, .slice none 0 0, .slice none 0 0, .slice none 0 0, .slice none 0 0]) ∧ Hid (Below w.heap.size w wx) ∧ Hid (IAt wx (fun b => w.heap.size + 2 ≤ b) ts A1 c1) ∧ Hid (AtAt wx (fun b => w.heap.size + 2 ≤ b) ats A2 c2) ∧ Hid (w.heap.size + 2 ≤ wx.heap.size))
  case first =>
    have HS := hid (show X0.drew.cell? ⟨w.heap.size, 4, none⟩ = some (.slice T ts.length tc) ∧ X0.drew.cell? ⟨w.heap.size, 5, none⟩ = some (.slice A ats.length ac) from ⟨BX.out.cell 4, BX.out.cell 5⟩)
    refine wp_region_T (n := 9) (S := fun w' => w'.cell? ⟨w.heap.size, 4, none⟩ = some (.slice T ts.length tc) ∧ w'.cell? ⟨w.heap.size, 5, none⟩ = some (.slice A ats.length ac)) (by kernel_rfl) ?_
    refine wpAnyT_takeW (i := 1) (v := .pointer (some ⟨w.heap.size, 4, none⟩)) rfl (by decide) (by kernel_rfl) (fun _ _ _ h => h) (.inl ⟨by simp [Region.wanted], fun w7 _ => ?_⟩) (fun _ => HS.out) ?_
    · go_simp
    refine wpAnyT_takeW (i := 5) (v := .pointer (some ⟨w.heap.size, 5, none⟩)) rfl (by decide) (by kernel_rfl) (fun _ _ _ h => h) (.inl ⟨by simp [Region.wanted], fun w7 _ => ?_⟩) (fun _ => HS.out) ?_
    · go_simp
    refine wpAnyT_takeP (i := 2) (v := .slice T ts.length tc) [3, 9] rfl (by decide) (by kernel_rfl) (fun _ _ _ h => h) (.inl ⟨by simp [Region.wanted], fun w7 hS7 => ?_⟩) HS.out ?_
    · (obtain ⟨s0, s1⟩ := hS7; go_simp)
    refine wpAnyT_takeP (i := 6) (v := .slice A ats.length ac) [7, 9] rfl (by decide) (by kernel_rfl) (fun _ _ _ h => h) (.inl ⟨by simp [Region.wanted], fun w7 hS7 => ?_⟩) HS.out ?_
    · (obtain ⟨s0, s1⟩ := hS7; go_simp)
    have HNI := hid (show T = none → ts.length = 0 ∧ tc = 0 from fun e => by obtain ⟨h1, h2⟩ := H.out.1.1.2.2.1 e; exact ⟨by rw [h1]; rfl, h2⟩)
    have HNA := hid (show A = none → ats.length = 0 ∧ ac = 0 from fun e => by obtain ⟨h1, h2⟩ := H.out.2.1.1.2.2.1 e; exact ⟨by rw [h1]; rfl, h2⟩)
    have HC : Hid (CpS w #[.int .i64 k, .int .i64 x, .int .i64 m, .bool b, .slice T ts.length tc, .slice A ats.length ac, .slice F fb.length fc, .slice U us.length uc] X0.drew (.slice none 0 0) (.slice none 0 0) 0 0 [] []) := hid ⟨BX.out.drew, BO.out.drew, HB.out.drew, by have := HZ.out; simp; omega, World.ownsRow_nil _ _ _ _, World.ownsRow_nil _ _ _ _, fun g e => by simp [Value.ownBlock] at e⟩
    clear HS
    generalize X0.drew = Y0 at HC ⊢
    refine wpAnyT_ready (rs := [0, 4]) (by kernel_rfl) (by simp) ?_
    refine AllT.cons rfl (fun K' hK => ?_) (AllT.cons rfl (fun K' hK => ?_) AllT.nil)
    · skip
      go_simp
      have HC9 := hid HC.out.lit1
      generalize World.alloc Y0 (.cells #[] 3) = Y1 at HC9 ⊢
      clear HC
      have HC := HC9
      clear HC9
      refine hK.out _ _ (fun _ => ⟨HC.out.b.cell 4, HC.out.b.cell 5⟩) ?_
      clear hK
      refine wpAnyT_ready (rs := [3, 4]) (by kernel_rfl) (by simp) ?_
      refine AllT.cons rfl (fun K' hK => ?_) (AllT.cons rfl (fun K' hK => ?_) AllT.nil)
      · skip
        refine step_appX Try.underlying22 info_int rfl (by omega) (by omega) (by rfl) _ _ (by rfl) (w.heap.size + 2) (v := .slice (some ⟨Y0.heap.size, 0, none⟩) 0 0) (n := 0) (xs := []) (by rfl) HC.out.rI (A := T) (c := tc) (m := ts.length) (news := ts.map (.int .i64)) (by rfl) (by simp) HNI.out (iat_cell ((H.out.1.low2).keep (w' := Y1) (T := fun _ => True) (fun q hq hl => ⟨HC.out.hb.block q hq, trivial⟩))) one_int (by omega) HC.out.hz ?_
        intro v1 Y2 r1 r2 r3
        rw [Nat.zero_add] at r1
        have HC9 := hid (HC.out.app1 r1 r2 r3)
        obtain ⟨A1, c1, rfl, _⟩ := rowX r1
        clear HC r1 r2 r3
        have HC := HC9
        clear HC9
        refine hK.out _ _ (fun _ => ⟨HC.out.b.cell 4, HC.out.b.cell 5⟩) ?_
        clear hK
        refine wpAnyT_takeW (i := 8) (v := .pointer (some ⟨w.heap.size, 4, none⟩)) rfl (by decide) (by kernel_rfl) (fun _ _ _ h => h) (.inl ⟨by simp [Region.wanted], fun w7 _ => ?_⟩) (fun _ => ⟨HC.out.b.cell 4, HC.out.b.cell 5⟩) ?_
        · go_simp
        refine wpAnyT_ready (rs := [4]) (by kernel_rfl) (by simp) ?_
        refine AllT.cons rfl (fun K' hK => ?_) AllT.nil
        go_simp
        have HC9 := hid HC.out.lit2
        generalize World.alloc Y2 (.cells #[] 73) = Y3 at HC9 ⊢
        clear HC
        have HC := HC9
        clear HC9
        refine hK.out _ _ (fun _ => ⟨HC.out.b.cell 4, HC.out.b.cell 5⟩) ?_
        clear hK
        refine wpAnyT_ready (rs := [7]) (by kernel_rfl) (by simp) ?_
        refine AllT.cons rfl (fun K' hK => ?_) AllT.nil
        refine step_appX Try.underlying23 info_atom rfl (by omega) (by omega) (by rfl) _ _ (by rfl) (w.heap.size + 2) (v := .slice (some ⟨Y2.heap.size, 0, none⟩) 0 0) (n := 0) (xs := []) (by rfl) HC.out.rA (A := A) (c := ac) (m := ats.length) (news := flatA ats) (by rfl) (flatA_length ats) HNA.out (atAt_cell ((H.out.2.1.low2).keep (w' := Y3) (T := fun _ => True) (fun q hq hl => ⟨HC.out.hb.block q hq, trivial⟩))) flatA_mem (by omega) HC.out.hz ?_
        intro v2 Y4 r1 r2 r3
        rw [Nat.zero_add] at r1
        have HC9 := hid (HC.out.app2 r1 r2 r3)
        obtain ⟨A2, c2, rfl, _⟩ := rowX r1
        clear HC r1 r2 r3
        have HC := HC9
        clear HC9
        refine hK.out _ _ (fun _ => ⟨HC.out.b.cell 4, HC.out.b.cell 5⟩) ?_
        clear hK
        refine wpAnyT_ready (rs := [9]) (by kernel_rfl) (by simp) ?_
        refine AllT.cons rfl (fun K' hK => ?_) AllT.nil
        have k3 := HC.out.b.frozen 4
        have kc := HC.out.b.cell 4
        go_simp
        have HC9 := hid (HC.out.set (show Blk (World.setCell Y4 ⟨w.heap.size, 4, none⟩ (.slice A1 ts.length c1)) w.heap.size 27 #[.int .i64 k, .int .i64 x, .int .i64 m, .bool b, .slice A1 ts.length c1, .slice A ats.length ac, .slice F fb.length fc, .slice U us.length uc] from HC.out.b.set_ 4 _))
        clear k3 kc HC
        have HC := HC9
        clear HC9
        generalize World.setCell Y4 ⟨w.heap.size, 4, none⟩ (.slice A1 ts.length c1) = Z1 at HC ⊢
        refine hK.out _ _ (fun h => absurd h (by decide)) ?_
        clear hK
        refine wpAnyT_takeW (i := 10) (v := .pointer (some ⟨w.heap.size, 5, none⟩)) rfl (by decide) (by kernel_rfl) (fun _ _ _ h => h) (.inl ⟨by simp [Region.wanted], fun w7 _ => ?_⟩) (fun h => absurd h (by decide)) ?_
        · go_simp
        refine wpAnyT_ready (rs := [11]) (by kernel_rfl) (by simp) ?_
        refine AllT.cons rfl (fun K' hK => ?_) AllT.nil
        have k3 := HC.out.b.frozen 5
        have kc := HC.out.b.cell 5
        go_simp
        have HC9 := hid (HC.out.set (show Blk (World.setCell Z1 ⟨w.heap.size, 5, none⟩ (.slice A2 ats.length c2)) w.heap.size 27 #[.int .i64 k, .int .i64 x, .int .i64 m, .bool b, .slice A1 ts.length c1, .slice A2 ats.length c2, .slice F fb.length fc, .slice U us.length uc] from HC.out.b.set_ 5 _))
        clear k3 kc HC
        have HC := HC9
        clear HC9
        generalize World.setCell Z1 ⟨w.heap.size, 5, none⟩ (.slice A2 ats.length c2) = Z2 at HC ⊢
        refine hK.out _ _ (fun h => absurd h (by decide)) ?_
        clear hK
        refine wpAnyT_done (by kernel_rfl) ?_ _
        go_wp2
        go_meet
        have hI := own_iatX (ts := ts) (by have := HC.out.rI; simpa using this) (iat_wf H.out.1) (by omega)
        have hA := own_atat (ats := ats) (by have := HC.out.rA; simpa using this) (atAt_wf H.out.2.1) (by omega)
        exact ⟨A1, c1, A2, c2, hid HC.out.b, hid HC.out.o, hid HC.out.hb, hid hI.2, hid hA.2, hid HC.out.hz⟩
      · skip
        go_simp
        have HC9 := hid HC.out.lit2
        generalize World.alloc Y1 (.cells #[] 73) = Y2 at HC9 ⊢
        clear HC
        have HC := HC9
        clear HC9
        refine hK.out _ _ (fun _ => ⟨HC.out.b.cell 4, HC.out.b.cell 5⟩) ?_
        clear hK
        refine wpAnyT_ready (rs := [3]) (by kernel_rfl) (by simp) ?_
        refine AllT.cons rfl (fun K' hK => ?_) AllT.nil
        refine step_appX Try.underlying22 info_int rfl (by omega) (by omega) (by rfl) _ _ (by rfl) (w.heap.size + 2) (v := .slice (some ⟨Y0.heap.size, 0, none⟩) 0 0) (n := 0) (xs := []) (by rfl) HC.out.rI (A := T) (c := tc) (m := ts.length) (news := ts.map (.int .i64)) (by rfl) (by simp) HNI.out (iat_cell ((H.out.1.low2).keep (w' := Y2) (T := fun _ => True) (fun q hq hl => ⟨HC.out.hb.block q hq, trivial⟩))) one_int (by omega) HC.out.hz ?_
        intro v1 Y3 r1 r2 r3
        rw [Nat.zero_add] at r1
        have HC9 := hid (HC.out.app1 r1 r2 r3)
        obtain ⟨A1, c1, rfl, _⟩ := rowX r1
        clear HC r1 r2 r3
        have HC := HC9
        clear HC9
        refine hK.out _ _ (fun _ => ⟨HC.out.b.cell 4, HC.out.b.cell 5⟩) ?_
        clear hK
        refine wpAnyT_takeW (i := 8) (v := .pointer (some ⟨w.heap.size, 4, none⟩)) rfl (by decide) (by kernel_rfl) (fun _ _ _ h => h) (.inl ⟨by simp [Region.wanted], fun w7 _ => ?_⟩) (fun _ => ⟨HC.out.b.cell 4, HC.out.b.cell 5⟩) ?_
        · go_simp
        refine wpAnyT_ready (rs := [7]) (by kernel_rfl) (by simp) ?_
        refine AllT.cons rfl (fun K' hK => ?_) AllT.nil
        refine step_appX Try.underlying23 info_atom rfl (by omega) (by omega) (by rfl) _ _ (by rfl) (w.heap.size + 2) (v := .slice (some ⟨Y1.heap.size, 0, none⟩) 0 0) (n := 0) (xs := []) (by rfl) HC.out.rA (A := A) (c := ac) (m := ats.length) (news := flatA ats) (by rfl) (flatA_length ats) HNA.out (atAt_cell ((H.out.2.1.low2).keep (w' := Y3) (T := fun _ => True) (fun q hq hl => ⟨HC.out.hb.block q hq, trivial⟩))) flatA_mem (by omega) HC.out.hz ?_
        intro v2 Y4 r1 r2 r3
        rw [Nat.zero_add] at r1
        have HC9 := hid (HC.out.app2 r1 r2 r3)
        obtain ⟨A2, c2, rfl, _⟩ := rowX r1
        clear HC r1 r2 r3
        have HC := HC9
        clear HC9
        refine hK.out _ _ (fun _ => ⟨HC.out.b.cell 4, HC.out.b.cell 5⟩) ?_
        clear hK
        refine wpAnyT_ready (rs := [9]) (by kernel_rfl) (by simp) ?_
        refine AllT.cons rfl (fun K' hK => ?_) AllT.nil
        have k3 := HC.out.b.frozen 4
        have kc := HC.out.b.cell 4
        go_simp
        have HC9 := hid (HC.out.set (show Blk (World.setCell Y4 ⟨w.heap.size, 4, none⟩ (.slice A1 ts.length c1)) w.heap.size 27 #[.int .i64 k, .int .i64 x, .int .i64 m, .bool b, .slice A1 ts.length c1, .slice A ats.length ac, .slice F fb.length fc, .slice U us.length uc] from HC.out.b.set_ 4 _))
        clear k3 kc HC
        have HC := HC9
        clear HC9
        generalize World.setCell Y4 ⟨w.heap.size, 4, none⟩ (.slice A1 ts.length c1) = Z1 at HC ⊢
        refine hK.out _ _ (fun h => absurd h (by decide)) ?_
        clear hK
        refine wpAnyT_takeW (i := 10) (v := .pointer (some ⟨w.heap.size, 5, none⟩)) rfl (by decide) (by kernel_rfl) (fun _ _ _ h => h) (.inl ⟨by simp [Region.wanted], fun w7 _ => ?_⟩) (fun h => absurd h (by decide)) ?_
        · go_simp
        refine wpAnyT_ready (rs := [11]) (by kernel_rfl) (by simp) ?_
        refine AllT.cons rfl (fun K' hK => ?_) AllT.nil
        have k3 := HC.out.b.frozen 5
        have kc := HC.out.b.cell 5
        go_simp
        have HC9 := hid (HC.out.set (show Blk (World.setCell Z1 ⟨w.heap.size, 5, none⟩ (.slice A2 ats.length c2)) w.heap.size 27 #[.int .i64 k, .int .i64 x, .int .i64 m, .bool b, .slice A1 ts.length c1, .slice A2 ats.length c2, .slice F fb.length fc, .slice U us.length uc] from HC.out.b.set_ 5 _))
        clear k3 kc HC
        have HC := HC9
        clear HC9
        generalize World.setCell Z1 ⟨w.heap.size, 5, none⟩ (.slice A2 ats.length c2) = Z2 at HC ⊢
        refine hK.out _ _ (fun h => absurd h (by decide)) ?_
        clear hK
        refine wpAnyT_done (by kernel_rfl) ?_ _
        go_wp2
        go_meet
        have hI := own_iatX (ts := ts) (by have := HC.out.rI; simpa using this) (iat_wf H.out.1) (by omega)
        have hA := own_atat (ats := ats) (by have := HC.out.rA; simpa using this) (atAt_wf H.out.2.1) (by omega)
        exact ⟨A1, c1, A2, c2, hid HC.out.b, hid HC.out.o, hid HC.out.hb, hid hI.2, hid hA.2, hid HC.out.hz⟩
    · skip
      go_simp
      have HC9 := hid HC.out.lit2
      generalize World.alloc Y0 (.cells #[] 73) = Y1 at HC9 ⊢
      clear HC
      have HC := HC9
      clear HC9
      refine hK.out _ _ (fun _ => ⟨HC.out.b.cell 4, HC.out.b.cell 5⟩) ?_
      clear hK
      refine wpAnyT_ready (rs := [0]) (by kernel_rfl) (by simp) ?_
      refine AllT.cons rfl (fun K' hK => ?_) AllT.nil
      go_simp
      have HC9 := hid HC.out.lit1
      generalize World.alloc Y1 (.cells #[] 3) = Y2 at HC9 ⊢
      clear HC
      have HC := HC9
      clear HC9
      refine hK.out _ _ (fun _ => ⟨HC.out.b.cell 4, HC.out.b.cell 5⟩) ?_
      clear hK
      refine wpAnyT_ready (rs := [3]) (by kernel_rfl) (by simp) ?_
      refine AllT.cons rfl (fun K' hK => ?_) AllT.nil
      refine step_appX Try.underlying22 info_int rfl (by omega) (by omega) (by rfl) _ _ (by rfl) (w.heap.size + 2) (v := .slice (some ⟨Y1.heap.size, 0, none⟩) 0 0) (n := 0) (xs := []) (by rfl) HC.out.rI (A := T) (c := tc) (m := ts.length) (news := ts.map (.int .i64)) (by rfl) (by simp) HNI.out (iat_cell ((H.out.1.low2).keep (w' := Y2) (T := fun _ => True) (fun q hq hl => ⟨HC.out.hb.block q hq, trivial⟩))) one_int (by omega) HC.out.hz ?_
      intro v1 Y3 r1 r2 r3
      rw [Nat.zero_add] at r1
      have HC9 := hid (HC.out.app1 r1 r2 r3)
      obtain ⟨A1, c1, rfl, _⟩ := rowX r1
      clear HC r1 r2 r3
      have HC := HC9
      clear HC9
      refine hK.out _ _ (fun _ => ⟨HC.out.b.cell 4, HC.out.b.cell 5⟩) ?_
      clear hK
      refine wpAnyT_takeW (i := 8) (v := .pointer (some ⟨w.heap.size, 4, none⟩)) rfl (by decide) (by kernel_rfl) (fun _ _ _ h => h) (.inl ⟨by simp [Region.wanted], fun w7 _ => ?_⟩) (fun _ => ⟨HC.out.b.cell 4, HC.out.b.cell 5⟩) ?_
      · go_simp
      refine wpAnyT_ready (rs := [7]) (by kernel_rfl) (by simp) ?_
      refine AllT.cons rfl (fun K' hK => ?_) AllT.nil
      refine step_appX Try.underlying23 info_atom rfl (by omega) (by omega) (by rfl) _ _ (by rfl) (w.heap.size + 2) (v := .slice (some ⟨Y0.heap.size, 0, none⟩) 0 0) (n := 0) (xs := []) (by rfl) HC.out.rA (A := A) (c := ac) (m := ats.length) (news := flatA ats) (by rfl) (flatA_length ats) HNA.out (atAt_cell ((H.out.2.1.low2).keep (w' := Y3) (T := fun _ => True) (fun q hq hl => ⟨HC.out.hb.block q hq, trivial⟩))) flatA_mem (by omega) HC.out.hz ?_
      intro v2 Y4 r1 r2 r3
      rw [Nat.zero_add] at r1
      have HC9 := hid (HC.out.app2 r1 r2 r3)
      obtain ⟨A2, c2, rfl, _⟩ := rowX r1
      clear HC r1 r2 r3
      have HC := HC9
      clear HC9
      refine hK.out _ _ (fun _ => ⟨HC.out.b.cell 4, HC.out.b.cell 5⟩) ?_
      clear hK
      refine wpAnyT_ready (rs := [9]) (by kernel_rfl) (by simp) ?_
      refine AllT.cons rfl (fun K' hK => ?_) AllT.nil
      have k3 := HC.out.b.frozen 4
      have kc := HC.out.b.cell 4
      go_simp
      have HC9 := hid (HC.out.set (show Blk (World.setCell Y4 ⟨w.heap.size, 4, none⟩ (.slice A1 ts.length c1)) w.heap.size 27 #[.int .i64 k, .int .i64 x, .int .i64 m, .bool b, .slice A1 ts.length c1, .slice A ats.length ac, .slice F fb.length fc, .slice U us.length uc] from HC.out.b.set_ 4 _))
      clear k3 kc HC
      have HC := HC9
      clear HC9
      generalize World.setCell Y4 ⟨w.heap.size, 4, none⟩ (.slice A1 ts.length c1) = Z1 at HC ⊢
      refine hK.out _ _ (fun h => absurd h (by decide)) ?_
      clear hK
      refine wpAnyT_takeW (i := 10) (v := .pointer (some ⟨w.heap.size, 5, none⟩)) rfl (by decide) (by kernel_rfl) (fun _ _ _ h => h) (.inl ⟨by simp [Region.wanted], fun w7 _ => ?_⟩) (fun h => absurd h (by decide)) ?_
      · go_simp
      refine wpAnyT_ready (rs := [11]) (by kernel_rfl) (by simp) ?_
      refine AllT.cons rfl (fun K' hK => ?_) AllT.nil
      have k3 := HC.out.b.frozen 5
      have kc := HC.out.b.cell 5
      go_simp
      have HC9 := hid (HC.out.set (show Blk (World.setCell Z1 ⟨w.heap.size, 5, none⟩ (.slice A2 ats.length c2)) w.heap.size 27 #[.int .i64 k, .int .i64 x, .int .i64 m, .bool b, .slice A1 ts.length c1, .slice A2 ats.length c2, .slice F fb.length fc, .slice U us.length uc] from HC.out.b.set_ 5 _))
      clear k3 kc HC
      have HC := HC9
      clear HC9
      generalize World.setCell Z1 ⟨w.heap.size, 5, none⟩ (.slice A2 ats.length c2) = Z2 at HC ⊢
      refine hK.out _ _ (fun h => absurd h (by decide)) ?_
      clear hK
      refine wpAnyT_done (by kernel_rfl) ?_ _
      go_wp2
      go_meet
      have hI := own_iatX (ts := ts) (by have := HC.out.rI; simpa using this) (iat_wf H.out.1) (by omega)
      have hA := own_atat (ats := ats) (by have := HC.out.rA; simpa using this) (atAt_wf H.out.2.1) (by omega)
      exact ⟨A1, c1, A2, c2, hid HC.out.b, hid HC.out.o, hid HC.out.hb, hid hI.2, hid hA.2, hid HC.out.hz⟩
  case rest =>
  clear BX BO HB HZ
  obtain ⟨A1, c1, A2, c2, BX, BO, HB, IT, AT, HZ⟩ := hcut
  go_wp2
  go_loopg [3, 4] fb.length (fun g lv z wr => ∃ (i : Nat) (A3 : Option Addr) (c3 : Nat) (xs : List Value), i + g = fb.length ∧ z = .int .i64 i ∧ lv = .slice A3 i c3 ∧ Hid (GBld 59 10 wc.heap.size (PF fh fb) i (.slice A3 i c3) xs wr) ∧ Hid (Below wc.heap.size wc wr))
  case atStart => exact ⟨0, none, 0, [], by omega, rfl, rfl, hid (GBld.start _ _ _ _ _), hid (Below.refl _ _)⟩
  case round =>
    obtain ⟨i, A3, c3, xs, hi, rfl, rfl, hG, hL⟩ := hrel
    have Hi := hid hi
    have BXr := hid (BX.out.below hL.out BX.out.lt)
    obtain ⟨x0, x1, x2, x3, x4, x5, x6, x7⟩ := BXr.out.eight
    by_cases hlt : i < fb.length
    · have hlt' : (i : Int) < fb.length := by omega
      have hlt2 : i < fh.length := by omega
      have HBr := hid (below_hop2 hL.out HB.out (by have := HZ.out; omega))
      obtain ⟨ad, P, pc, k2, x2', n2, i2, T2, tl2, tc2, A4, al2, ac2, F2, fl2, fc2, U2, ul2, uc2, rfl, hSb, hab, ⟨y0, y1, y2, y3, y4, y5, y6, y7, y8, y9⟩, hIp, hwp, hel⟩ := (FRow.keep (w' := wr) (T := fun b => b < w.heap.size) (fun q hq hl => ⟨HBr.out.block q hl, hl⟩) fb fh F 0 H.out.2.2.1).elem hlt hlt2
      have hpl := H.out.2.2.2.2.2.2 _ (List.getElem_mem hlt2)
      have hmem := List.getElem_mem hlt
      have hmk := pf_mk (fh := fh) (fb := fb) (i := i) hlt hlt2 hwp (wr := wr)
      obtain ⟨ps, hps⟩ : ∃ ps : List Int, ps = fh[i].2 := ⟨_, rfl⟩
      obtain ⟨hv, hhv⟩ : ∃ hv : Int, hv = fh[i].1 := ⟨_, rfl⟩
      obtain ⟨t, htt⟩ : ∃ t : Te, t = fb[i] := ⟨_, rfl⟩
      rw [← hps] at y1 hpl hIp hmk
      rw [← hhv] at y0 hmk
      rw [← htt] at hel hmem hmk
      have HNP := hid (show P = none → ps.length = 0 ∧ pc = 0 from fun e => by obtain ⟨h1, h2⟩ := hIp.1.2.2.1 e; exact ⟨by rw [h1]; rfl, h2⟩)
      have Q := hid (And.intro hel (And.intro hmem (And.intro hIp (And.intro hpl hmk))))
      have hab9 := hid hab
      have YY := hid (And.intro (show ad.block < wc.heap.size by have := HZ.out; omega) (And.intro y0 (And.intro y1 (And.intro y2 (And.intro y3 (And.intro y4 (And.intro y5 (And.intro y6 (And.intro y7 (And.intro y8 y9))))))))))
      clear hi hel hSb hab hIp hwp hmem hmk hps hhv htt hlt
      go_wp2
      go_region_held3 (fun w' => w'.cell? (ad.add (i * 10)) = some (.int .i64 hv) ∧ w'.cell? ⟨(ad.add (i * 10)).block, (ad.add (i * 10)).off + 1, none⟩ = some (.slice P ps.length pc) ∧ w'.cell? ⟨(ad.add (i * 10)).block, (ad.add (i * 10)).off + 2, none⟩ = some (.int .i64 k2) ∧ w'.cell? ⟨(ad.add (i * 10)).block, (ad.add (i * 10)).off + 3, none⟩ = some (.int .i64 x2') ∧ w'.cell? ⟨(ad.add (i * 10)).block, (ad.add (i * 10)).off + 4, none⟩ = some (.int .i64 n2) ∧ w'.cell? ⟨(ad.add (i * 10)).block, (ad.add (i * 10)).off + 5, none⟩ = some (.bool i2) ∧ w'.cell? ⟨(ad.add (i * 10)).block, (ad.add (i * 10)).off + 6, none⟩ = some (.slice T2 tl2 tc2) ∧ w'.cell? ⟨(ad.add (i * 10)).block, (ad.add (i * 10)).off + 7, none⟩ = some (.slice A4 al2 ac2) ∧ w'.cell? ⟨(ad.add (i * 10)).block, (ad.add (i * 10)).off + 8, none⟩ = some (.slice F2 fl2 fc2) ∧ w'.cell? ⟨(ad.add (i * 10)).block, (ad.add (i * 10)).off + 9, none⟩ = some (.slice U2 ul2 uc2) ∧ (w').cell? ⟨w.heap.size, 0, none⟩ = some (.int .i64 k) ∧ (w').cell? ⟨w.heap.size, 1, none⟩ = some (.int .i64 x) ∧ (w').cell? ⟨w.heap.size, 2, none⟩ = some (.int .i64 m) ∧ (w').cell? ⟨w.heap.size, 3, none⟩ = some (.bool b) ∧ (w').cell? ⟨w.heap.size, 4, none⟩ = some (.slice A1 ts.length c1) ∧ (w').cell? ⟨w.heap.size, 5, none⟩ = some (.slice A2 ats.length c2) ∧ (w').cell? ⟨w.heap.size, 6, none⟩ = some (.slice (some ad) fb.length fc) ∧ (w').cell? ⟨w.heap.size, 7, none⟩ = some (.slice U us.length uc)) (first | with_reducible exact ⟨y0, y1, y2, y3, y4, y5, y6, y7, y8, y9, x0, x1, x2, x3, x4, x5, x6, x7⟩ | go_keep) (first | (refine step_appX Try.underlying22 info_int rfl (by omega) (by omega) (by rfl) _ _ (by rfl) wr.heap.size (v := .slice (some ⟨wr.heap.size, 0, none⟩) 0 0) (n := 0) (xs := []) (by rfl) (lit0X (Nat.le_refl _)) (A := P) (c := pc) (m := ps.length) (news := ps.map (.int .i64)) (by rfl) (by simp) HNP.out (iat_cell (Q.out.2.2.1.up (w' := (wr.alloc (.cells #[] 3)).drew) (al1 wr _).drew)) one_int (by omega) (by simp) ?_; intro v1 w2 r1 r2 r3; rw [Nat.zero_add] at r1; obtain ⟨A5, c5, rfl, _⟩ := rowX r1; have BL2 := hid (((al1 wr (.cells #[] 3)).drew.grown r2 (by simp) (fun q hq => by simp [Value.ownBlock] at hq; omega)) : Below wr.heap.size wr w2); have IP := hid (own_iatX (ts := ps) (by simpa using r1) (iat_wf Q.out.2.2.1) (by omega)).2; have BX9 := hid (BXr.out.below BL2.out BXr.out.lt); have YK := hid (at10_keep (BL2.out.block _ (cell_lt (w := wr) YY.out.2.1)) rfl YY.out.2); clear r1 r2 r3 x0 x1 x2 x3 x4 x5 x6 x7 y0 y1 y2 y3 y4 y5 y6 y7 y8 y9; obtain ⟨x0, x1, x2, x3, x4, x5, x6, x7⟩ := BX9.out.eight; obtain ⟨y0, y1, y2, y3, y4, y5, y6, y7, y8, y9⟩ := YK.out) | (go_at_call 10; (refine (H.out.2.2.2.2.2.1 t (.inl Q.out.2.1) _ _ _ (Q.out.1.up BL2.out)).mono ?_); rintro e w3 ⟨⟨vr, rfl, hvr⟩, b3⟩; obtain ⟨k9, x9, n9, i9, T9, tl9, tc9, A9, al9, ac9, F9, fl9, fc9, U9, ul9, uc9, rfl⟩ := hvr.agg; have J := hid (And.intro hvr (And.intro b3 (IP.out.keep (w' := w3) (T := fun q => wr.heap.size ≤ q ∧ q < w3.heap.size) (fun q hq hl => ⟨b3.block q hl, hq, Nat.lt_of_lt_of_le hl b3.size⟩)))); have BL3 := hid (below_hop b3 BL2.out); have BX9 := hid (BXr.out.below BL3.out BXr.out.lt); have YK := hid (at10_keep (BL3.out.block _ (cell_lt (w := wr) YY.out.2.1)) rfl YY.out.2); clear hvr b3 x0 x1 x2 x3 x4 x5 x6 x7 y0 y1 y2 y3 y4 y5 y6 y7 y8 y9; obtain ⟨x0, x1, x2, x3, x4, x5, x6, x7⟩ := BX9.out.eight; obtain ⟨y0, y1, y2, y3, y4, y5, y6, y7, y8, y9⟩ := YK.out) | (refine step_appX Try.underlying24 info_fun rfl (by omega) (by omega) (by rfl) _ _ (by rfl) wc.heap.size (v := .slice A3 i c3) (n := i) (xs := xs) (by rfl) (World.ownsRow.alloc (hG.out.up (PF.keepable fh fb) BL3.out).row _) (A := some ⟨w3.heap.size, 0, none⟩) (c := 1) (m := 1) (news := [.int .i64 hv, .slice A5 ps.length c5, .int .i64 k9, .int .i64 x9, .int .i64 n9, .bool i9, .slice T9 tl9 tc9, .slice A9 al9 ac9, .slice F9 fl9 fc9, .slice U9 ul9 uc9]) (by rfl) (by simp) (fun e => by cases e) (fun j u hj => ⟨_, rfl, cells_litX w3 rfl 59 _ #[.int .i64 hv, .slice A5 ps.length c5, .int .i64 k9, .int .i64 x9, .int .i64 n9, .bool i9, .slice T9 tl9 tc9, .slice A9 al9 ac9, .slice F9 fl9 fc9, .slice U9 ul9 uc9] rfl j u hj⟩) (by simp [Value.oneCell']) (by omega) (by have h1 := BL3.out.size; have h2 := hL.out.size; simp; omega) ?_; intro v' w4 r1 r2 r3; obtain ⟨A7, c7, rfl, _⟩ := rowX r1; have N := hid (GBld.next (PF.keepable fh fb) hG.out (w0 := w3.alloc (.cells #[.int .i64 hv, .slice A5 ps.length c5, .int .i64 k9, .int .i64 x9, .int .i64 n9, .bool i9, .slice T9 tl9 tc9, .slice A9 al9 ac9, .slice F9 fl9 fc9, .slice U9 ul9 uc9] 59)) hL.out.size rfl (below_hop (al1 w3 _) BL3.out) (Q.out.2.2.2.2 w3 _ A5 c5 _ _ _ _ _ _ _ _ J.out.2.2 J.out.1 BL2.out J.out.2.1) r1 r2 r3); have BX9 := hid (BXr.out.below N.out.2 (by have := HZ.out; omega)); have YK := hid (at10_keep (N.out.2.block _ YY.out.1) hab9.out YY.out.2); clear r1 r2 r3 J x0 x1 x2 x3 x4 x5 x6 x7 y0 y1 y2 y3 y4 y5 y6 y7 y8 y9; obtain ⟨x0, x1, x2, x3, x4, x5, x6, x7⟩ := BX9.out.eight; obtain ⟨y0, y1, y2, y3, y4, y5, y6, y7, y8, y9⟩ := YK.out))
      all_goals
        go_wp2
        have hgk := Hi.out
        go_roundg (gk - 1)
        case rel => exact ⟨i + 1, A7, c7, _, by omega, by go_num, rfl, hid N.out.1, hid (hL.out.trans N.out.2)⟩
        case measure => omega
    · obtain rfl : i = fb.length := by omega
      clear hi
      have HBr := hid (below_hop2 hL.out HB.out (by have := HZ.out; omega))
      have FN := hid (hG.out.funs rfl (by omega) (by omega)).2
      have HZ2 := hid hL.out.size
      have ITr := hid (IT.out.keep (w' := wr) (T := fun b => w.heap.size + 2 ≤ b ∧ b < wr.heap.size) (fun q hq hl => ⟨hL.out.block q hl, hq, Nat.lt_of_lt_of_le hl hL.out.size⟩))
      have ATr := hid (AT.out.keep (w' := wr) (T := fun b => w.heap.size + 2 ≤ b ∧ b < wr.heap.size) (fun q hq hl => ⟨hL.out.block q hl, hq, Nat.lt_of_lt_of_le hl hL.out.size⟩))
      have FRr := hid (FRow.keep (w' := wr) (T := fun b => w.heap.size + 2 ≤ b ∧ b < wr.heap.size) (fun q hq hl => ⟨rfl, by have := HZ.out; omega, hl⟩) fb fh A3 0 FN.out.2)
      have BOr := hid (BO.out.below hL.out BO.out.lt)
      clear hG hlt x0 x1 x2 x3 x4 x5 x6 x7
      obtain ⟨wz, rfl⟩ : ∃ wz, wz = wr := ⟨_, rfl⟩
      have x7 : wz.cell? ⟨w.heap.size, 7, none⟩ = some (.slice U us.length uc) := BXr.out.cell 7
      have x6 : wz.cell? ⟨w.heap.size, 6, none⟩ = some (.slice F fb.length fc) := BXr.out.cell 6
      have hxx : ¬ ((fb.length : Int) < fb.length) := by omega
      go_wp2
      clear x6 x7
      go_loopg [5, 6] us.length (fun g lv z wq => ∃ (j : Nat) (A5 : Option Addr) (c5 : Nat) (ys : List Value), j + g = us.length ∧ z = .int .i64 j ∧ lv = .slice A5 j c5 ∧ Hid (GBld 27 8 wz.heap.size (PT us) j (.slice A5 j c5) ys wq) ∧ Hid (Below wz.heap.size wz wq))
      case atStart => exact ⟨0, none, 0, [], by omega, rfl, rfl, hid (GBld.start _ _ _ _ _), hid (Below.refl _ _)⟩
      case round =>
        obtain ⟨j, A5, c5, ys, hj, rfl, rfl, hK, hM⟩ := hrel
        have Hj := hid hj
        have BXq := hid (BXr.out.below hM.out BXr.out.lt)
        obtain ⟨x0, x1, x2, x3, x4, x5, x6, x7⟩ := BXq.out.eight
        by_cases hlt : j < us.length
        · have hlt' : (j : Int) < us.length := by omega
          have HBq := hid (below_hop2 hM.out HBr.out (by have := HZ.out; have := HZ2.out; omega))
          obtain ⟨ad, k2, x2', n2, i2, T2, tl2, tc2, A4, al2, ac2, F2, fl2, fc2, U2, ul2, uc2, rfl, hSb, hab, ⟨y0, y1, y2, y3, y4, y5, y6, y7⟩, hel⟩ := (H.out.2.2.2.1.up HBq.out).elem hlt
          have Q := hid (And.intro hel (List.getElem_mem hlt))
          clear hj hel hSb hab
          go_wp2_with (first
            | (go_at_call 10; go_must (refine (H.out.2.2.2.2.2.1 us[j] (.inr Q.out.2) _ _ _ Q.out.1).mono ?_); rintro e w3 ⟨⟨vr, rfl, hvr⟩, b3⟩; go_must (obtain ⟨k9, x9, n9, i9, T9, tl9, tc9, A9, al9, ac9, F9, fl9, fc9, U9, ul9, uc9, rfl⟩ := hvr.agg; have J := hid (And.intro hvr b3); clear hvr b3))
            | (at_builtin; go_must (refine wpList_appX Try.underlying25 info_term rfl (by omega) (by omega) (by rfl) _ _ (by rfl) wz.heap.size (n := j) (by rfl) (World.ownsRow.alloc (hK.out.up (PT.keepable us) J.out.2).row _) (by rfl) (by rfl) (cells_litX w3 rfl 27 [.int .i64 k9, .int .i64 x9, .int .i64 n9, .bool i9, .slice T9 tl9 tc9, .slice A9 al9 ac9, .slice F9 fl9 fc9, .slice U9 ul9 uc9] _ rfl) (by simp [Value.oneCell']) (by omega) (by have h1 := J.out.2.size; have h2 := hM.out.size; simp; omega) ?_); intro v' w4 r1 r2 r3; go_must (obtain ⟨A7, c7, rfl, _⟩ := rowX r1; have N := hid (GBld.next (PT.keepable us) hK.out (w0 := w3.alloc (.cells #[.int .i64 k9, .int .i64 x9, .int .i64 n9, .bool i9, .slice T9 tl9 tc9, .slice A9 al9 ac9, .slice F9 fl9 fc9, .slice U9 ul9 uc9] 27)) hM.out.size rfl (below_hop (al1 w3 _) J.out.2) (pt_mk hlt J.out.1 _) r1 r2 r3); clear r1 r2 r3)))
          have hgk := Hj.out
          go_roundg (gk - 1)
          case rel => exact ⟨j + 1, A7, c7, _, by omega, by go_num, rfl, hid N.out.1, hid (hM.out.trans N.out.2)⟩
          case measure => omega
        · obtain rfl : j = us.length := by omega
          clear hj x0 x1 x2 x3 x4 x5
          have UN := hid (hK.out.terms rfl (by omega)).2
          have BOq := hid (BOr.out.below hM.out BOr.out.lt)
          have HBq := hid (below_hop2 hM.out HBr.out (by have := HZ.out; have := HZ2.out; omega))
          have f6 := BXq.out.frozen 6
          have f7 := BXq.out.frozen 7
          have BX6 := hid (BXq.out.set_ 6 (.slice A3 fb.length c3))
          have BX7 := hid (BX6.out.set_ 7 (.slice A5 us.length c5))
          have e8 : ∀ j u, (#[.int .i64 k, .int .i64 x, .int .i64 m, .bool b, .slice A1 ts.length c1, .slice A2 ats.length c2, .slice A3 fb.length c3, .slice A5 us.length c5] : Array Value)[j]? = some u → ((wr.setCell ⟨w.heap.size, 6, none⟩ (.slice A3 fb.length c3)).setCell ⟨w.heap.size, 7, none⟩ (.slice A5 us.length c5)).cell? ⟨w.heap.size, j, none⟩ = some u := fun j u hj => (BX7.out.cell j).trans (by simpa using hj)
          have z0 := e8 0 _ rfl
          have z1 := e8 1 _ rfl
          have z2 := e8 2 _ rfl
          have z3 := e8 3 _ rfl
          have z4 := e8 4 _ rfl
          have z5 := e8 5 _ rfl
          have z6 := e8 6 _ rfl
          have z7 := e8 7 _ rfl
          clear e8
          have OUT : Hid (Blk ((wr.setCell ⟨w.heap.size, 6, none⟩ (.slice A3 fb.length c3)).setCell ⟨w.heap.size, 7, none⟩ (.slice A5 us.length c5)) (w.heap.size + 1) 27 #[.int .i64 0, .int .i64 0, .int .i64 0, .bool false, .slice none 0 0, .slice none 0 0, .slice none 0 0, .slice none 0 0]) := hid ((BOq.out.far (p := ⟨w.heap.size, 6, none⟩) (by dsimp only; omega) _).far (p := ⟨w.heap.size, 7, none⟩) (by dsimp only; omega) _)
          obtain ⟨o0, o1, o2, o3, o4, o5, o6, o7⟩ := OUT.out.eight
          have g0 := OUT.out.frozen 0
          have g1 := OUT.out.frozen 1
          have g2 := OUT.out.frozen 2
          have g3 := OUT.out.frozen 3
          have g4 := OUT.out.frozen 4
          have g5 := OUT.out.frozen 5
          have g6 := OUT.out.frozen 6
          have g7 := OUT.out.frozen 7
          go_wp2
          have hBb := below_set (i := 7) (below_set (i := 6) HBq.out (Nat.le_refl _) (.slice A3 fb.length c3)) (Nat.le_refl _) (.slice A5 us.length c5)
          have hkp : ∀ q, w.heap.size + 2 ≤ q → (set8 ((wr.setCell ⟨w.heap.size, 6, none⟩ (.slice A3 fb.length c3)).setCell ⟨w.heap.size, 7, none⟩ (.slice A5 us.length c5)) (w.heap.size + 1) (.int .i64 k) (.int .i64 x) (.int .i64 m) (.bool b) (.slice A1 ts.length c1) (.slice A2 ats.length c2) (.slice A3 fb.length c3) (.slice A5 us.length c5)).heap[q]? = wr.heap[q]? := fun q hq => (set8_other (by omega)).trans ((Below.heap_setCell _ ⟨w.heap.size, 7, none⟩ _ q (by dsimp only; omega)).trans (Below.heap_setCell _ ⟨w.heap.size, 6, none⟩ _ q (by dsimp only; omega)))
          refine ret_term rfl (by rfl) (set8_blk OUT.out) rfl ⟨⟨_, rfl, ?_⟩, set8_below hBb (by omega)⟩
          refine TAt.make rfl rfl rfl rfl (ITr.out.keep (fun q hq hl => ⟨(hkp q hq.1).trans (hM.out.block q hq.2), by omega⟩)) (ATr.out.keep (fun q hq hl => ⟨(hkp q hq.1).trans (hM.out.block q hq.2), by omega⟩)) FN.out.1 hfe (FRow.keep (fun q hq hl => ⟨(hkp q hq.1).trans (hM.out.block q hq.2), by omega⟩) _ _ _ _ FRr.out) UN.out.1 (TRow.keep (fun q hq hl => ⟨hkp q (by have := HZ.out; have := HZ2.out; omega), by have := HZ.out; have := HZ2.out; omega⟩) _ _ _ UN.out.2) H.out.2.2.2.2.1
theorem heft_lens {k x n : Int} {i : Bool} {ts : List Int} {ats : List (Bool × Int)} {fh : List (Int × List Int)} {fb us : List Te} (h : Tm.heft (.mk k x n i ts ats fh fb us) ≤ 6000) (he : fh.length = fb.length) : ts.length ≤ 900000 ∧ ats.length ≤ 900000 ∧ us.length ≤ 900000 ∧ fb.length ≤ 900000 := by
  rw [Tm.heft] at h
  omega
theorem heftF_mem : ∀ {fb : List Te} {fh : List (Int × List Int)}, fh.length = fb.length → (∀ b ∈ fb, Tm.heft b ≤ Tm.heftF fh fb) ∧ ∀ a ∈ fh, a.2.length / 10 ≤ Tm.heftF fh fb
  | [], [], _ => ⟨fun b h => (by cases h), fun a h => (by cases h)⟩
  | [], _ :: _, h => by simp at h
  | _ :: _, [], h => by simp at h
  | b :: fb, a :: fh, h => by
    obtain ⟨h1, h2⟩ := heftF_mem (fb := fb) (fh := fh) (by simpa using h)
    rw [Tm.heftF]
    refine ⟨fun c hc => ?_, fun c hc => ?_⟩
    · rcases List.mem_cons.1 hc with rfl | hc
      · omega
      · have := h1 c hc; omega
    · rcases List.mem_cons.1 hc with rfl | hc
      · omega
      · have := h2 c hc; omega
theorem heftL_mem : ∀ {us : List Te} {t : Te}, t ∈ us → Tm.heft t ≤ Tm.heftL us
  | [], t, h => by cases h
  | a :: us, t, h => by
    rw [Tm.heftL]
    rcases List.mem_cons.1 h with rfl | h
    · omega
    · have := heftL_mem h; omega
theorem ref22_Copy : ∀ (N : Nat) (t : Te), SizeOf.sizeOf t ≤ N → Tm.heft t ≤ 6000 → ∀ (v : Value) (S : Nat → Prop) (w : World), TAt w S t v → Calls Try.prog 10 #[v] w (CopyT t w) := by
  intro N
  induction N with
  | zero => intro t ht; cases t; simp at ht
  | succ N ih =>
  intro t ht hh v S w hv
  obtain ⟨k, x, m, i, ts, ats, fh, fb, us⟩ := t
  obtain ⟨T, tc, A, ac, F, fc, U, uc, rfl, hI, hA, hF, hfl, hfr, hU, hrow, hwf⟩ := hv.parts
  obtain ⟨l1, l2, l3, l4⟩ := heft_lens hh hfl
  rw [Tm.heft] at hh
  obtain ⟨m1, m2⟩ := heftF_mem hfl
  refine copyt_node k x m i T A F U tc ac fc uc ts ats fh fb us w S hI hA l1 l2 l3 l4 (fun h hm => by have := m2 h hm; omega) hfl hfr hrow hwf (fun t hm v S w => ih t ?_ ?_ v S w)
  · rcases hm with hm | hm
    · have := Tm.fn_lt (k := k) (x := x) (n := m) (i := i) (ts := ts) (ats := ats) (fh := fh) (us := us) hm
      omega
    · have := Tm.te_lt (k := k) (x := x) (n := m) (i := i) (ts := ts) (ats := ats) (fh := fh) (fb := fb) hm
      omega
  · rcases hm with hm | hm
    · have := m1 t hm; omega
    · have := heftL_mem hm; omega
end Go.Proofs.Ytdmkjndlobichaa
