/-
  WHAT A COLLECTION ANSWERS; memory laws of its loops.
-/
import Derived.Test.YtikdflppccbdaaaHMover
namespace Go.Proofs.Ytikdflppccbdaaa
open Go.ChangeShapes Go.WideShapes Go.ChangeAt Go.RowKit

/-- The state behind a collection. -/
def colB (h : Hp) : Nat := (h.room - h.base).toNat
def colR (h : Hp) (roots : List Int) : St := stR (gw h.ws) ⟨fun _ => 0, colB h, fun _ => 0⟩ (gw roots) roots.length
def colS (h : Hp) (roots : List Int) : St := scan (gw h.ws) h.room.toNat (colR h roots) (colB h)
/-- What a collection answers. -/
noncomputable def collectP (h : Hp) (roots : List Int) : Hp × List Int × Int :=
  if GoodP h roots then (⟨tab h.ws.length (colS h roots).to, h.room, h.room - h.base, (colS h roots).top⟩, outR (gw h.ws) ⟨fun _ => 0, colB h, fun _ => 0⟩ (gw roots) roots.length, 0) else (hpZ, [], 280)
def ColAns (r : Hp × List Int × Int) (e : Ending) (w' : World) : Prop := ∃ v o, e = .returned (.tuple #[v, o, .int .i64 r.2.2]) ∧ IsHp w' w'.heap.size v r.1 ∧ IsInts w' w'.heap.size o r.2.1

theorem hg_of_good {h : Hp} {roots : List Int} {sts : List Nat} (hg : GoodP h roots) (hst : stl (gw h.ws) h.top.toNat h.base.toNat = some sts) : HG (gw h.ws) h.ws.length sts (colB h) (colB h + h.room.toNat) ∧ RootsOk h.ws.length sts (gw roots) roots.length := by
  obtain ⟨hs, hm, sts', h1, h2, h3⟩ := hg
  rw [hst] at h1
  injection h1 with h1
  subst h1
  unfold ShapedP at hs
  have hsp := stl_spec _ _ (Nat.le_refl _) sts hst
  have hsz := szs_stl _ _ (Nat.le_refl _) (by omega) sts hst
  refine ⟨⟨stl_ok _ _ (Nat.le_refl _) sts hst, (body_iff hst).1 h2, fun o ho => ?_, ?_, ?_⟩, h3⟩
  · have := (hsp.1 o ho).2; omega
  · unfold colB; omega
  · unfold colB; omega

theorem OwnI.keeps3 {w w' : World} {B a b c : Nat} {v : Value} {xs : List Int} (h : OwnI w B v xs) (hk : Keeps3 a b c w w') (ha : a < B) (hb : b < B) (hc : c < B) : OwnI w' B v xs := by
  obtain ⟨⟨h1, h2⟩, hw⟩ := h
  refine ⟨⟨h1, ?_⟩, hw⟩
  rcases h2 with h2 | ⟨g, cap, cur, e, hB, hg, h3⟩
  · exact .inl h2
  · exact .inr ⟨g, cap, cur, e, hB, (hk.block g (Array.getElem?_eq_some_iff.1 hg).1 (by omega) (by omega) (by omega)).trans hg, h3⟩
theorem RSt.below {W W' : World} {M g k : Nat} {A : Option Addr} {n c : Nat} {v1 v2 v3 v4 v5 : Value} {st : St} {B : Nat} (h : RSt W M g k A n c v1 v2 v3 v4 v5 st) (hb : Below B W W') (hM : M < B) (hg : g < B) (hk : k < B) : RSt W' M g k A n c v1 v2 v3 v4 v5 st :=
  ⟨h.blk.below hb hM, h.to.below hb hg, h.mv.below hb hk⟩
theorem PSt.below {W W' : World} {M g r : Nat} {A : Option Addr} {n c : Nat} {st : St} {B : Nat} (h : PSt W M g r A n c st) (hb : Below B W W') (hM : M < B) (hg : g < B) (hr : r < B) : PSt W' M g r A n c st :=
  ⟨h.blk.below hb hM, h.to.below hb hg, h.mv.below hb hr⟩
theorem ints_one {w : World} {v : Int} {g B : Nat} (hg : g = w.heap.size) (hB : g < B) (hv : (Lit.int .i64 v).wf = true) : Ints (w.alloc (.cells #[.int .i64 v] 3)) B (some ⟨g, 0, none⟩) 1 1 [v] := by
  subst hg
  exact ints_of_blk (xs := [v]) (Blk.new w 3 _) hB (by simp) (by simpa using hv)
theorem Blk.nine' {w : World} {g : Nat} {t : TypeId} {a0 a1 a2 a3 a4 a5 a6 a7 a8 : Value} (h : Blk w g t #[a0, a1, a2, a3, a4, a5, a6, a7, a8]) :
    w.cell? ⟨g, 4, none⟩ = some a4 ∧ w.cell? ⟨g, 5, none⟩ = some a5 ∧ w.cell? ⟨g, 6, none⟩ = some a6 ∧ w.cell? ⟨g, 7, none⟩ = some a7 := ⟨h.cell 4, h.cell 5, h.cell 6, h.cell 7⟩
theorem scan_done {f : Nat → Int} {g : Nat} {st : St} {i : Nat} (h : ¬ i < st.top) : scan f g st i = st := by
  cases g with
  | zero => rfl
  | succ g => unfold scan; rw [if_neg h]
theorem scan_step {f : Nat → Int} {g : Nat} {st : St} {i : Nat} (h : i < st.top) : scan f (g + 1) st i = scan f g (scanO f (ofS (st.to i)) st (i + 1)) (i + ofS (st.to i) + 1) := by
  rw [scan, if_pos h]
theorem tab_wf {w : World} {g n cap i : Nat} {to : Nat → Int} (h : Row w g n cap (tab n to)) (hi : i < n) : (Lit.int .i64 (to i)).wf = true := by
  have := h.wf (gw (tab n to) i) (gw_mem (by rw [tab_length]; exact hi))
  rwa [gw_tab hi] at this
/-- The reference's mover behind a word's store. -/
theorem RSt.drew {W : World} {M g k : Nat} {A : Option Addr} {n c : Nat} {v1 v2 v3 v4 v5 : Value} {st : St} (h : RSt W M g k A n c v1 v2 v3 v4 v5 st) : RSt W.drew M g k A n c v1 v2 v3 v4 v5 st := ⟨h.blk.drew, h.to.drew, h.mv.drew⟩
theorem Keeps3.of_drew {a b c : Nat} {w w' : World} (h : Keeps3 a b c w.drew w') : Keeps3 a b c w w' := ⟨h.os, h.tape, h.output, h.size, h.block⟩
theorem RSt.mvo {W : World} {M g k : Nat} {A : Option Addr} {n c : Nat} {v1 v2 v3 v4 v5 : Value} {f : Nat → Int} {st : St} {i : Nat} (h : RSt W M g k A n c v1 v2 v3 v4 v5 (mvw f st (st.to i))) (hi : i < n) (hv : (Lit.int .i64 (mvv (mvw f st (st.to i)) (st.to i))).wf = true)
    (h1 : M ≠ g) (h2 : k ≠ g) : RSt (W.setCell ⟨g, i, none⟩ (.int .i64 (mvv (mvw f st (st.to i)) (st.to i)))) M g k A n c v1 v2 v3 v4 v5 (mvo f st i) := by
  refine ⟨h.blk.far h1 _, ?_, h.mv.far h2 _⟩
  have := h.to.set_ hi hv
  rw [tab_set] at this
  exact this
/-- The world where the reference's loops begin. -/
def CW (w1 : World) (A : Option Addr) (n c : Nat) (room base top : Int) (bb g k : Nat) : World :=
  (((w1.alloc (.cells (cellsOf (zeros n)) 3)).alloc (.cells (cellsOf (zeros n)) 3)).alloc (.cells #[.slice A n c, .int .i64 room, .int .i64 base, .int .i64 top, .slice (some ⟨g, 0, none⟩) n n, .int .i64 room, .int .i64 bb, .int .i64 bb, .slice (some ⟨k, 0, none⟩) n n] 79)).drew
theorem CW_facts (w1 : World) (A : Option Addr) (n c : Nat) (room base top : Int) (bb g k : Nat) (hn : n ≤ 6000) (hgk : g = w1.heap.size ∧ k = w1.heap.size + 1 ∨ g = w1.heap.size + 1 ∧ k = w1.heap.size) :
    RSt (CW w1 A n c room base top bb g k) (w1.heap.size + 1 + 1) g k A n c (.int .i64 room) (.int .i64 base) (.int .i64 top) (.int .i64 room) (.int .i64 bb) ⟨fun _ => 0, bb, fun _ => 0⟩ ∧
    (CW w1 A n c room base top bb g k).heap.size = w1.heap.size + 1 + 1 + 1 ∧ Below w1.heap.size w1 (CW w1 A n c room base top bb g k) := by
  refine ⟨⟨?_, ?_, ?_⟩, by simp [CW], by unfold CW; go_grown⟩
  · unfold CW; exact (Blk.new' (by simp) _ _).drew
  · dsimp only
    rw [tab_zero]
    unfold CW
    refine (row_of_zeros (k := n) ?_ (by omega)).drew
    rcases hgk with ⟨rfl, _⟩ | ⟨rfl, _⟩
    · exact ((Blk.new _ _ _).alloc _).alloc _
    · exact (Blk.new' (by simp) _ _).alloc _
  · dsimp only
    rw [tab_zero]
    unfold CW
    refine (row_of_zeros (k := n) ?_ (by omega)).drew
    rcases hgk with ⟨_, rfl⟩ | ⟨_, rfl⟩
    · exact (Blk.new' (by simp) _ _).alloc _
    · exact ((Blk.new _ _ _).alloc _).alloc _
theorem OwnI.isInts {w : World} {B : Nat} {v : Value} {xs : List Int} (h : OwnI w B v xs) : IsInts w w.heap.size v xs := by
  obtain ⟨A, c, e, hi⟩ := h.slice
  exact ⟨A, _, c, e, hi⟩
theorem own_set4 {w : World} {B g : Nat} {v : Value} {xs : List Int} (h : OwnI w B v xs) (hg : g < B) (a b c d : Value) : OwnI ((((w.setCell ⟨g, 0, none⟩ a).setCell ⟨g, 1, none⟩ b).setCell ⟨g, 2, none⟩ c).setCell ⟨g, 3, none⟩ d) B v xs :=
  (((h.set_ hg a).set_ hg b).set_ hg c).set_ hg d
theorem row_set4 {w : World} {g j n cap : Nat} {xs : List Int} (h : Row w j n cap xs) (hg : j ≠ g) (a b c d : Value) : Row ((((w.setCell ⟨g, 0, none⟩ a).setCell ⟨g, 1, none⟩ b).setCell ⟨g, 2, none⟩ c).setCell ⟨g, 3, none⟩ d) j n cap xs :=
  (((h.far hg a).far hg b).far hg c).far hg d
theorem below_set4 {w0 w : World} {B g : Nat} (h : Below B w0 w) (hg : B ≤ g) (a b c d : Value) : Below B w0 ((((w.setCell ⟨g, 0, none⟩ a).setCell ⟨g, 1, none⟩ b).setCell ⟨g, 2, none⟩ c).setCell ⟨g, 3, none⟩ d) :=
  below_set (below_set (below_set (below_set h hg a) hg b) hg c) hg d
theorem size_set4 (w : World) (g : Nat) (a b c d : Value) : ((((w.setCell ⟨g, 0, none⟩ a).setCell ⟨g, 1, none⟩ b).setCell ⟨g, 2, none⟩ c).setCell ⟨g, 3, none⟩ d).heap.size = w.heap.size := by simp [World.setCell]
end Go.Proofs.Ytikdflppccbdaaa
