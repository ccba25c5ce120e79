/-
  THE WALK OF athanorref20.Copy: the same expression, in new memory.
-/
import Derived.Test.YtohdaclbgedeiaaERow
namespace Go.Proofs.Ytohdaclbgedeiaa
set_option linter.all false
open Go.ChangeShapes Go.WideShapes Go.ChangeAt Go.RowKit
open Ev (Co nodes nodesL)

def set7 (w : World) (g : Nat) (v0 v1 v2 v3 v4 v5 v6 : Value) : World := ((((((w.setCell ⟨g, 0, none⟩ v0).setCell ⟨g, 1, none⟩ v1).setCell ⟨g, 2, none⟩ v2).setCell ⟨g, 3, none⟩ v3).setCell ⟨g, 4, none⟩ v4).setCell ⟨g, 5, none⟩ v5).setCell ⟨g, 6, none⟩ v6
theorem set7_blk {w : World} {g : Nat} {u0 u1 u2 u3 u4 u5 u6 v0 v1 v2 v3 v4 v5 v6 : Value} (h : Blk w g 25 #[u0, u1, u2, u3, u4, u5, u6]) : Blk (set7 w g v0 v1 v2 v3 v4 v5 v6) g 25 #[v0, v1, v2, v3, v4, v5, v6] := by
  have h0 : Blk (w.setCell ⟨g, 0, none⟩ v0) g 25 #[v0, u1, u2, u3, u4, u5, u6] := h.set_ 0 v0
  have h1 : Blk ((w.setCell ⟨g, 0, none⟩ v0).setCell ⟨g, 1, none⟩ v1) g 25 #[v0, v1, u2, u3, u4, u5, u6] := h0.set_ 1 v1
  have h2 : Blk (((w.setCell ⟨g, 0, none⟩ v0).setCell ⟨g, 1, none⟩ v1).setCell ⟨g, 2, none⟩ v2) g 25 #[v0, v1, v2, u3, u4, u5, u6] := h1.set_ 2 v2
  have h3 : Blk ((((w.setCell ⟨g, 0, none⟩ v0).setCell ⟨g, 1, none⟩ v1).setCell ⟨g, 2, none⟩ v2).setCell ⟨g, 3, none⟩ v3) g 25 #[v0, v1, v2, v3, u4, u5, u6] := h2.set_ 3 v3
  have h4 : Blk (((((w.setCell ⟨g, 0, none⟩ v0).setCell ⟨g, 1, none⟩ v1).setCell ⟨g, 2, none⟩ v2).setCell ⟨g, 3, none⟩ v3).setCell ⟨g, 4, none⟩ v4) g 25 #[v0, v1, v2, v3, v4, u5, u6] := h3.set_ 4 v4
  have h5 : Blk ((((((w.setCell ⟨g, 0, none⟩ v0).setCell ⟨g, 1, none⟩ v1).setCell ⟨g, 2, none⟩ v2).setCell ⟨g, 3, none⟩ v3).setCell ⟨g, 4, none⟩ v4).setCell ⟨g, 5, none⟩ v5) g 25 #[v0, v1, v2, v3, v4, v5, u6] := h4.set_ 5 v5
  have h6 : Blk (((((((w.setCell ⟨g, 0, none⟩ v0).setCell ⟨g, 1, none⟩ v1).setCell ⟨g, 2, none⟩ v2).setCell ⟨g, 3, none⟩ v3).setCell ⟨g, 4, none⟩ v4).setCell ⟨g, 5, none⟩ v5).setCell ⟨g, 6, none⟩ v6) g 25 #[v0, v1, v2, v3, v4, v5, v6] := h5.set_ 6 v6
  exact h6
theorem set7_other {w : World} {g k : Nat} {v0 v1 v2 v3 v4 v5 v6 : Value} (hk : k ≠ g) : (set7 w g v0 v1 v2 v3 v4 v5 v6).heap[k]? = w.heap[k]? :=
  (Below.heap_setCell _ ⟨g, 6, none⟩ _ k hk).trans ((Below.heap_setCell _ ⟨g, 5, none⟩ _ k hk).trans ((Below.heap_setCell _ ⟨g, 4, none⟩ _ k hk).trans ((Below.heap_setCell _ ⟨g, 3, none⟩ _ k hk).trans ((Below.heap_setCell _ ⟨g, 2, none⟩ _ k hk).trans ((Below.heap_setCell _ ⟨g, 1, none⟩ _ k hk).trans (Below.heap_setCell _ ⟨g, 0, none⟩ _ k hk))))))
theorem set7_below {B : Nat} {w0 w : World} {g : Nat} {v0 v1 v2 v3 v4 v5 v6 : Value} (h : Below B w0 w) (hg : B ≤ g) : Below B w0 (set7 w g v0 v1 v2 v3 v4 v5 v6) :=
  below_set (below_set (below_set (below_set (below_set (below_set (below_set h hg _) hg _) hg _) hg _) hg _) hg _) hg _
/-- The end of a function that hands back an expression. -/
theorem ret_core {fn : Func} {p : Tmp} (h : fn.results = #[.cell p 25]) {R : Ending → World → Prop} {a : Act} {w : World} {g : Nat} {v0 v1 v2 v3 v4 v5 v6 : Value} (hp : a.tmps.getD p undef = .pointer (some ⟨g, 0, none⟩)) (hg : Blk w g 25 #[v0, v1, v2, v3, v4, v5, v6]) (hd : a.defers = [])
    (hR : R (.returned (.agg #[v0, v1, v2, v3, v4, v5, v6])) w) : bodyPost Try.prog fn R .ret a w :=
  bodyPost_ret (results_cell_row h _ _ g _ _ _ _ hp hg Try.underlying25 rfl (by kernel_rfl)) hd hR
/-- What Copy tells. -/
def CopyP (t : Co) (w : World) (e : Ending) (w' : World) : Prop := (∃ v, e = .returned v ∧ CAt w' (fun b => w.heap.size ≤ b) t v) ∧ Below w.heap.size w w'
theorem cp_start {w wt : World} {bx out : Array Value} {T1 T2 : TypeId} {A : Option Addr} {c : Nat} {ts : List Int} (hown : OwnI wt (w.heap.size + 2) (.slice A ts.length c) ts) (hg : (((w.alloc (.cells bx T1)).alloc (.cells out T2)).alloc (.cells #[] 3)).grownBy wt (Value.slice (some ⟨w.heap.size + 1 + 1, 0, none⟩) 0 0).ownBlock)
    (hlow : ∀ (B0 : Nat) (w0 : World), B0 ≤ w.heap.size + 2 → Below B0 w0 (((w.alloc (.cells bx T1)).alloc (.cells out T2)).alloc (.cells #[] 3)) → Below B0 w0 wt) (hl : ts.length ≤ 17592186044416) :
    Blk wt w.heap.size T1 bx ∧ Blk wt (w.heap.size + 1) T2 out ∧ Below w.heap.size w wt ∧ IAt wt (fun b => w.heap.size + 2 ≤ b) ts A c ∧ w.heap.size + 2 ≤ wt.heap.size := by
  have h0 := hlow (w.heap.size + 2) _ (Nat.le_refl _) (Below.refl _ _)
  refine ⟨?_, ?_, hlow w.heap.size w (by omega) ((((Below.refl w.heap.size w).alloc (Nat.le_refl _) _).alloc (by simp) _).alloc (by simp; omega) _), (own_iat hown hl).2, ?_⟩
  · exact (((Blk.new w T1 bx).alloc _).alloc _).below h0 (by omega)
  · exact ((Blk.new' (w := w.alloc (.cells bx T1)) (by simp) T2 out).alloc _).below h0 (by omega)
  · have := h0.size; simp at this; omega
theorem side_next {R : Nat} {wr w1 w2 : World} {o : Obj} {v v' : Value} (hb1 : Below wr.heap.size wr w1) (hg : (w1.alloc o).grownBy w2 v.ownBlock) (hn : ∀ g, v'.ownBlock = some g → v.ownBlock = some g ∨ (w1.alloc o).heap.size ≤ g) :
    ∀ k, (R ≤ k ∧ v.ownBlock ≠ some k) → k < wr.heap.size → w2.heap[k]? = wr.heap[k]? ∧ (R ≤ k ∧ v'.ownBlock ≠ some k) := by
  intro k hk hl
  have hs1 := hb1.size
  have hsz : (w1.alloc o).heap.size = w1.heap.size + 1 := by simp
  refine ⟨((hg.block k (by omega) (fun e => hk.2 e.symm)).trans (Below.heap_alloc _ _ _ (by omega))).trans (hb1.block k hl), hk.1, fun e => ?_⟩
  rcases hn k e with e | e
  · exact hk.2 e
  · omega
set_option maxHeartbeats 8000000 in
set_option maxRecDepth 100000 in
theorem copy_node (k x y m : Int) (b : Bool) (T A : Option Addr) (tc : Nat) (ts : List Int) (us : List Co) (c : Nat) (S : Nat → Prop) (w : World) (hI : IAt w (fun b => b < w.heap.size) ts T tc) (hts : ts.length ≤ 999999) (hul : us.length ≤ 900000) (hrow : CRow w S us A 0) (hwf : Wf4 k x y m)
    (ih : ∀ t ∈ us, ∀ (v : Value) (S : Nat → Prop) (w : World), CAt w S t v → Calls Try.prog 11 #[v] w (CopyP t w)) :
    Calls Try.prog 11 #[.agg #[.int .i64 k, .int .i64 x, .int .i64 y, .int .i64 m, .bool b, .slice T ts.length tc, .slice A us.length c]] w (CopyP (.mk k x y m b ts us) w) := by
  have H := hid (And.intro hrow (And.intro ih (And.intro hI hwf)))
  have HTS := hid hts
  clear hrow ih hI hts hwf
  go_enter Try.func11, Try.ntmps11
  go_wp2_with (at_builtin; go_must (refine wpList_appI (by rfl) _ _ (by rfl) (w.heap.size + 2) (by rfl) (OwnI.lit0 (by simp) (by simp)) (by rfl) (iat_ints (B := w.heap.size) (H.out.2.2.1.keep (w' := (((w.alloc (.cells #[.int .i64 k, .int .i64 x, .int .i64 y, .int .i64 m, .bool b, .slice T ts.length tc, .slice A us.length c] 25)).alloc (.cells #[.int .i64 0, .int .i64 0, .int .i64 0, .int .i64 0, .bool false, .slice none 0 0, .slice none 0 0] 25)).alloc (.cells #[] 3))) (fun b hb hl => ⟨(((Below.refl w.heap.size w).alloc (Nat.le_refl _) _).alloc (by simp) _ |>.alloc (by simp; omega) _).block b hl, hb⟩)) (fun b hb _ => hb)) (by simp; have := HTS.out; omega) (by simp) ?_); intro A1 c1 wt hown hg hlow; simp only [List.length_nil, Nat.zero_add, List.nil_append] at hown ⊢; have W := hid (cp_start hown hg hlow (by have := HTS.out; omega)); clear hown hg hlow; have f5 := W.out.1.frozen 5; have x5 : wt.cell? ⟨w.heap.size, 5, none⟩ = some (.slice T ts.length tc) := W.out.1.cell 5)
  have BX := hid (W.out.1.set_ 5 (.slice A1 ts.length c1))
  have BO := hid (W.out.2.1.far (p := ⟨w.heap.size, 5, none⟩) (by dsimp only; omega) (.slice A1 ts.length c1))
  have HB := hid (below_set (i := 5) W.out.2.2.1 (Nat.le_refl _) (.slice A1 ts.length c1))
  have IT := hid (W.out.2.2.2.1.keep (w' := wt.setCell ⟨w.heap.size, 5, none⟩ (.slice A1 ts.length c1)) (T := fun b => w.heap.size + 2 ≤ b) (fun b hb hl => ⟨Below.heap_setCell _ ⟨w.heap.size, 5, none⟩ _ b (by dsimp only; omega), hb⟩))
  have HZ := hid (show w.heap.size + 2 ≤ (wt.setCell ⟨w.heap.size, 5, none⟩ (.slice A1 ts.length c1)).heap.size by have := W.out.2.2.2.2; simpa using this)
  generalize wt.setCell ⟨w.heap.size, 5, none⟩ (.slice A1 ts.length c1) = w0 at BX BO HB IT HZ ⊢
  go_loopg [3, 4] us.length (fun g lv z wr => ∃ (i : Nat) (A2 : Option Addr) (c2 : Nat) (xs : List Value), i + g = us.length ∧ z = .int .i64 i ∧ lv = .slice A2 i c2 ∧ Hid (Bld (w.heap.size + 2) us i (.slice A2 i c2) xs wr) ∧ Hid (Below (w.heap.size + 2) w0 wr) ∧ Hid (IAt wr (fun b => w.heap.size + 2 ≤ b ∧ (Value.slice A2 i c2).ownBlock ≠ some b) ts A1 c1))
  case atStart => exact ⟨0, none, 0, [], by omega, rfl, rfl, hid (Bld.start _ _ _), hid (Below.refl _ _), hid (IT.out.keep (fun b hb _ => ⟨rfl, hb, by simp [Value.ownBlock]⟩))⟩
  case round =>
    obtain ⟨i, A2, c2, xs, hi, rfl, rfl, hB, hL, hIT⟩ := hrel
    have Hi := hid hi
    have BXr := hid (BX.out.below hL.out (by omega))
    have BOr := hid (BO.out.below hL.out (by omega))
    have x6 : wr.cell? ⟨w.heap.size, 6, none⟩ = some (.slice A us.length c) := BXr.out.cell 6
    by_cases hlt : i < us.length
    · have hlt' : (i : Int) < us.length := by omega
      have hzr := hL.out.size
      obtain ⟨ad, k2, x2, y2, n2, i2, T2, tl2, tc2, A3, m2', c3, rfl, hSb, hab, ⟨y0, y1, y2', y3, y4, y5, y6⟩, hel⟩ := ((H.out.1.keep (w' := wr) (T := fun _ => True) (fun b _ hl => ⟨(hL.out.block b (by omega)).trans (HB.out.block b hl), trivial⟩))).elem hlt
      have Q := hid (And.intro hel (List.getElem_mem hlt))
      clear hi hel hSb hab
      go_wp2_with (first
        | (go_at_call 11; go_must (refine (H.out.2.1 us[i] Q.out.2 _ _ _ Q.out.1).mono ?_); rintro e w1 ⟨⟨vr, rfl, hv⟩, b1⟩; go_must (obtain ⟨k9, x9, y9, n9, i9, T9, tl9, tc9, A9, m9, c9, rfl⟩ := hv.agg; have J := hid (And.intro hv b1); clear hv b1))
        | (at_builtin; go_must (refine wpList_appC (by rfl) _ _ (by rfl) (w.heap.size + 2) (by rfl) (n := i) (World.ownsRow.alloc (hB.out.up J.out.2).row _) (by rfl) (by rfl) (cells_litC _ (by simp) _ _ _ _ _ _ _ _) (by simp [Value.oneCell']) (by omega) (by have h1 := J.out.2.size; have h2 := HZ.out; simp; omega) ?_); intro v' w2 hr2 hg2 hn2; go_must (obtain ⟨A7, c7, rfl, _⟩ := row_sliceC hr2; have N := hid (And.intro (hB.out.next (by have h2 := HZ.out; omega) hlt (by rfl) J.out.2 J.out.1 hr2 hg2 hn2) (hIT.out.keep (side_next J.out.2 hg2 hn2))); clear hr2 hg2 hn2)))
      have hgk := Hi.out
      go_roundg (gk - 1)
      case rel => exact ⟨i + 1, A7, c7, _, by omega, by go_num, rfl, hid N.out.1.1, hid (hL.out.trans N.out.1.2), hid N.out.2⟩
      case measure => omega
    · obtain rfl : i = us.length := by omega
      clear hi
      have f6 := BXr.out.frozen 6
      have BX6 := hid (BXr.out.set_ 6 (.slice A2 us.length c2))
      have e7 : ∀ j u, (#[.int .i64 k, .int .i64 x, .int .i64 y, .int .i64 m, .bool b, .slice A1 ts.length c1, .slice A2 us.length c2] : Array Value)[j]? = some u → (wr.setCell ⟨w.heap.size, 6, none⟩ (.slice A2 us.length c2)).cell? ⟨w.heap.size, j, none⟩ = some u := fun j u hj => (BX6.out.cell j).trans (by simpa using hj)
      have z0 := e7 0 _ rfl
      have z1 := e7 1 _ rfl
      have z2 := e7 2 _ rfl
      have z3 := e7 3 _ rfl
      have z4 := e7 4 _ rfl
      have z5 := e7 5 _ rfl
      have z6 := e7 6 _ rfl
      clear e7
      have OUT : Hid (Blk (wr.setCell ⟨w.heap.size, 6, none⟩ (.slice A2 us.length c2)) (w.heap.size + 1) 25 #[.int .i64 0, .int .i64 0, .int .i64 0, .int .i64 0, .bool false, .slice none 0 0, .slice none 0 0]) := hid (BOr.out.far (p := ⟨w.heap.size, 6, none⟩) (by dsimp only; omega) _); obtain ⟨o0, o1, o2, o3, o4, o5, o6⟩ := OUT.out.seven; have g0 := OUT.out.frozen 0; have g1 := OUT.out.frozen 1; have g2 := OUT.out.frozen 2; have g3 := OUT.out.frozen 3; have g4 := OUT.out.frozen 4; have g5 := OUT.out.frozen 5; have g6 := OUT.out.frozen 6
      go_wp2
      have hD := hB.out.done rfl (by omega)
      have hBb := below_set (i := 6) (HB.out.trans (hL.out.mono (by omega : w.heap.size ≤ w.heap.size + 2))) (Nat.le_refl _) (.slice A2 us.length c2)
      refine ret_core rfl (by rfl) (set7_blk OUT.out) rfl ⟨⟨_, rfl, ?_⟩, set7_below hBb (by omega)⟩
      refine CAt.make rfl rfl (hIT.out.keep (fun q hq hl => ⟨(set7_other (by omega)).trans (Below.heap_setCell _ ⟨w.heap.size, 6, none⟩ _ q (by dsimp only; omega)), by omega⟩)) hD.2.1 (CRow.keep (fun q hq hl => ⟨(set7_other (by omega)).trans (Below.heap_setCell _ ⟨w.heap.size, 6, none⟩ _ q (by dsimp only; omega)), by omega⟩) _ _ _ hD.2.2) H.out.2.2.2
theorem tags_heft {k x y n : Int} {i : Bool} {ts : List Int} {us : List Co} (h : heft (.mk k x y n i ts us) ≤ 100000) : ts.length ≤ 999999 ∧ us.length ≤ 100000 := by
  rw [heft] at h
  have h1 := nodesL_heft us
  have h2 := length_nodes us
  omega
theorem ref20_Copy : ∀ (N : Nat) (t : Co), SizeOf.sizeOf t ≤ N → heft t ≤ 100000 → ∀ (v : Value) (S : Nat → Prop) (w : World), CAt w S t v → Calls Try.prog 11 #[v] w (CopyP t w) := by
  intro N
  induction N with
  | zero => intro t ht; cases t; simp at ht
  | succ N ih =>
  intro t ht hh v S w hv
  obtain ⟨k, x, y, m, i, ts, us⟩ := t
  obtain ⟨T, tc, A, c, rfl, hI, hc, hrow, hwf⟩ := hv.parts
  have h1 := tags_heft hh
  refine copy_node k x y m i T A tc ts us c S w (hI.keep (fun _ _ hl => ⟨rfl, hl⟩)) h1.1 (by omega) hrow hwf (fun t hm v S w => ih t (by have := co_lt (k := k) (x := x) (y := y) (n := m) (i := i) (ts := ts) hm; omega) ?_ v S w)
  rw [heft] at hh
  have := heft_mem hm
  omega
end Go.Proofs.Ytohdaclbgedeiaa
