/-
  THE WALK OF athanorref27.Val.
-/
import Derived.Test.YtgakmfcnddholaaCRValN
namespace Go.Proofs.Ytgakmfcnddholaa
open Go.ChangeShapes Go.WideShapes Go.ChangeAt Go.RowKit

/-- The world in which val is called. -/
def W2v (w : World) (A : Option Addr) (n c : Nat) : World := (w.alloc (.cells #[.bool false, .int .i64 0, .slice none 0 0] 33)).alloc (.cells #[.slice A n c, .int .i64 0, .bool false] 72)
theorem W2v_below (w : World) (A : Option Addr) (n c : Nat) : Below w.heap.size w (W2v w A n c) := by unfold W2v; go_grown
theorem W2v_size (w : World) (A : Option Addr) (n c : Nat) : (W2v w A n c).heap.size = w.heap.size + 2 := by simp [W2v]
theorem rval_4 {w w1 : World} {A : Option Addr} {n c : Nat} (k : Kept (fun b => b = w.heap.size + 1) (W2v w A n c) w1) : Blk w1 w.heap.size 33 #[.bool false, .int .i64 0, .slice none 0 0] :=
  (k.block _ (by rw [W2v_size]; omega) (by omega)).trans ((Blk.new w 33 #[.bool false, .int .i64 0, .slice none 0 0]).alloc _)
theorem rval_b {w w1 : World} {A : Option Addr} {n c : Nat} (k : Kept (fun b => b = w.heap.size + 1) (W2v w A n c) w1) : Below w.heap.size w w1 :=
  (W2v_below w A n c).trans (k.below (by rw [W2v_size]; omega) (by rintro b rfl; omega))
/-- The world of either end. -/
def Ww (w1 : World) (g : Nat) (o : Obj) (b : Bool) (n : Int) (sl : Value) : World := (((w1.alloc o).setCell ⟨g, 0, none⟩ (.bool b)).setCell ⟨g, 1, none⟩ (.int .i64 n)).setCell ⟨g, 2, none⟩ sl
theorem Ww_blk {w1 : World} {g : Nat} {u0 u1 u2 : Value} (h : Blk w1 g 33 #[u0, u1, u2]) (o : Obj) (b : Bool) (n : Int) (sl : Value) : Blk (Ww w1 g o b n sl) g 33 #[.bool b, .int .i64 n, sl] := ((((h.alloc o).set_ 0 (.bool b)).set_ 1 (.int .i64 n)).set_ 2 sl : Blk _ _ _ _)
theorem Ww_below {W w1 : World} (h : Below W.heap.size W w1) (o : Obj) (b : Bool) (n : Int) (sl : Value) : Below W.heap.size W (Ww w1 W.heap.size o b n sl) :=
  below_set (below_set (below_set (h.alloc h.size o) (Nat.le_refl _) _) (Nat.le_refl _) _) (Nat.le_refl _) _
theorem Ww_same {w1 : World} {g : Nat} {o : Obj} {b : Bool} {n : Int} {sl : Value} {k : Nat} (hk : k < w1.heap.size) (hg : k ≠ g) : (Ww w1 g o b n sl).heap[k]? = w1.heap[k]? :=
  (Below.heap_setCell _ ⟨g, 2, none⟩ _ k hg).trans ((Below.heap_setCell _ ⟨g, 1, none⟩ _ k hg).trans ((Below.heap_setCell _ ⟨g, 0, none⟩ _ k hg).trans (Below.heap_alloc _ _ _ hk)))
set_option maxHeartbeats 4000000 in
set_option maxRecDepth 100000 in
theorem ref27_Val (B : Nat) (A : Option Addr) (n c : Nat) (ws : List Int) (x : Int) (w : World) (hB : B ≤ w.heap.size) (hi : Ints w B A n c ws) (hn : n ≤ 1000000) (hx : (Lit.int .i64 x).wf = true) :
    Calls Try.prog 28 #[.slice A n c, .int .i64 x] w (ValP (valR ws x) w) := by
  have hcall : Calls Try.prog 39 #[.pointer (some ⟨w.heap.size + 1, 0, none⟩), .int .i64 x, .int .i64 256] (W2v w A n c) (RvP (readF ws 256 x (2048 - 0)) (w.heap.size + 1) (.slice A n c) (W2v w A n c)) :=
    ref27_val (w.heap.size + 1) B A n c ws (by omega) hn 256 (Nat.le_refl _) x 0 256 _ hx rfl (Blk.new' (by simp) _ _) (hi.below ((W2v_below w A n c).mono hB) (Nat.le_refl _)) (by omega) (by omega)
  have hcall2 : Calls Try.prog 39 #[.pointer (some ⟨w.heap.size + 1, 0, none⟩), .int .i64 x, .int .i64 256] ((w.alloc (.cells #[.bool false, .int .i64 0, .slice none 0 0] 33)).alloc (.cells #[.slice A n c, .int .i64 0, .bool false] 72)) (RvP (readF ws 256 x 2048) (w.heap.size + 1) (.slice A n c) (W2v w A n c)) := by
    have := hcall
    rw [Int.sub_zero] at this
    exact this
  have HC := hid hcall2
  clear hcall hcall2 hB hi hn hx
  unfold valR
  cases hr : readF ws 256 x 2048 with
  | none =>
    have HT := hid hr
    clear hr
    go_enter Try.func28, Try.ntmps28
    go_wp2_with (go_at_call 39; go_must (refine HC.out.mono ?_); rw [HT.out]; rintro e w1 ⟨k1, b9, n9, A9, m9, c9, rfl, m', hrd⟩; go_must (have h4 := hid (rval_4 k1); have hb := hid (rval_b k1); have y2 : ∀ o, (w1.alloc o).cell? ⟨w.heap.size + 1, 2, none⟩ = some (.bool true) := fun o => (hrd.alloc o).cell 2; have x0 : ∀ o, (w1.alloc o).cell? ⟨w.heap.size, 0, none⟩ = some (.bool false) := fun o => (h4.out.alloc o).cell 0; have x1 : ∀ o, (w1.alloc o).cell? ⟨w.heap.size, 1, none⟩ = some (.int .i64 0) := fun o => (h4.out.alloc o).cell 1; have x2 : ∀ o, (w1.alloc o).cell? ⟨w.heap.size, 2, none⟩ = some (.slice none 0 0) := fun o => (h4.out.alloc o).cell 2; have f0 : ∀ o i, (w1.alloc o).frozen? ⟨w.heap.size, i, none⟩ = false := fun o i => (h4.out.alloc o).frozen i; have z0 : w1.cell? ⟨w.heap.size, 0, none⟩ = some (.bool false) := h4.out.cell 0; have z1 : w1.cell? ⟨w.heap.size, 1, none⟩ = some (.int .i64 0) := h4.out.cell 1; have z2 : w1.cell? ⟨w.heap.size, 2, none⟩ = some (.slice none 0 0) := h4.out.cell 2; have g0 := h4.out.frozen 0; have g1 := h4.out.frozen 1; have g2 := h4.out.frozen 2; clear k1 hrd))
    have R := Ww_blk h4.out (.cells #[.bool b9, .int .i64 n9, .slice A9 m9 c9] 33) false 0 (.slice none 0 0)
    have r0 := R.cell 0
    have r1 := R.cell 1
    have r2 := R.cell 2
    refine bodyPost_ret (w := Ww w1 w.heap.size (.cells #[.bool b9, .int .i64 n9, .slice A9 m9 c9] 33) false 0 (.slice none 0 0)) (v := .tuple #[zeroV, .int .i64 270]) (by simp [results, Try.results28, go_sem, r0, r1, r2, zeroV]) rfl ⟨Ww_below hb.out _ _ _ _, rfl⟩
  | some r =>
    obtain ⟨t, l1⟩ := r
    have HT := hid hr
    clear hr
    go_enter Try.func28, Try.ntmps28
    go_wp2_with (go_at_call 39; go_must (refine HC.out.mono ?_); rw [HT.out]; rintro e w1 ⟨k1, b9, n9, A9, m9, c9, rfl, hv, hrd⟩; go_must (have h4 := hid (rval_4 k1); have hb := hid (rval_b k1); have hv9 := hid hv; have hks := hid k1.size; have y2 : ∀ o, (w1.alloc o).cell? ⟨w.heap.size + 1, 2, none⟩ = some (.bool false) := fun o => (hrd.alloc o).cell 2; have x0 : ∀ o, (w1.alloc o).cell? ⟨w.heap.size, 0, none⟩ = some (.bool false) := fun o => (h4.out.alloc o).cell 0; have x1 : ∀ o, (w1.alloc o).cell? ⟨w.heap.size, 1, none⟩ = some (.int .i64 0) := fun o => (h4.out.alloc o).cell 1; have x2 : ∀ o, (w1.alloc o).cell? ⟨w.heap.size, 2, none⟩ = some (.slice none 0 0) := fun o => (h4.out.alloc o).cell 2; have f0 : ∀ o i, (w1.alloc o).frozen? ⟨w.heap.size, i, none⟩ = false := fun o i => (h4.out.alloc o).frozen i; have z0 : w1.cell? ⟨w.heap.size, 0, none⟩ = some (.bool false) := h4.out.cell 0; have z1 : w1.cell? ⟨w.heap.size, 1, none⟩ = some (.int .i64 0) := h4.out.cell 1; have z2 : w1.cell? ⟨w.heap.size, 2, none⟩ = some (.slice none 0 0) := h4.out.cell 2; have g0 := h4.out.frozen 0; have g1 := h4.out.frozen 1; have g2 := h4.out.frozen 2; clear k1 hrd hv))
    have R := Ww_blk h4.out (.cells #[.bool b9, .int .i64 n9, .slice A9 m9 c9] 33) b9 n9 (.slice A9 m9 c9)
    have r0 := R.cell 0
    have r1 := R.cell 1
    have r2 := R.cell 2
    have hv2 : VAtS w1 (fun g => w.heap.size + 2 ≤ g ∧ g < w1.heap.size) t (.agg #[.bool b9, .int .i64 n9, .slice A9 m9 c9]) := hv9.out.keep (fun _ _ => rfl) (fun g h1 h2 => ⟨by have := W2v_size w A n c; omega, h2⟩)
    refine bodyPost_ret (w := Ww w1 w.heap.size (.cells #[.bool b9, .int .i64 n9, .slice A9 m9 c9] 33) b9 n9 (.slice A9 m9 c9)) (v := .tuple #[.agg #[.bool b9, .int .i64 n9, .slice A9 m9 c9], .int .i64 0]) (by simp [results, Try.results28, go_sem, r0, r1, r2]) rfl ⟨Ww_below hb.out _ _ _ _, _, rfl, hv2.keep (fun g hg => Ww_same hg.2 (by omega)) (fun g hg _ => by omega)⟩
end Go.Proofs.Ytgakmfcnddholaa
