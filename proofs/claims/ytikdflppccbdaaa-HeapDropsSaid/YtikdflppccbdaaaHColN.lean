/-
  MEMORY LAWS OF THE PROGRAM's COLLECTION.
-/
import Derived.Test.YtikdflppccbdaaaHColM
namespace Go.Proofs.Ytikdflppccbdaaa
open Go.ChangeShapes Go.WideShapes Go.ChangeAt Go.RowKit

theorem PSt.drew {W : World} {M g r : Nat} {A : Option Addr} {n c : Nat} {st : St} (h : PSt W M g r A n c st) : PSt W.drew M g r A n c st := ⟨h.blk.drew, h.to.drew, h.mv.drew⟩
theorem PSt.mvo {W : World} {M g r : Nat} {A : Option Addr} {n c : Nat} {f : Nat → Int} {st : St} {i : Nat} (h : PSt W M g r A n c (mvw f st (st.to i))) (hi : i < n) (hv : (Lit.int .i64 (mvv (mvw f st (st.to i)) (st.to i))).wf = true)
    (h1 : M ≠ g) (h2 : r ≠ g) : PSt (W.setCell ⟨g, i, none⟩ (.int .i64 (mvv (mvw f st (st.to i)) (st.to i)))) M g r A n c (mvo f st i) := by
  refine ⟨h.blk.far h1 _, ?_, h.mv.only (Only.setCell _ _ _ _) h2⟩
  have := h.to.set_ hi hv
  rw [tab_set] at this
  exact this
/-- The world where the program's loops begin: the row first, or the map. -/
def HW1 (w1 : World) (A : Option Addr) (n c bb : Nat) : World :=
  (((w1.alloc (.cells (cellsOf (zeros n)) 3)).alloc (.map #[] 0)).alloc (.cells #[.slice A n c, .slice (some ⟨w1.heap.size, 0, none⟩) n n, .int .i64 bb, .map (some (w1.heap.size + 1))] 73)).drew
def HW2 (w1 : World) (A : Option Addr) (n c bb : Nat) : World :=
  (((w1.alloc (.map #[] 0)).alloc (.cells (cellsOf (zeros n)) 3)).alloc (.cells #[.slice A n c, .slice (some ⟨w1.heap.size + 1, 0, none⟩) n n, .int .i64 bb, .map (some w1.heap.size)] 73)).drew
theorem HW1_facts (w1 : World) (A : Option Addr) (n c bb : Nat) (hn : n ≤ 6000) :
    PSt (HW1 w1 A n c bb) (w1.heap.size + 1 + 1) w1.heap.size (w1.heap.size + 1) A n c ⟨fun _ => 0, bb, fun _ => 0⟩ ∧ (HW1 w1 A n c bb).heap.size = w1.heap.size + 1 + 1 + 1 ∧ Below w1.heap.size w1 (HW1 w1 A n c bb) := by
  refine ⟨⟨?_, ?_, ?_⟩, by simp [HW1], by unfold HW1; go_grown⟩
  · unfold HW1; exact (Blk.new' (by simp) _ _).drew
  · dsimp only
    rw [tab_zero]
    unfold HW1
    exact (row_of_zeros (k := n) (((Blk.new _ _ _).alloc _).alloc _) (by omega)).drew
  · unfold HW1
    have := ((MapIs.made (w1.alloc (.cells (cellsOf (zeros n)) 3))).alloc (.cells #[.slice A n c, .slice (some ⟨w1.heap.size, 0, none⟩) n n, .int .i64 bb, .map (some (w1.heap.size + 1))] 73)).drew
    rw [World.size_alloc] at this
    exact this.mono (Nat.zero_le _)
theorem HW2_facts (w1 : World) (A : Option Addr) (n c bb : Nat) (hn : n ≤ 6000) :
    PSt (HW2 w1 A n c bb) (w1.heap.size + 1 + 1) (w1.heap.size + 1) w1.heap.size A n c ⟨fun _ => 0, bb, fun _ => 0⟩ ∧ (HW2 w1 A n c bb).heap.size = w1.heap.size + 1 + 1 + 1 ∧ Below w1.heap.size w1 (HW2 w1 A n c bb) := by
  refine ⟨⟨?_, ?_, ?_⟩, by simp [HW2], by unfold HW2; go_grown⟩
  · unfold HW2; exact (Blk.new' (by simp) _ _).drew
  · dsimp only
    rw [tab_zero]
    unfold HW2
    exact (row_of_zeros (k := n) ((Blk.new' (by simp) _ _).alloc _) (by omega)).drew
  · unfold HW2
    exact (((MapIs.made w1).alloc _).alloc _).drew.mono (Nat.zero_le _)
end Go.Proofs.Ytikdflppccbdaaa
