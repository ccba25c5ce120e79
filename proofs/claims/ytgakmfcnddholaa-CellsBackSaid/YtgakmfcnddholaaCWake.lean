/-
  THE WALK OF athanorlaw27.wakes: one value is written as it should be.
-/
import Derived.Test.YtgakmfcnddholaaCWords
import Derived.Test.YtgakmfcnddholaaHKeep
namespace Go.Proofs.Ytgakmfcnddholaa
open Go.ChangeShapes Go.WideShapes Go.ChangeAt Go.RowKit

def t27 : Tr := .mk false 1 [.mk true 5 [], .mk false 0 []]
theorem t27_words : wordsR t27 0 = ([1, 517, 11, 1024], 1028, 0) := by decide
theorem t27_at {w : World} {B g : Nat} (h : Blk w g 33 #[.bool true, .int .i64 5, .slice none 0 0, .bool false, .int .i64 0, .slice none 0 0]) (hB : g < B) : VAt w B t27 (.agg #[.bool false, .int .i64 1, .slice (some ⟨g, 0, none⟩) 2 2]) := by
  unfold t27
  rw [VAt]
  refine ⟨⟨_, _, rfl, by simp, by unfold maxLen; simp, by simp, ?_⟩, by decide⟩
  rw [RowV, RowV, RowV]
  refine ⟨⟨_, _, _, _, rfl, hB, h.cell 0, h.cell 1, h.cell 2, ?_⟩, ⟨_, _, _, _, rfl, hB, h.cell 3, h.cell 4, h.cell 5, ?_⟩, trivial⟩
  · rw [VAt]
    exact ⟨⟨none, 0, rfl, by simp, by unfold maxLen; simp, by simp, by rw [RowV]; trivial⟩, by decide⟩
  · rw [VAt]
    exact ⟨⟨none, 0, rfl, by simp, by unfold maxLen; simp, by simp, by rw [RowV]; trivial⟩, by decide⟩

set_option maxHeartbeats 4000000 in
set_option maxRecDepth 100000 in
theorem law27_wakes (w : World) : Calls Try.prog 12 #[] w fun e w' => e = .returned (.bool true) ∧ Below w.heap.size w w' := by
  have hh : hdV 1 2 = .tuple #[.int .i64 517, .int .i64 0] := by unfold hdV; exact if_pos (by omega)
  have hi : intW (-1) = 4294967295 := by decide
  go_enter Try.func12, Try.ntmps12
  go_wp2_with (first
    | (go_at_call 15; go_must (refine (cells_Words (w.heap.size + 1) t27 _ 0 _ (by simp) (t27_at ((Blk.new' (by simp) _ _).alloc _) (Nat.lt_succ_self _)) (fun _ _ => by decide)).mono ?_); rw [t27_words]; rintro e w1 ⟨A, c, rfl, ho, b1⟩; have hb := below_hop b1 (by go_grown : Below w.heap.size w _))
    | (go_at_call 8; go_must (refine (cells_Head _ _ _).mono ?_); rw [hh]; rintro e w2 ⟨rfl, rfl⟩)
    | (go_at_call 17; go_must (refine (keep_Same (w1.alloc (.cells (cellsOf [1, 517, 11, 1024]) 3)).heap.size _ _ _ _ _ _ [1, 517, 11, 1024] [1, 517, 11, 1024] _ (Nat.le_refl _) ((ho.alloc (.cells (cellsOf [1, 517, 11, 1024]) 3)).ints) (ints_of_blk (xs := [1, 517, 11, 1024]) (Blk.new w1 3 (cellsOf [1, 517, 11, 1024])) (by simp) (by simp) (by decide))).mono ?_); rw [decide_eq_true rfl]; rintro e w3 ⟨rfl, b3⟩; have hb3 := below_hop b3 (hb.alloc hb.size _))
    | (go_at_call 25; go_must (refine (cells_Int _ _).mono ?_); rw [hi]; rintro e w4 ⟨rfl, rfl⟩))
  go_ret
  exact ⟨rfl, hb3⟩
end Go.Proofs.Ytgakmfcnddholaa
