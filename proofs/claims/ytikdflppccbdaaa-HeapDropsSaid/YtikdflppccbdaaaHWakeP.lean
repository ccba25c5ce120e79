/-
  WHAT THE SHORT RUN OF 'wakes' COMES TO: plain.
-/
import Derived.Test.YtikdflppccbdaaaHColM
import Derived.Test.YtikdflppccbdaaaHNew
namespace Go.Proofs.Ytikdflppccbdaaa
open Go.ChangeShapes Go.WideShapes Go.ChangeAt Go.RowKit

def wk0 : Hp := ⟨List.replicate 128 0, 64, 0, 0⟩
def wk1 : Hp := ⟨1 :: List.replicate 127 0, 64, 0, 1⟩
def wk2 : Hp := ⟨1 :: 517 :: 11 :: 1024 :: List.replicate 124 0, 64, 0, 4⟩
theorem wk_new : newP 64 = wk0 ∧ newE 64 = 0 := ⟨by unfold newP; rw [if_pos (by omega), show ((2 : Int) * 64).toNat = 128 from rfl]; rfl, by unfold newE; rw [if_pos (by omega)]⟩
theorem wk_good0 : GoodP wk0 [] := ⟨by unfold ShapedP; decide +kernel, by decide, [], stl_end (by decide), fun i _ h => absurd h (by show ¬ i < 0; omega), fun i h => absurd h (by show ¬ i < 0; omega)⟩
theorem wk_good1 : GoodP wk1 [11, 1024] := by
  refine ⟨by unfold ShapedP; decide +kernel, by decide, [0], ?_, ?_, ?_⟩
  · rw [show wk1.top.toNat = 1 from rfl, show wk1.base.toNat = 0 from rfl, stl_step (by decide) (by decide +kernel), stl_end (by decide +kernel)]; rfl
  · show ∀ i, 0 ≤ i → i < 1 → _
    intro i _ h
    obtain rfl : i = 0 := by omega
    exact .inl rfl
  · show ∀ i, i < 2 → _
    decide +kernel
theorem wk_good2 : GoodP wk2 [1028] := by
  refine ⟨by unfold ShapedP; decide +kernel, by decide, [0, 1], ?_, ?_, ?_⟩
  · rw [show wk2.top.toNat = 4 from rfl, show wk2.base.toNat = 0 from rfl, stl_step (by decide) (by decide +kernel), stl_step (by decide +kernel) (by decide +kernel), stl_end (by decide +kernel)]; rfl
  · have h : ∀ i, i < 4 → [0, 1].contains i = true ∨ wordB 128 [0, 1] (gw wk2.ws i) = true := by decide +kernel
    exact fun i _ hi => h i hi
  · show ∀ i, i < 1 → _
    decide +kernel
theorem wk_alloc0 : allocP wk0 0 [] = (wk1, 1024, 0) := by
  unfold allocP
  rw [if_neg (by simp), if_neg (by simp [wk_good0]), if_neg (by decide)]
  rfl
theorem wk_alloc1 : allocP wk1 1 [11, 1024] = (wk2, 1028, 0) := by
  unfold allocP
  rw [if_neg (by simp), if_neg (by simp [wk_good1]), if_neg (by decide)]
  rfl
theorem wk_collect : ∃ h o, collectP wk2 [1028] = (h, o, 0) ∧ h.base = 64 ∧ h.top = 68 ∧ h.ws.length = 128 ∧ (h.ws.drop 64).take 4 = [517, 11, 1292, 1] ∧ o = [1280] := by
  unfold collectP
  rw [if_pos wk_good2]
  exact ⟨_, _, rfl, by decide, by decide +kernel, by decide +kernel, by decide +kernel, by decide +kernel⟩
end Go.Proofs.Ytikdflppccbdaaa
