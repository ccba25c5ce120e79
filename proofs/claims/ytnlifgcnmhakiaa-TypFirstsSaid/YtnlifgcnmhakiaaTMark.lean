/-
  WHAT A MAP OF COUNTS MARKS: plain.
-/
import Derived.Test.YtnlifgcnmhakiaaTIdx
namespace Go.Proofs.Ytnlifgcnmhakiaa
open Go.ChangeShapes Go.WideShapes Go.ChangeAt Go.RowKit

/-- The declared types whose names were met: the first ones of their names. -/
def vis (ds : List Dc) (f : ByteArray → Int) : Nat → Bool := fun i => if h : i < ds.length then decide (1 ≤ f ds[i].name) && decide (idx ds ds[i].name = i) else false
theorem vis_idx {ds : List Dc} {f : ByteArray → Int} {s : ByteArray} (h : idx ds s < ds.length) : vis ds f (idx ds s) = decide (1 ≤ f s) := by
  unfold vis
  rw [dif_pos h, idx_name h]
  simp
theorem vis_in {ds : List Dc} {f : ByteArray → Int} {s : ByteArray} {v : Int} (h : idx ds s < ds.length) (hv : 1 ≤ v) : vis ds (updM f s v) = with_ (vis ds f) (idx ds s) := by
  funext i
  unfold with_
  by_cases e : i = idx ds s
  · subst e
    rw [vis_idx h]
    simp [updM, hv]
  · rw [decide_eq_false e, Bool.or_false]
    unfold vis
    split
    · rename_i hi
      by_cases e2 : ds[i].name = s
      · have : ¬ idx ds ds[i].name = i := fun h9 => e (by rw [← e2]; exact h9.symm)
        simp [this]
      · simp [updM, e2]
    · rfl
theorem vis_out {ds : List Dc} {f : ByteArray → Int} {s : ByteArray} {v : Int} (h : ¬ idx ds s < ds.length) : vis ds (updM f s v) = vis ds f := by
  funext i
  unfold vis
  split
  · rename_i hi
    by_cases e2 : ds[i].name = s
    · exact absurd e2 (fun e => h (by
        rcases Nat.lt_or_ge (idx ds s) ds.length with h9 | h9
        · exact h9
        · exact absurd e (idx_ne hi (by omega))))
    · simp [updM, e2]
  · rfl
theorem vis_none {ds : List Dc} : vis ds (fun _ => 0) = fun _ => false := by
  funext i
  unfold vis
  split <;> simp
end Go.Proofs.Ytnlifgcnmhakiaa
