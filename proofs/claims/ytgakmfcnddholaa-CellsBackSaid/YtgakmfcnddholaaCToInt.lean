/-
  THE WALKS OF cells.ToInt AND OF ITS REFERENCE: which integer.
-/
import Derived.Test.YtgakmfcnddholaaHMem
import Derived.WalkLawsBesides
import Derived.Deep.DeepMust
namespace Go.Proofs.Ytgakmfcnddholaa
open Go.ChangeShapes Go.WideShapes Go.ChangeAt Go.RowKit

/-- A word's integer. -/
def toN (h : Int) : Int := ((h + 2147483648) % 4294967296 - 2147483648) / 2
def toV (h : Int) : Value := if IntOk h then .tuple #[.int .i64 (toN h), .bool true] else .tuple #[.int .i64 0, .bool false]
theorem toV_yes {h : Int} (hk : IntOk h) : toV h = .tuple #[.int .i64 (toN h), .bool true] := if_pos hk
theorem toV_no {h : Int} (hk : ¬ IntOk h) : toV h = .tuple #[.int .i64 0, .bool false] := if_neg hk
theorem toN_in {h : Int} : -1073741824 ≤ toN h ∧ toN h ≤ 1073741823 := by unfold toN; omega

theorem tup_ib {a b : Int} (h : a = b) : Ending.returned (.tuple #[.int .i64 a, .bool true]) = .returned (.tuple #[.int .i64 b, .bool true]) := by rw [h]
theorem cells_ToIntV (h : Int) (w : World) : Calls Try.prog 19 #[.int .i64 h] w fun e w' => e = .returned (toV h) ∧ w = w' := by
  have hc : h < 0 ∨ 0 ≤ h ∧ 4294967296 ≤ h ∨ 0 ≤ h ∧ h < 4294967296 := by omega
  rcases hc with hc | ⟨h0, hc⟩ | ⟨h0, hc⟩
  · rw [toV_no (by unfold IntOk; omega)]
    go_enter Try.func19, Try.ntmps19
    go_wp2
    refine bodyPost_ret (results_tmp2 rfl _ _ _) rfl ⟨rfl, rfl⟩
  · rw [toV_no (by unfold IntOk; omega)]
    go_enter Try.func19, Try.ntmps19
    go_wp2
    refine bodyPost_ret (results_tmp2 rfl _ _ _) rfl ⟨rfl, rfl⟩
  · have q4 : h.tmod 2 = h % 2 := Int.tmod_eq_emod_of_nonneg (by omega)
    have hd : h % 2 = 0 ∨ h % 2 = 1 := by omega
    rcases hd with hd | hd
    · rw [toV_no (by unfold IntOk; omega)]
      go_enter Try.func19, Try.ntmps19
      go_wp2
      refine bodyPost_ret (results_tmp2 rfl _ _ _) rfl ⟨rfl, rfl⟩
    · rw [toV_yes (by unfold IntOk; omega)]
      have q5 : (h % 2 == 0) = false := by rw [hd]; rfl
      go_enter Try.func19, Try.ntmps19
      go_wp2
      refine bodyPost_ret (results_tmp2 rfl _ _ _) rfl ⟨?_, rfl⟩
      refine tup_ib ?_
      unfold toN
      (try simp only [wrap32, wrap64] at *)
      omega
theorem ref27_ToIntV (h : Int) (w : World) : Calls Try.prog 20 #[.int .i64 h] w fun e w' => e = .returned (toV h) ∧ w = w' := by
  have hc : h < 0 ∨ 0 ≤ h ∧ 4294967296 ≤ h ∨ 0 ≤ h ∧ h < 4294967296 := by omega
  rcases hc with hc | ⟨h0, hc⟩ | ⟨h0, hc⟩
  · rw [toV_no (by unfold IntOk; omega)]
    go_enter Try.func20, Try.ntmps20
    go_wp2
    refine bodyPost_ret (results_tmp2 rfl _ _ _) rfl ⟨rfl, rfl⟩
  · rw [toV_no (by unfold IntOk; omega)]
    go_enter Try.func20, Try.ntmps20
    go_wp2
    refine bodyPost_ret (results_tmp2 rfl _ _ _) rfl ⟨rfl, rfl⟩
  · have q4 : h.tmod 2 = h % 2 := Int.tmod_eq_emod_of_nonneg (by omega)
    have hd : h % 2 = 0 ∨ h % 2 = 1 := by omega
    rcases hd with hd | hd
    · rw [toV_no (by unfold IntOk; omega)]
      go_enter Try.func20, Try.ntmps20
      go_wp2
      refine bodyPost_ret (results_tmp2 rfl _ _ _) rfl ⟨rfl, rfl⟩
    · rw [toV_yes (by unfold IntOk; omega)]
      have q5 : (h % 2 == 0) = false := by rw [hd]; rfl
      go_enter Try.func20, Try.ntmps20
      go_wp2
      refine bodyPost_ret (results_tmp2 rfl _ _ _) rfl ⟨?_, rfl⟩
      refine tup_ib ?_
      unfold toN
      (try simp only [wrap32, wrap64] at *)
      omega
end Go.Proofs.Ytgakmfcnddholaa
