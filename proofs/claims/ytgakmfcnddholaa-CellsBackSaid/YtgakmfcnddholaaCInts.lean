/-
  THE WALKS OF ints.Wrap, ints.In, cells.Int AND OF THEIR REFERENCES.
-/
import Derived.Test.YtgakmfcnddholaaRows
import Derived.Test.YtgakmfcnddholaaCPlain
import Derived.OpenShut
import Derived.WalkLawsBesides
namespace Go.Proofs.Ytgakmfcnddholaa
open Go.ChangeShapes Go.WideShapes Go.ChangeAt Go.RowKit

theorem ints_Wrap (n : Int) (w : World) : Calls Try.prog 35 #[.int .i64 n] w fun e w' => e = .returned (.int .i64 (w31 n)) ∧ w = w' := by
  go_enter Try.func35, Try.ntmps35
  go_wp2
  go_ret
  exact ⟨ret_int (wrap_eq n), rfl⟩

theorem ref10_Wrap (n : Int) (w : World) : Calls Try.prog 36 #[.int .i64 n] w fun e w' => e = .returned (.int .i64 (w31 n)) ∧ w = w' := by
  go_enter Try.func36, Try.ntmps36
  go_wp2
  all_goals
    go_ret
    exact ⟨ret_int (by have h := rwrap_eq n; generalize n.tmod 2147483648 = m at *; unfold w31; (try simp only [wrap64] at *); split at h <;> omega), rfl⟩

theorem ints_In (n : Int) (w : World) : Calls Try.prog 41 #[.int .i64 n] w fun e w' => e = .returned (.bool (in31 n)) ∧ w = w' := by
  by_cases h : n < -1073741824
  all_goals
    go_enter Try.func41, Try.ntmps41
    go_wp2
    go_ret
    exact ⟨ret_bool (by unfold in31; rw [Bool.eq_iff_iff]; simp; omega), rfl⟩
theorem ref10_In (n : Int) (w : World) : Calls Try.prog 44 #[.int .i64 n] w fun e w' => e = .returned (.bool (in31 n)) ∧ w = w' := by
  by_cases h : n < -1073741824
  all_goals
    go_enter Try.func44, Try.ntmps44
    go_wp2
    go_ret
    exact ⟨ret_bool (by unfold in31; rw [Bool.eq_iff_iff]; simp; omega), rfl⟩

theorem cells_Int (n : Int) (w : World) : Calls Try.prog 25 #[.int .i64 n] w fun e w' => e = .returned (.int .i64 (intW n)) ∧ w = w' := by
  go_enter Try.func25, Try.ntmps25
  go_wp2_with (go_at_call 35; refine (ints_Wrap _ _).mono ?_; rintro e w' ⟨rfl, rfl⟩)
  go_ret
  refine ⟨ret_int ?_, rfl⟩
  have := w31_in n; unfold intW; generalize w31 n = m at *
  have e : wrap64 (wrap64 (2 * m) + 1) = 2 * m + 1 := by unfold wrap64; omega
  rw [e]
  have e2 : (BitVec.ofInt 64 (2 * m + 1) &&& BitVec.ofInt 64 4294967295).toNat = ((2 * m + 1) % 4294967296).toNat := by
    rw [BitVec.toNat_and, BitVec.toNat_ofInt, BitVec.toNat_ofInt]
    rw [show (4294967295 % ((2 ^ 64 : Nat) : Int)).toNat = 2 ^ 32 - 1 from by decide, Nat.and_two_pow_sub_one_eq_mod]
    omega
  show IntKind.i64.wrap _ = _
  simp only []
  rw [show ((BitVec.ofInt IntKind.i64.bits (2 * m + 1) &&& BitVec.ofInt IntKind.i64.bits 4294967295).toNat) = ((2 * m + 1) % 4294967296).toNat from e2]
  rw [IntWalk.i64_in _ (by omega)]
  omega
theorem ref27_Int (n : Int) (w : World) : Calls Try.prog 26 #[.int .i64 n] w fun e w' => e = .returned (.int .i64 (intW n)) ∧ w = w' := by
  go_enter Try.func26, Try.ntmps26
  go_wp2_with (go_at_call 36; refine (ref10_Wrap _ _).mono ?_; rintro e w' ⟨rfl, rfl⟩)
  go_ret
  refine ⟨ret_int ?_, rfl⟩
  have := w31_in n; unfold intW; generalize w31 n = m at *
  unfold wrap64; omega
end Go.Proofs.Ytgakmfcnddholaa
