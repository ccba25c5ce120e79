/-
  IntsWraps: which numbers are integers, and what any number is, wrapped: ints tells what the reference tells. No condition.
-/
import Derived.Test.YtiamcllejdidjaaIntsW
import Derived.Test.YtiamcllejdidjaaPost
namespace Go.Proofs.Ytiamcllejdidjaa.intsWraps
open Go.ChangeShapes Go.WideShapes Go.ChangeAt Go.RowKit

theorem walk (a : Int) (_ : (Lit.int .i64 a).wf = true) (w : World) : Calls Try.prog 5 #[.int .i64 a] w fun e w' => e = .returned (.bool true) ∧ Below w.heap.size w w' := by
  have h := in31_w31 a
  go_enter Try.func5, Try.ntmps5
  go_wp2_with (first | (go_at_call 17; refine (ints_Wrap _ _).mono ?_; rintro e w' ⟨rfl, rfl⟩) | (go_at_call 20; refine (ref10_Wrap _ _).mono ?_; rintro e w' ⟨rfl, rfl⟩) | (go_at_call 18; refine (ints_In _ _).mono ?_; rintro e w' ⟨rfl, rfl⟩) | (go_at_call 19; refine (ref10_In _ _).mono ?_; rintro e w' ⟨rfl, rfl⟩) | (go_at_call 16; refine (law10_wakes _).mono ?_; rintro e w1 ⟨rfl, hb⟩; have Hb := hid hb; clear hb))
  go_ret
  exact ⟨rfl, Hb.out⟩

theorem answers {H : Type} (enc : TypeId × Value → H) : Answers enc Try.prog 5 Try.f5 := by
  intro W base args ds ps hA hval hlt hwt
  rw [Try.params5] at hA hval
  obtain ⟨v0, vs0, d0, ds0, p0, q0, hargs, rfl, rfl, h0, r0⟩ := trodAll_cons hA
  obtain ⟨rfl, rfl, rfl⟩ := trodAll_nil r0
  obtain rfl : args = #[v0] := by cases args; simp_all
  obtain ⟨a0, rfl, rfl, rfl, w0⟩ := open_int Try.underlying3 (hval 0 3 v0 rfl rfl) h0
  exact walk a0 w0 W
theorem hspec {H : Type} (ds : List (DataW H)) (h : ds.length = (Try.f5).params.toList.length) : Rows.intsWrapsSpec.fn H ds = { results := [.lit (.bool true)], args := ds } := by
  rw [Try.params5] at h
  match ds, h with
  | [_], _ => rfl
theorem lifted (os : Os) (started : os.Started) (H : Type) (enc : TypeId × Value → H) : ReturnsInHanded {} Try.checked os 5 .any (Rows.intsWrapsSpec.pre6 enc Try.prog Try.f5 Rows.intsWrapsRow.domain false) (Rows.intsWrapsSpec.post enc Try.prog Try.f5 false true false false) :=
  lifted_of_walk (tb := 4) (by kernel_rfl) started (by kernel_rfl) Try.func5 rfl hspec rfl Try.underlying4 (by kernel_rfl) (by kernel_rfl)
    (ChangeSpec.witness6 (enc := enc) (C := Try.checked) false ⟨#[], #[.int .i64 0], []⟩ 8 (by kernel_rfl) (by kernel_rfl) (by kernel_rfl) (by kernel_rfl)) (answers enc)
theorem over : Rows.intsWrapsRow.holds Try.pinned (OpenSpec.ofChange Rows.intsWrapsSpec) :=
  OpenClaim.holds_of_wide 5 Try.f5 rfl rfl rfl rfl rfl rfl rfl ⟨rfl, rfl, rfl, rfl, rfl⟩ rfl rfl rfl rfl rfl (by kernel_rfl) Try.func5 (by kernel_rfl)
    (of_decide_eq_true (by kernel_rfl)) (by unfold Func.isWrapper; first | (rw [if_pos (by decide +kernel)]; kernel_rfl) | (rw [if_neg (by decide +kernel)]; exact ⟨rfl, rfl⟩))
    (fun os started H enc _ => lifted os started H enc)
/-- THE STATEMENT. -/
theorem proved : Rows.IntsWrapsSaid := over
#print axioms proved
end Go.Proofs.Ytiamcllejdidjaa.intsWraps
