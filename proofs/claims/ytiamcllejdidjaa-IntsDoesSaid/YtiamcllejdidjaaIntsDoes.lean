/-
  IntsDoes: whatever the operation and the two numbers, ints.Do tells what the reference tells. No condition.
-/
import Derived.Test.YtiamcllejdidjaaIntsW
import Derived.Test.YtiamcllejdidjaaPost
namespace Go.Proofs.Ytiamcllejdidjaa.intsDoes
open Go.ChangeShapes Go.WideShapes Go.ChangeAt Go.RowKit

theorem walk (a : Int) (_ : (Lit.int .i64 a).wf = true) (b : Int) (_ : (Lit.int .i64 b).wf = true) (c : Int) (_ : (Lit.int .i64 c).wf = true) (w : World) : Calls Try.prog 3 #[.int .i64 a, .int .i64 b, .int .i64 c] w fun e w' => e = .returned (.bool true) ∧ Below w.heap.size w w' := by
  go_enter Try.func3, Try.ntmps3
  go_wp2_with (first | (go_at_call 14; refine (ints_Do _ _ _ _).mono ?_; rintro e w' ⟨rfl, rfl⟩) | (go_at_call 15; refine (ref10_Do _ _ _ _).mono ?_; rintro e w' ⟨rfl, rfl⟩) | (go_at_call 16; refine (law10_wakes _).mono ?_; rintro e w1 ⟨rfl, hb⟩; have Hb := hid hb; clear hb))
  go_ret
  exact ⟨rfl, Hb.out⟩

theorem answers {H : Type} (enc : TypeId × Value → H) : Answers enc Try.prog 3 Try.f3 := by
  intro W base args ds ps hA hval hlt hwt
  rw [Try.params3] at hA hval
  obtain ⟨v0, vs0, d0, ds0, p0, q0, hargs, rfl, rfl, h0, r0⟩ := trodAll_cons hA
  obtain ⟨v1, vs1, d1, ds1, p1, q1, rfl, rfl, rfl, h1, r1⟩ := trodAll_cons r0
  obtain ⟨v2, vs2, d2, ds2, p2, q2, rfl, rfl, rfl, h2, r2⟩ := trodAll_cons r1
  obtain ⟨rfl, rfl, rfl⟩ := trodAll_nil r2
  obtain rfl : args = #[v0, v1, v2] := by cases args; simp_all
  obtain ⟨a0, rfl, rfl, rfl, w0⟩ := open_int Try.underlying3 (hval 0 3 v0 rfl rfl) h0
  obtain ⟨a1, rfl, rfl, rfl, w1⟩ := open_int Try.underlying3 (hval 1 3 v1 rfl rfl) h1
  obtain ⟨a2, rfl, rfl, rfl, w2⟩ := open_int Try.underlying3 (hval 2 3 v2 rfl rfl) h2
  exact walk a0 w0 a1 w1 a2 w2 W
theorem hspec {H : Type} (ds : List (DataW H)) (h : ds.length = (Try.f3).params.toList.length) : Rows.intsDoesSpec.fn H ds = { results := [.lit (.bool true)], args := ds } := by
  rw [Try.params3] at h
  match ds, h with
  | [_, _, _], _ => rfl
theorem lifted (os : Os) (started : os.Started) (H : Type) (enc : TypeId × Value → H) : ReturnsInHanded {} Try.checked os 3 .any (Rows.intsDoesSpec.pre6 enc Try.prog Try.f3 Rows.intsDoesRow.domain false) (Rows.intsDoesSpec.post enc Try.prog Try.f3 false true false false) :=
  lifted_of_walk (tb := 4) (by kernel_rfl) started (by kernel_rfl) Try.func3 rfl hspec rfl Try.underlying4 (by kernel_rfl) (by kernel_rfl)
    (ChangeSpec.witness6 (enc := enc) (C := Try.checked) false ⟨#[], #[.int .i64 0, .int .i64 0, .int .i64 0], []⟩ 8 (by kernel_rfl) (by kernel_rfl) (by kernel_rfl) (by kernel_rfl)) (answers enc)
theorem over : Rows.intsDoesRow.holds Try.pinned (OpenSpec.ofChange Rows.intsDoesSpec) :=
  OpenClaim.holds_of_wide 3 Try.f3 rfl rfl rfl rfl rfl rfl rfl ⟨rfl, rfl, rfl, rfl, rfl⟩ rfl rfl rfl rfl rfl (by kernel_rfl) Try.func3 (by kernel_rfl)
    (of_decide_eq_true (by kernel_rfl)) (by unfold Func.isWrapper; first | (rw [if_pos (by decide +kernel)]; kernel_rfl) | (rw [if_neg (by decide +kernel)]; exact ⟨rfl, rfl⟩))
    (fun os started H enc _ => lifted os started H enc)
/-- THE STATEMENT. -/
theorem proved : Rows.IntsDoesSaid := over
#print axioms proved
end Go.Proofs.Ytiamcllejdidjaa.intsDoes
