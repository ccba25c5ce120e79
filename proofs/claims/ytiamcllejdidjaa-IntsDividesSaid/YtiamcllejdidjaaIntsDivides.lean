/-
  IntsDivides: quotient and rest are put together again; just nought divides nothing. No condition.
-/
import Derived.Test.YtiamcllejdidjaaIntsW
import Derived.Test.YtiamcllejdidjaaPost
namespace Go.Proofs.Ytiamcllejdidjaa.intsDivides
open Go.ChangeShapes Go.WideShapes Go.ChangeAt Go.RowKit

theorem together (a b : Int) : w31 (w31 (w31 ((w31 a).tdiv (w31 b)) * b) + (w31 a).tmod (w31 b)) = w31 a := by
  have e := Int.tmod_add_mul_tdiv (w31 a) (w31 b)
  rw [w31_add_l, ← w31_add, w31_mul_l, ← w31_mul_r _ b, w31_add]
  rw [Int.mul_comm, Int.add_comm, e, w31_w31]

theorem walk (a : Int) (_ : (Lit.int .i64 a).wf = true) (b : Int) (_ : (Lit.int .i64 b).wf = true) (w : World) : Calls Try.prog 4 #[.int .i64 a, .int .i64 b] w fun e w' => e = .returned (.bool true) ∧ Below w.heap.size w w' := by
  have hc : w31 b = 0 ∧ (w31 b == 0) = true ∧ (w31 b != 0) = false ∧ dok 4 b = false ∧ dok 5 b = false ∨ w31 b ≠ 0 ∧ (w31 b == 0) = false ∧ (w31 b != 0) = true ∧ dok 4 b = true ∧ dok 5 b = true ∧ dov 1 (dov 3 (dov 4 a b) b) (dov 5 a b) = w31 a := by
    by_cases h : w31 b = 0
    · left; simp [h, dok]
    · right; refine ⟨h, by simp [h], by simp [h], by simp [h, dok], by simp [h, dok], ?_⟩
      rw [dov1, dov3]
      simp only [dov, h]
      simpa using together a b
  rcases hc with ⟨hz, h1, h2, h3, h4⟩ | ⟨hz, h1, h2, h3, h4, h5⟩
  all_goals
    clear hz
    go_enter Try.func4, Try.ntmps4
    go_wp2_with (first | (go_at_call 14; refine (ints_Do _ _ _ _).mono ?_; rintro e w' ⟨rfl, rfl⟩) | (go_at_call 15; refine (ref10_Do _ _ _ _).mono ?_; rintro e w' ⟨rfl, rfl⟩) | (go_at_call 17; refine (ints_Wrap _ _).mono ?_; rintro e w' ⟨rfl, rfl⟩) | (go_at_call 16; refine (law10_wakes _).mono ?_; rintro e w1 ⟨rfl, hb⟩; have Hb := hid hb; clear hb))
    go_ret
    exact ⟨rfl, Hb.out⟩

theorem answers {H : Type} (enc : TypeId × Value → H) : Answers enc Try.prog 4 Try.f4 := by
  intro W base args ds ps hA hval hlt hwt
  rw [Try.params4] at hA hval
  obtain ⟨v0, vs0, d0, ds0, p0, q0, hargs, rfl, rfl, h0, r0⟩ := trodAll_cons hA
  obtain ⟨v1, vs1, d1, ds1, p1, q1, rfl, rfl, rfl, h1, r1⟩ := trodAll_cons r0
  obtain ⟨rfl, rfl, rfl⟩ := trodAll_nil r1
  obtain rfl : args = #[v0, v1] := by cases args; simp_all
  obtain ⟨a0, rfl, rfl, rfl, w0⟩ := open_int Try.underlying3 (hval 0 3 v0 rfl rfl) h0
  obtain ⟨a1, rfl, rfl, rfl, w1⟩ := open_int Try.underlying3 (hval 1 3 v1 rfl rfl) h1
  exact walk a0 w0 a1 w1 W
theorem hspec {H : Type} (ds : List (DataW H)) (h : ds.length = (Try.f4).params.toList.length) : Rows.intsDividesSpec.fn H ds = { results := [.lit (.bool true)], args := ds } := by
  rw [Try.params4] at h
  match ds, h with
  | [_, _], _ => rfl
theorem lifted (os : Os) (started : os.Started) (H : Type) (enc : TypeId × Value → H) : ReturnsInHanded {} Try.checked os 4 .any (Rows.intsDividesSpec.pre6 enc Try.prog Try.f4 Rows.intsDividesRow.domain false) (Rows.intsDividesSpec.post enc Try.prog Try.f4 false true false false) :=
  lifted_of_walk (tb := 4) (by kernel_rfl) started (by kernel_rfl) Try.func4 rfl hspec rfl Try.underlying4 (by kernel_rfl) (by kernel_rfl)
    (ChangeSpec.witness6 (enc := enc) (C := Try.checked) false ⟨#[], #[.int .i64 0, .int .i64 0], []⟩ 8 (by kernel_rfl) (by kernel_rfl) (by kernel_rfl) (by kernel_rfl)) (answers enc)
theorem over : Rows.intsDividesRow.holds Try.pinned (OpenSpec.ofChange Rows.intsDividesSpec) :=
  OpenClaim.holds_of_wide 4 Try.f4 rfl rfl rfl rfl rfl rfl rfl ⟨rfl, rfl, rfl, rfl, rfl⟩ rfl rfl rfl rfl rfl (by kernel_rfl) Try.func4 (by kernel_rfl)
    (of_decide_eq_true (by kernel_rfl)) (by unfold Func.isWrapper; first | (rw [if_pos (by decide +kernel)]; kernel_rfl) | (rw [if_neg (by decide +kernel)]; exact ⟨rfl, rfl⟩))
    (fun os started H enc _ => lifted os started H enc)
/-- THE STATEMENT. -/
theorem proved : Rows.IntsDividesSaid := over
#print axioms proved
end Go.Proofs.Ytiamcllejdidjaa.intsDivides
