/-
  IntsRing: sums, differences and products of any numbers are those of what they are wrapped to; sums may be taken apart. No condition.
-/
import Derived.Test.YtiamcllejdidjaaIntsW
import Derived.Test.YtiamcllejdidjaaPost
namespace Go.Proofs.Ytiamcllejdidjaa.intsRing
open Go.ChangeShapes Go.WideShapes Go.ChangeAt Go.RowKit

theorem dov_w (op a b : Int) (h : op = 1 ∨ op = 2 ∨ op = 3) : dov op (w31 a) (w31 b) = dov op a b := by
  rcases h with rfl | rfl | rfl <;> simp [dov, w31_w31]
theorem dov_in (op a b : Int) (h : op = 1 ∨ op = 2 ∨ op = 3) : in31 (dov op a b) = true := by
  rcases h with rfl | rfl | rfl <;> simp [dov, in31_w31]
theorem apart (a b c : Int) : dov 1 (dov 3 a b) (dov 3 a c) = dov 3 a (dov 1 b c) := by
  simp only [dov1, dov3, w31_add, w31_mul_r, Int.mul_add]
theorem back (a b c : Int) : dov 2 (dov 3 a (dov 1 b c)) (dov 3 a c) = dov 3 a b := by
  simp only [dov1, dov2, dov3, w31_sub, w31_mul_r, Int.mul_add]
  congr 1
  omega

theorem walk (a : Int) (_ : (Lit.int .i64 a).wf = true) (b : Int) (_ : (Lit.int .i64 b).wf = true) (c : Int) (_ : (Lit.int .i64 c).wf = true) (w : World) : Calls Try.prog 6 #[.int .i64 a, .int .i64 b, .int .i64 c] w fun e w' => e = .returned (.bool true) ∧ Below w.heap.size w w' := by
  have k1 : ∀ x, dok 1 x = true := dok1
  have k2 : ∀ x, dok 2 x = true := dok2
  have k3 : ∀ x, dok 3 x = true := dok3
  have s1 := dov_w 1 a b (by omega)
  have s2 := dov_w 2 a b (by omega)
  have s3 := dov_w 3 a b (by omega)
  have i1 := dov_in 1 a b (by omega)
  have i2 := dov_in 2 a b (by omega)
  have i3 := dov_in 3 a b (by omega)
  have e1 := apart a b c
  have e2 := back a b c
  go_enter Try.func6, Try.ntmps6
  go_wp2_with (first | (go_at_call 14; refine (ints_Do _ _ _ _).mono ?_; rintro e w' ⟨rfl, rfl⟩) | (go_at_call 17; refine (ints_Wrap _ _).mono ?_; rintro e w' ⟨rfl, rfl⟩) | (go_at_call 18; refine (ints_In _ _).mono ?_; rintro e w' ⟨rfl, rfl⟩) | (go_at_call 16; refine (law10_wakes _).mono ?_; rintro e w1 ⟨rfl, hb⟩; have Hb := hid hb; clear hb))
  refine wp_loop_rounds 4 ?_
  rw [rounds_succ]
  go_wp2_with (first | (go_at_call 14; refine (ints_Do _ _ _ _).mono ?_; rintro e w' ⟨rfl, rfl⟩) | (go_at_call 17; refine (ints_Wrap _ _).mono ?_; rintro e w' ⟨rfl, rfl⟩) | (go_at_call 18; refine (ints_In _ _).mono ?_; rintro e w' ⟨rfl, rfl⟩) | (go_at_call 16; refine (law10_wakes _).mono ?_; rintro e w1 ⟨rfl, hb⟩; have Hb := hid hb; clear hb))
  rw [rounds_succ]
  go_wp2_with (first | (go_at_call 14; refine (ints_Do _ _ _ _).mono ?_; rintro e w' ⟨rfl, rfl⟩) | (go_at_call 17; refine (ints_Wrap _ _).mono ?_; rintro e w' ⟨rfl, rfl⟩) | (go_at_call 18; refine (ints_In _ _).mono ?_; rintro e w' ⟨rfl, rfl⟩) | (go_at_call 16; refine (law10_wakes _).mono ?_; rintro e w1 ⟨rfl, hb⟩; have Hb := hid hb; clear hb))
  rw [rounds_succ]
  go_wp2_with (first | (go_at_call 14; refine (ints_Do _ _ _ _).mono ?_; rintro e w' ⟨rfl, rfl⟩) | (go_at_call 17; refine (ints_Wrap _ _).mono ?_; rintro e w' ⟨rfl, rfl⟩) | (go_at_call 18; refine (ints_In _ _).mono ?_; rintro e w' ⟨rfl, rfl⟩) | (go_at_call 16; refine (law10_wakes _).mono ?_; rintro e w1 ⟨rfl, hb⟩; have Hb := hid hb; clear hb))
  rw [rounds_succ]
  go_wp2_with (first | (go_at_call 14; refine (ints_Do _ _ _ _).mono ?_; rintro e w' ⟨rfl, rfl⟩) | (go_at_call 17; refine (ints_Wrap _ _).mono ?_; rintro e w' ⟨rfl, rfl⟩) | (go_at_call 18; refine (ints_In _ _).mono ?_; rintro e w' ⟨rfl, rfl⟩) | (go_at_call 16; refine (law10_wakes _).mono ?_; rintro e w1 ⟨rfl, hb⟩; have Hb := hid hb; clear hb))
  go_ret
  exact ⟨rfl, Hb.out⟩

theorem answers {H : Type} (enc : TypeId × Value → H) : Answers enc Try.prog 6 Try.f6 := by
  intro W base args ds ps hA hval hlt hwt
  rw [Try.params6] at hA hval
  obtain ⟨v0, vs0, d0, ds0, p0, q0, hargs, rfl, rfl, h0, r0⟩ := trodAll_cons hA
  obtain ⟨v1, vs1, d1, ds1, p1, q1, rfl, rfl, rfl, h1, r1⟩ := trodAll_cons r0
  obtain ⟨v2, vs2, d2, ds2, p2, q2, rfl, rfl, rfl, h2, r2⟩ := trodAll_cons r1
  obtain ⟨rfl, rfl, rfl⟩ := trodAll_nil r2
  obtain rfl : args = #[v0, v1, v2] := by cases args; simp_all
  obtain ⟨a0, rfl, rfl, rfl, w0⟩ := open_int Try.underlying3 (hval 0 3 v0 rfl rfl) h0
  obtain ⟨a1, rfl, rfl, rfl, w1⟩ := open_int Try.underlying3 (hval 1 3 v1 rfl rfl) h1
  obtain ⟨a2, rfl, rfl, rfl, w2⟩ := open_int Try.underlying3 (hval 2 3 v2 rfl rfl) h2
  exact walk a0 w0 a1 w1 a2 w2 W
theorem hspec {H : Type} (ds : List (DataW H)) (h : ds.length = (Try.f6).params.toList.length) : Rows.intsRingSpec.fn H ds = { results := [.lit (.bool true)], args := ds } := by
  rw [Try.params6] at h
  match ds, h with
  | [_, _, _], _ => rfl
theorem lifted (os : Os) (started : os.Started) (H : Type) (enc : TypeId × Value → H) : ReturnsInHanded {} Try.checked os 6 .any (Rows.intsRingSpec.pre6 enc Try.prog Try.f6 Rows.intsRingRow.domain false) (Rows.intsRingSpec.post enc Try.prog Try.f6 false true false false) :=
  lifted_of_walk (tb := 4) (by kernel_rfl) started (by kernel_rfl) Try.func6 rfl hspec rfl Try.underlying4 (by kernel_rfl) (by kernel_rfl)
    (ChangeSpec.witness6 (enc := enc) (C := Try.checked) false ⟨#[], #[.int .i64 0, .int .i64 0, .int .i64 0], []⟩ 8 (by kernel_rfl) (by kernel_rfl) (by kernel_rfl) (by kernel_rfl)) (answers enc)
theorem over : Rows.intsRingRow.holds Try.pinned (OpenSpec.ofChange Rows.intsRingSpec) :=
  OpenClaim.holds_of_wide 6 Try.f6 rfl rfl rfl rfl rfl rfl rfl ⟨rfl, rfl, rfl, rfl, rfl⟩ rfl rfl rfl rfl rfl (by kernel_rfl) Try.func6 (by kernel_rfl)
    (of_decide_eq_true (by kernel_rfl)) (by unfold Func.isWrapper; first | (rw [if_pos (by decide +kernel)]; kernel_rfl) | (rw [if_neg (by decide +kernel)]; exact ⟨rfl, rfl⟩))
    (fun os started H enc _ => lifted os started H enc)
/-- THE STATEMENT. -/
theorem proved : Rows.IntsRingSaid := over
#print axioms proved
end Go.Proofs.Ytiamcllejdidjaa.intsRing
