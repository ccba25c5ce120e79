/-
  THE LAW CellsHeads: the head of any tag and size, and the pointer of any place, are the document's.
-/
import Derived.Test.YtgakmfcnddholaaCWake
namespace Go.Proofs.Ytgakmfcnddholaa.cellsHeads
open Go.ChangeShapes Go.WideShapes Go.ChangeAt Go.RowKit

theorem hd_parts (t s : Int) : ∃ a b : Int, hdV t s = .tuple #[.int .i64 a, .int .i64 b] := by unfold hdV; split <;> exact ⟨_, _, rfl⟩
theorem pt_parts (p : Int) : ∃ a b : Int, ptV p = .tuple #[.int .i64 a, .int .i64 b] := by unfold ptV; split <;> exact ⟨_, _, rfl⟩
set_option maxHeartbeats 4000000 in
set_option maxRecDepth 100000 in
theorem walk (t : Int) (_wt : (Lit.int .i64 t).wf = true) (s : Int) (_ws : (Lit.int .i64 s).wf = true) (p : Int) (_wp : (Lit.int .i64 p).wf = true) (w : World) : Calls Try.prog 3 #[.int .i64 t, .int .i64 s, .int .i64 p] w fun e w' => e = .returned (.bool true) ∧ Below w.heap.size w w' := by
  obtain ⟨a, b, h1⟩ := hd_parts t s
  obtain ⟨c, d, h2⟩ := pt_parts p
  go_enter Try.func3, Try.ntmps3
  go_wp2_with (first
    | (go_at_call 8; go_must (refine (cells_Head _ _ _).mono ?_); rw [h1]; rintro e w2 ⟨rfl, rfl⟩)
    | (go_at_call 9; go_must (refine (ref27_Head _ _ _).mono ?_); rw [h1]; rintro e w2 ⟨rfl, rfl⟩)
    | (go_at_call 10; go_must (refine (cells_Pointer _ _).mono ?_); rw [h2]; rintro e w2 ⟨rfl, rfl⟩)
    | (go_at_call 11; go_must (refine (ref27_Pointer _ _).mono ?_); rw [h2]; rintro e w2 ⟨rfl, rfl⟩)
    | (go_at_call 12; go_must (refine (law27_wakes _).mono ?_); rintro e w2 ⟨rfl, b2⟩))
  all_goals
    go_ret
    exact ⟨rfl, b2⟩
theorem answers {H : Type} (enc : TypeId × Value → H) : Answers enc Try.prog 3 Try.f3 := by
  intro W base args ds ps hA hval hlt hwt
  rw [Try.params3] at hA hval
  obtain ⟨v0, vs0, d0, ds0, p0, q0, hargs, rfl, rfl, h0, r0⟩ := trodAll_cons hA
  obtain ⟨v1, vs1, d1, ds1, p1, q1, rfl, rfl, rfl, h1, r1⟩ := trodAll_cons r0
  obtain ⟨v2, vs2, d2, ds2, p2, q2, rfl, rfl, rfl, h2, r2⟩ := trodAll_cons r1
  obtain ⟨rfl, rfl, rfl⟩ := trodAll_nil r2
  obtain rfl : args = #[v0, v1, v2] := by cases args; simp_all
  obtain ⟨a0, rfl, rfl, rfl, w0⟩ := open_int Try.underlying3 (hval 0 3 v0 rfl rfl) h0
  obtain ⟨a1, rfl, rfl, rfl, w1⟩ := open_int Try.underlying3 (hval 1 3 v1 rfl rfl) h1
  obtain ⟨a2, rfl, rfl, rfl, w2⟩ := open_int Try.underlying3 (hval 2 3 v2 rfl rfl) h2
  exact walk a0 w0 a1 w1 a2 w2 W
theorem hspec {H : Type} (ds : List (DataW H)) (h : ds.length = (Try.f3).params.toList.length) : Rows.cellsHeadsSpec.fn H ds = { results := [.lit (.bool true)], args := ds } := by
  rw [Try.params3] at h
  match ds, h with
  | [_, _, _], _ => rfl
theorem lifted (os : Os) (started : os.Started) (H : Type) (enc : TypeId × Value → H) : ReturnsInHanded {} Try.checked os 3 .any (Rows.cellsHeadsSpec.pre6 enc Try.prog Try.f3 Rows.cellsHeadsRow.domain false) (Rows.cellsHeadsSpec.post enc Try.prog Try.f3 false true false false) :=
  lifted_of_walk (tb := 4) (by kernel_rfl) started (by kernel_rfl) Try.func3 rfl hspec rfl Try.underlying4 (by kernel_rfl) (by kernel_rfl)
    (ChangeSpec.witness6 (enc := enc) (C := Try.checked) false ⟨#[], #[.int .i64 0, .int .i64 0, .int .i64 0], []⟩ 8 (by kernel_rfl) (by kernel_rfl) (by kernel_rfl) (by kernel_rfl)) (answers enc)
theorem over : Rows.cellsHeadsRow.holds Try.pinned (OpenSpec.ofChange Rows.cellsHeadsSpec) :=
  OpenClaim.holds_of_wide 3 Try.f3 rfl rfl rfl rfl rfl rfl rfl ⟨rfl, rfl, rfl, rfl, rfl⟩ rfl rfl rfl rfl rfl (by kernel_rfl) Try.func3 (by kernel_rfl)
    (of_decide_eq_true (by kernel_rfl)) (by unfold Func.isWrapper; first | (rw [if_pos (by decide +kernel)]; kernel_rfl) | (rw [if_neg (by decide +kernel)]; exact ⟨rfl, rfl⟩))
    (fun os started H enc _ => lifted os started H enc)
/-- THE STATEMENT. -/
theorem proved : Rows.CellsHeadsSaid := over
#print axioms proved
end Go.Proofs.Ytgakmfcnddholaa.cellsHeads
