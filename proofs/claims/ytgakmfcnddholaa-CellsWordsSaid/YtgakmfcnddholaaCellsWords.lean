/-
  THE LAW CellsWords: the word of any integer, the integer, the place and the head of any word, are the document's.
-/
import Derived.Test.YtgakmfcnddholaaCWake
import Derived.Test.YtgakmfcnddholaaCToInt
namespace Go.Proofs.Ytgakmfcnddholaa.cellsWords
open Go.ChangeShapes Go.WideShapes Go.ChangeAt Go.RowKit

theorem to_parts (h : Int) : ∃ (a : Int) (b : Bool), toV h = .tuple #[.int .i64 a, .bool b] := by unfold toV; split <;> exact ⟨_, _, rfl⟩
theorem pl_parts (h : Int) : ∃ (a : Int) (b : Bool), plV h = .tuple #[.int .i64 a, .bool b] := by unfold plV; split <;> exact ⟨_, _, rfl⟩
theorem of_parts (h : Int) : ∃ (a b : Int) (c : Bool), ofV h = .tuple #[.int .i64 a, .int .i64 b, .bool c] := by unfold ofV; split <;> exact ⟨_, _, _, rfl⟩
set_option maxHeartbeats 4000000 in
set_option maxRecDepth 100000 in
theorem walk (n : Int) (wn : (Lit.int .i64 n).wf = true) (w : World) : Calls Try.prog 5 #[.int .i64 n] w fun e w' => e = .returned (.bool true) ∧ Below w.heap.size w w' := by
  obtain ⟨a1, c1, h1⟩ := to_parts n
  obtain ⟨a2, c2, h2⟩ := pl_parts n
  obtain ⟨a3, b3, c3, h3⟩ := of_parts n
  have W := hid wn
  clear wn
  go_enter Try.func5, Try.ntmps5
  go_wp2_with (first
    | (go_at_call 19; go_must (refine (cells_ToIntV _ _).mono ?_); rw [h1]; rintro e w2 ⟨rfl, rfl⟩)
    | (go_at_call 20; go_must (refine (ref27_ToIntV _ _).mono ?_); rw [h1]; rintro e w2 ⟨rfl, rfl⟩)
    | (go_at_call 21; go_must (refine (cells_Place _ W.out _).mono ?_); rw [h2]; rintro e w2 ⟨rfl, rfl⟩)
    | (go_at_call 22; go_must (refine (ref27_Place _ W.out _).mono ?_); rw [h2]; rintro e w2 ⟨rfl, rfl⟩)
    | (go_at_call 23; go_must (refine (cells_Of _ W.out _).mono ?_); rw [h3]; rintro e w2 ⟨rfl, rfl⟩)
    | (go_at_call 24; go_must (refine (ref27_Of _ W.out _).mono ?_); rw [h3]; rintro e w2 ⟨rfl, rfl⟩)
    | (go_at_call 25; go_must (refine (cells_Int _ _).mono ?_); rintro e w2 ⟨rfl, rfl⟩)
    | (go_at_call 26; go_must (refine (ref27_Int _ _).mono ?_); rintro e w2 ⟨rfl, rfl⟩)
    | (go_at_call 12; go_must (refine (law27_wakes _).mono ?_); rintro e w2 ⟨rfl, b2⟩))
  all_goals
    go_ret
    exact ⟨rfl, b2⟩
theorem answers {H : Type} (enc : TypeId × Value → H) : Answers enc Try.prog 5 Try.f5 := by
  intro W base args ds ps hA hval hlt hwt
  rw [Try.params5] at hA hval
  obtain ⟨v0, vs0, d0, ds0, p0, q0, hargs, rfl, rfl, h0, r0⟩ := trodAll_cons hA
  obtain ⟨rfl, rfl, rfl⟩ := trodAll_nil r0
  obtain rfl : args = #[v0] := by cases args; simp_all
  obtain ⟨a0, rfl, rfl, rfl, w0⟩ := open_int Try.underlying3 (hval 0 3 v0 rfl rfl) h0
  exact walk a0 w0 W
theorem hspec {H : Type} (ds : List (DataW H)) (h : ds.length = (Try.f5).params.toList.length) : Rows.cellsWordsSpec.fn H ds = { results := [.lit (.bool true)], args := ds } := by
  rw [Try.params5] at h
  match ds, h with
  | [_], _ => rfl
theorem lifted (os : Os) (started : os.Started) (H : Type) (enc : TypeId × Value → H) : ReturnsInHanded {} Try.checked os 5 .any (Rows.cellsWordsSpec.pre6 enc Try.prog Try.f5 Rows.cellsWordsRow.domain false) (Rows.cellsWordsSpec.post enc Try.prog Try.f5 false true false false) :=
  lifted_of_walk (tb := 4) (by kernel_rfl) started (by kernel_rfl) Try.func5 rfl hspec rfl Try.underlying4 (by kernel_rfl) (by kernel_rfl)
    (ChangeSpec.witness6 (enc := enc) (C := Try.checked) false ⟨#[], #[.int .i64 0], []⟩ 8 (by kernel_rfl) (by kernel_rfl) (by kernel_rfl) (by kernel_rfl)) (answers enc)
theorem over : Rows.cellsWordsRow.holds Try.pinned (OpenSpec.ofChange Rows.cellsWordsSpec) :=
  OpenClaim.holds_of_wide 5 Try.f5 rfl rfl rfl rfl rfl rfl rfl ⟨rfl, rfl, rfl, rfl, rfl⟩ rfl rfl rfl rfl rfl (by kernel_rfl) Try.func5 (by kernel_rfl)
    (of_decide_eq_true (by kernel_rfl)) (by unfold Func.isWrapper; first | (rw [if_pos (by decide +kernel)]; kernel_rfl) | (rw [if_neg (by decide +kernel)]; exact ⟨rfl, rfl⟩))
    (fun os started H enc _ => lifted os started H enc)
/-- THE STATEMENT. -/
theorem proved : Rows.CellsWordsSaid := over
#print axioms proved
end Go.Proofs.Ytgakmfcnddholaa.cellsWords
