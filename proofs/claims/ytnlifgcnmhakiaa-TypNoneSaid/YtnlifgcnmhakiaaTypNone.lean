/-
  THE LAW TypNone: a solver that nobody made makes no variables and unifies nothing, whatever the type.
-/
import Derived.Test.YtnlifgcnmhakiaaTWake
import Derived.Test.YtnlifgcnmhakiaaTWeigh
namespace Go.Proofs.Ytnlifgcnmhakiaa.typNone
open Go.ChangeShapes Go.WideShapes Go.ChangeAt Go.RowKit

set_option maxHeartbeats 8000000 in
set_option maxRecDepth 100000 in
theorem walk (w : World) {v : Value} {t : Ty} (hv : TAt w (fun b => b < w.heap.size) t v) : Calls Try.prog 5 #[v] w fun e w' => e = .returned (.bool true) ∧ Below w.heap.size w w' := by
  have HV := hid hv
  obtain ⟨q, s, n, A, m, c, rfl⟩ := hv.agg
  clear hv
  go_enter Try.func5, Try.ntmps5
  go_wp2_with (first
    | (go_at_call 20; go_must (refine (law12_LargeType t _ (fun b => b < w.heap.size) _ (HV.out.up (by go_grown : Below w.heap.size w _))).mono ?_); rintro e w1 ⟨⟨lb, rfl, hlb⟩, b1⟩; go_must (have HB := hid (below_then (B := w.heap.size) b1 (by go_grown : Below w.heap.size w _) (by simp)); have XT := hid ((Blk.new w 34 #[.int .i64 q, .string s, .int .i64 n, .slice A m c]).below b1 (by simp)); have Hlb := hid hlb; have x0 : (w1).cell? ⟨w.heap.size, 0, none⟩ = some (.int .i64 q) := XT.out.cell 0; have x1 : (w1).cell? ⟨w.heap.size, 1, none⟩ = some (.string s) := XT.out.cell 1; have x2 : (w1).cell? ⟨w.heap.size, 2, none⟩ = some (.int .i64 n) := XT.out.cell 2; have x3 : (w1).cell? ⟨w.heap.size, 3, none⟩ = some (.slice A m c) := XT.out.cell 3; clear b1 hlb))
    | (go_at_call 10; go_must (refine (law15_wakes _).mono ?_); rintro e w9 ⟨rfl, b9⟩)
    | (go_at_call 14; go_must (refine (law15_copied t _ (fun b => b < w.heap.size) _ (Hlb.out (by assumption)) (HV.out.up HB.out)).mono ?_); rintro e w2 ⟨⟨v2, rfl, hv2⟩, b9⟩; go_must (obtain ⟨q9, s9, n9, A9, m9, c9, rfl⟩ := hv2.agg; clear hv2; have h9 := hid (XT.out.below b9 XT.out.lt); clear XT; have XT := h9; clear h9; (try (have h9 := hid (XU.out.below b9 XU.out.lt); clear XU; have XU := h9; clear h9; have y0 : (w2).cell? ⟨w3.heap.size, 0, none⟩ = some (.int .i64 0) := XU.out.cell 0)); have h9 := hid (below_hop b9 HB.out); clear HB; have HB := h9; clear h9; have x0 : (w2).cell? ⟨w.heap.size, 0, none⟩ = some (.int .i64 q) := XT.out.cell 0; have x1 : (w2).cell? ⟨w.heap.size, 1, none⟩ = some (.string s) := XT.out.cell 1; have x2 : (w2).cell? ⟨w.heap.size, 2, none⟩ = some (.int .i64 n) := XT.out.cell 2; have x3 : (w2).cell? ⟨w.heap.size, 3, none⟩ = some (.slice A m c) := XT.out.cell 3; clear b9))
    | (go_at_call 16; go_must (refine (typ_Apply_nil _ _ _ _ _ _ _).mono ?_); rintro e w3 ⟨⟨v3, rfl, hv3⟩, b9⟩; go_must (obtain ⟨A8, c8, rfl, _⟩ := hv3.parts; clear hv3; have h9 := hid (XT.out.below b9 XT.out.lt); clear XT; have XT := h9; clear h9; (try (have h9 := hid (XU.out.below b9 XU.out.lt); clear XU; have XU := h9; clear h9; have y0 : (w3).cell? ⟨w3.heap.size, 0, none⟩ = some (.int .i64 0) := XU.out.cell 0)); have h9 := hid (below_hop b9 HB.out); clear HB; have HB := h9; clear h9; have x0 : (w3).cell? ⟨w.heap.size, 0, none⟩ = some (.int .i64 q) := XT.out.cell 0; have x1 : (w3).cell? ⟨w.heap.size, 1, none⟩ = some (.string s) := XT.out.cell 1; have x2 : (w3).cell? ⟨w.heap.size, 2, none⟩ = some (.int .i64 n) := XT.out.cell 2; have x3 : (w3).cell? ⟨w.heap.size, 3, none⟩ = some (.slice A m c) := XT.out.cell 3; clear b9)))
  · go_ret
    exact ⟨rfl, below_hop b9 HB.out⟩
  · have HN := hid (Hlb.out (by assumption))
    have XU := hid ((Blk.new w3 34 #[.int .i64 0, .string ⟨#[]⟩, .int .i64 0, .slice A8 0 c8]).drew)
    have b9 : Below w3.heap.size w3 ((w3.alloc (.cells #[.int .i64 0, .string ⟨#[]⟩, .int .i64 0, .slice A8 0 c8] 34)).drew) := ((Below.refl _ _).alloc (Nat.le_refl _) _).drew
    have h9 := hid (XT.out.below b9 XT.out.lt)
    clear XT x0 x1 x2 x3
    have XT := h9
    clear h9
    have h9 := hid (below_hop b9 HB.out)
    clear HB
    have HB := h9
    clear h9 b9
    have x0 : ((w3.alloc (.cells #[.int .i64 0, .string ⟨#[]⟩, .int .i64 0, .slice A8 0 c8] 34)).drew).cell? ⟨w.heap.size, 0, none⟩ = some (.int .i64 q) := XT.out.cell 0; have x1 : ((w3.alloc (.cells #[.int .i64 0, .string ⟨#[]⟩, .int .i64 0, .slice A8 0 c8] 34)).drew).cell? ⟨w.heap.size, 1, none⟩ = some (.string s) := XT.out.cell 1; have x2 : ((w3.alloc (.cells #[.int .i64 0, .string ⟨#[]⟩, .int .i64 0, .slice A8 0 c8] 34)).drew).cell? ⟨w.heap.size, 2, none⟩ = some (.int .i64 n) := XT.out.cell 2; have x3 : ((w3.alloc (.cells #[.int .i64 0, .string ⟨#[]⟩, .int .i64 0, .slice A8 0 c8] 34)).drew).cell? ⟨w.heap.size, 3, none⟩ = some (.slice A m c) := XT.out.cell 3
    have y0 : ((w3.alloc (.cells #[.int .i64 0, .string ⟨#[]⟩, .int .i64 0, .slice A8 0 c8] 34)).drew).cell? ⟨w3.heap.size, 0, none⟩ = some (.int .i64 0) := XU.out.cell 0
    have hfd : ∀ W : World, (Instr.field 34 (.agg #[.int .i64 0, .string ⟨#[]⟩, .int .i64 0, .slice none 0 0]) 0).run Try.prog W = .ok (.int .i64 0) W := fun _ => by kernel_rfl
    go_region_held3 (fun w' => w'.cell? ⟨w.heap.size, 0, none⟩ = some (.int .i64 q) ∧ w'.cell? ⟨w.heap.size, 1, none⟩ = some (.string s) ∧ w'.cell? ⟨w.heap.size, 2, none⟩ = some (.int .i64 n) ∧ w'.cell? ⟨w.heap.size, 3, none⟩ = some (.slice A m c) ∧ w'.cell? ⟨w3.heap.size, 0, none⟩ = some (.int .i64 0)) (first | with_reducible exact ⟨x0, x1, x2, x3, y0⟩ | assumption | go_keep)
      (first
        | (go_at_call 14; (refine (law15_copied t _ (fun b => b < w.heap.size) _ HN.out (HV.out.up HB.out)).mono ?_); rintro e w4 ⟨⟨v2, rfl, hv2⟩, b9⟩; obtain ⟨q7, s7, n7, A7, m7, c7, rfl⟩ := hv2.agg; clear hv2; have h9 := hid (XT.out.below b9 XT.out.lt); clear XT; have XT := h9; clear h9; (try (have h9 := hid (XU.out.below b9 XU.out.lt); clear XU; have XU := h9; clear h9; have y0 : (w4).cell? ⟨w3.heap.size, 0, none⟩ = some (.int .i64 0) := XU.out.cell 0)); have h9 := hid (below_hop b9 HB.out); clear HB; have HB := h9; clear h9; have x0 : (w4).cell? ⟨w.heap.size, 0, none⟩ = some (.int .i64 q) := XT.out.cell 0; have x1 : (w4).cell? ⟨w.heap.size, 1, none⟩ = some (.string s) := XT.out.cell 1; have x2 : (w4).cell? ⟨w.heap.size, 2, none⟩ = some (.int .i64 n) := XT.out.cell 2; have x3 : (w4).cell? ⟨w.heap.size, 3, none⟩ = some (.slice A m c) := XT.out.cell 3; clear b9)
        | (go_at_call 13; (refine (typ_Unify_nil _ _ _ _ _ _ _ _ _ rfl _ _ _ _ _ _ rfl).mono ?_); rintro e w5 ⟨rfl, b9⟩; have h9 := hid (XT.out.below b9 XT.out.lt); clear XT; have XT := h9; clear h9; (try (have h9 := hid (XU.out.below b9 XU.out.lt); clear XU; have XU := h9; clear h9; have y0 : (w5).cell? ⟨w3.heap.size, 0, none⟩ = some (.int .i64 0) := XU.out.cell 0)); have h9 := hid (below_hop b9 HB.out); clear HB; have HB := h9; clear h9; have x0 : (w5).cell? ⟨w.heap.size, 0, none⟩ = some (.int .i64 q) := XT.out.cell 0; have x1 : (w5).cell? ⟨w.heap.size, 1, none⟩ = some (.string s) := XT.out.cell 1; have x2 : (w5).cell? ⟨w.heap.size, 2, none⟩ = some (.int .i64 n) := XT.out.cell 2; have x3 : (w5).cell? ⟨w.heap.size, 3, none⟩ = some (.slice A m c) := XT.out.cell 3; clear b9)
        | (go_at_call 21; (refine (typ_Fresh_nil _).mono ?_); rintro e w6 ⟨rfl, b9⟩; have h9 := hid (XT.out.below b9 XT.out.lt); clear XT; have XT := h9; clear h9; (try (have h9 := hid (XU.out.below b9 XU.out.lt); clear XU; have XU := h9; clear h9; have y0 : (w6).cell? ⟨w3.heap.size, 0, none⟩ = some (.int .i64 0) := XU.out.cell 0)); have h9 := hid (below_hop b9 HB.out); clear HB; have HB := h9; clear h9; have x0 : (w6).cell? ⟨w.heap.size, 0, none⟩ = some (.int .i64 q) := XT.out.cell 0; have x1 : (w6).cell? ⟨w.heap.size, 1, none⟩ = some (.string s) := XT.out.cell 1; have x2 : (w6).cell? ⟨w.heap.size, 2, none⟩ = some (.int .i64 n) := XT.out.cell 2; have x3 : (w6).cell? ⟨w.heap.size, 3, none⟩ = some (.slice A m c) := XT.out.cell 3; clear b9)
        | (go_at_call 19; (refine (typ_Vars_nil _).mono ?_); rintro e w7 ⟨rfl, rfl⟩)
        | (go_at_call 10; (refine (law15_wakes _).mono ?_); rintro e w8 ⟨rfl, b9⟩; have h9 := hid (XT.out.below b9 XT.out.lt); clear XT; have XT := h9; clear h9; (try (have h9 := hid (XU.out.below b9 XU.out.lt); clear XU; have XU := h9; clear h9; have y0 : (w8).cell? ⟨w3.heap.size, 0, none⟩ = some (.int .i64 0) := XU.out.cell 0)); have h9 := hid (below_hop b9 HB.out); clear HB; have HB := h9; clear h9; have x0 : (w8).cell? ⟨w.heap.size, 0, none⟩ = some (.int .i64 q) := XT.out.cell 0; have x1 : (w8).cell? ⟨w.heap.size, 1, none⟩ = some (.string s) := XT.out.cell 1; have x2 : (w8).cell? ⟨w.heap.size, 2, none⟩ = some (.int .i64 n) := XT.out.cell 2; have x3 : (w8).cell? ⟨w.heap.size, 3, none⟩ = some (.slice A m c) := XT.out.cell 3; clear b9))
    all_goals
      go_wp2
      go_ret
      exact ⟨rfl, HB.out⟩
set_option maxRecDepth 100000 in
theorem answers {H : Type} (enc : TypeId × Value → H) : Answers enc Try.prog 5 Try.f5 := by
  intro W base args ds ps hA hval hlt hwt
  rw [Try.params5] at hA hval
  obtain ⟨v0, vs0, d0, ds0, p0, q0, hargs, rfl, rfl, h0, r0⟩ := trodAll_cons hA
  obtain ⟨rfl, rfl, rfl⟩ := trodAll_nil r0
  obtain rfl : args = #[v0] := Array.ext' hargs
  obtain ⟨x0, i0⟩ := open_type (B := W.heap.size) (hval 0 34 v0 rfl rfl) h0 (fun p hp => hlt p (by simp [hp]))
  exact walk W i0
theorem hspec {H : Type} (ds : List (DataW H)) (h : ds.length = (Try.f5).params.toList.length) : Rows.typNoneSpec.fn H ds = { results := [.lit (.bool true)], args := ds } := by
  rw [Try.params5] at h
  match ds, h with
  | [_], _ => rfl
theorem lifted (os : Os) (started : os.Started) (H : Type) (enc : TypeId × Value → H) : ReturnsInHanded {} Try.checked os 5 .any (Rows.typNoneSpec.pre6 enc Try.prog Try.f5 Rows.typNoneRow.domain false) (Rows.typNoneSpec.post enc Try.prog Try.f5 false true false false) :=
  lifted_of_walk (tb := 4) (by kernel_rfl) started (by kernel_rfl) Try.func5 rfl hspec rfl Try.underlying4 (by kernel_rfl) (by kernel_rfl)
    (ChangeSpec.witness6 (enc := enc) (C := Try.checked) false ⟨#[], #[.agg #[.int .i64 0, .string ⟨#[]⟩, .int .i64 0, .slice none 0 0]], []⟩ 8 (by kernel_rfl) (by kernel_rfl) (by kernel_rfl) (by kernel_rfl)) (answers enc)
theorem over : Rows.typNoneRow.holds Try.pinned (OpenSpec.ofChange Rows.typNoneSpec) :=
  OpenClaim.holds_of_wide 5 Try.f5 rfl rfl rfl rfl rfl rfl rfl ⟨rfl, rfl, rfl, rfl, rfl⟩ rfl rfl rfl rfl rfl (by kernel_rfl) Try.func5 (by kernel_rfl)
    (of_decide_eq_true (by kernel_rfl)) (by unfold Func.isWrapper; first | (rw [if_pos (by decide +kernel)]; kernel_rfl) | (rw [if_neg (by decide +kernel)]; exact ⟨rfl, rfl⟩))
    (fun os started H enc _ => lifted os started H enc)
/-- THE STATEMENT. -/
theorem proved : Rows.TypNoneSaid := over
#print axioms proved
end Go.Proofs.Ytnlifgcnmhakiaa.typNone
