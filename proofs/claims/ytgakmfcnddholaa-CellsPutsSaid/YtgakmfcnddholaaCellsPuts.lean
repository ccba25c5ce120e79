/-
  THE LAW CellsPuts: any value as objects from any place on is the document's; what is handed in stays.
-/
import Derived.Test.YtgakmfcnddholaaCRWords
import Derived.Test.YtgakmfcnddholaaCSame
import Derived.Test.YtgakmfcnddholaaCWake
import Derived.Test.YtgakmfcnddholaaCVal2
namespace Go.Proofs.Ytgakmfcnddholaa.cellsPuts
open Go.ChangeShapes Go.WideShapes Go.ChangeAt Go.RowKit

set_option maxHeartbeats 8000000 in
set_option maxRecDepth 100000 in
theorem walk (w : World) {v : Value} {t : Tr} (hv : VAt w w.heap.size t v) (x : Int) (_wx : (Lit.int .i64 x).wf = true) : Calls Try.prog 4 #[v, .int .i64 x] w fun e w' => e = .returned (.bool true) ∧ Below w.heap.size w w' := by
  have hv0 := hv
  obtain ⟨b, n, us⟩ := t
  obtain ⟨A, c, rfl, _⟩ := hv.parts
  have HV := hid hv0
  clear hv hv0
  obtain ⟨t, ht⟩ : ∃ t, t = Tr.mk b n us := ⟨_, rfl⟩
  rw [← ht] at HV
  generalize us.length = m at HV
  clear ht
  go_enter Try.func4, Try.ntmps4
  go_wp2_with (first
    | (go_at_call 13; go_must (refine (law17_LargeVal w.heap.size t _ _ (by simp) (HV.out.up (Nat.le_refl _) (by go_grown : Below w.heap.size w _))).mono ?_); rintro e w1 ⟨⟨lb, rfl, hlb⟩, b1⟩; go_must (have hb1 := below_hop b1 (by go_grown : Below w.heap.size w _); have X1 := hid ((Blk.new w 33 #[.bool b, .int .i64 n, .slice A m c]).below b1 (by simp)); have x0 : w1.cell? ⟨w.heap.size, 0, none⟩ = some (.bool b) := X1.out.cell 0; have x1 : w1.cell? ⟨w.heap.size, 1, none⟩ = some (.int .i64 n) := X1.out.cell 1; have x2 : w1.cell? ⟨w.heap.size, 2, none⟩ = some (.slice A m c) := X1.out.cell 2))
    | (go_at_call 14; go_must (refine (ref17_CopyVal _ t (Nat.le_refl _) w.heap.size _ _ (hlb (by assumption)) hb1.size (HV.out.up (Nat.le_refl _) hb1)).mono ?_); rintro e w2 ⟨⟨v', rfl, hv'⟩, b2⟩; go_must (have hnod := hid (hlb (by assumption)); clear hlb; obtain ⟨b9, n9, A9, m9, c9, rfl⟩ := hv'.agg; have HC := hid hv'.all; have hb2 := below_hop b2 hb1; have h9 := hid (X1.out.below b2 X1.out.lt); clear X1 x0 x1 x2 b1 hv'; have X1 := hid h9.out; clear h9; have x0 : ∀ o, (w2.alloc o).cell? ⟨w.heap.size, 0, none⟩ = some (.bool b) := fun o => (X1.out.alloc o).cell 0; have x1 : ∀ o, (w2.alloc o).cell? ⟨w.heap.size, 1, none⟩ = some (.int .i64 n) := fun o => (X1.out.alloc o).cell 1; have x2 : ∀ o, (w2.alloc o).cell? ⟨w.heap.size, 2, none⟩ = some (.slice A m c) := fun o => (X1.out.alloc o).cell 2))
    | (go_at_call 15; go_must (refine (cells_Words w2.heap.size t _ x _ (by simp) (HC.out.up (Nat.le_refl _) (by go_grown : Below w2.heap.size w2 _)) (fun _ _ => by have h1 := putT_nodes t x.toNat; have h2 := putT_len t x.toNat; have h3 := hnod.out; omega)).mono ?_); rintro e w4 ⟨A4, c4, rfl, ho4, b4⟩; go_must (have hb4 := below_hop b4 (hb2.alloc hb2.size _); have Y1 := hid ((Blk.new w2 33 #[.bool b9, .int .i64 n9, .slice A9 m9 c9]).below b4 (by simp)); have h9 := hid ((X1.out.alloc (.cells #[.bool b9, .int .i64 n9, .slice A9 m9 c9] 33)).below b4 (by have := X1.out.lt; simp; omega)); have hc9 := hid (HC.out.up (Nat.le_refl _) (by exact (below_hop b4 (by go_grown : Below w2.heap.size w2 _)))); clear X1 x0 x1 x2 HC; have X1 := hid h9.out; have HC := hid hc9.out; clear h9 hc9; have x0 : w4.cell? ⟨w.heap.size, 0, none⟩ = some (.bool b) := X1.out.cell 0; have x1 : w4.cell? ⟨w.heap.size, 1, none⟩ = some (.int .i64 n) := X1.out.cell 1; have x2 : w4.cell? ⟨w.heap.size, 2, none⟩ = some (.slice A m c) := X1.out.cell 2; have O4 := hid ho4; clear ho4))
    | (go_at_call 16; go_must (refine (ref27_Words w.heap.size t _ x _ hb4.size (HV.out.up (Nat.le_refl _) hb4) (fun _ _ => by have h1 := putT_nodes t x.toNat; have h2 := putT_len t x.toNat; have h3 := hnod.out; omega)).mono ?_); rintro e w5 ⟨A5, c5, rfl, ho5, b5⟩; go_must (have hb5 := below_hop b5 hb4; have h9 := hid (X1.out.below b5 X1.out.lt); have h8 := hid (Y1.out.below b5 Y1.out.lt); have hc9 := hid (HC.out.up (Nat.le_refl _) (b5.mono (by have := Y1.out.lt; omega))); have h7 := hid (O4.out.ints.below b5 b5.size); clear X1 x0 x1 x2 HC Y1 O4; have X1 := hid h9.out; have Y1 := hid h8.out; have HC := hid hc9.out; have I4 := hid h7.out; clear h9 hc9 h8 h7; have I5 := hid ho5.ints; clear ho5))
    | (go_at_call 17; go_must (refine (keep_Same w5.heap.size _ _ _ _ _ _ _ _ _ (Nat.le_refl _) I4.out I5.out).mono ?_); rw [decide_eq_true rfl]; rintro e w6 ⟨rfl, b6⟩; go_must (have hb6 := below_hop b6 hb5; have h9 := hid (X1.out.below b6 X1.out.lt); have h8 := hid (Y1.out.below b6 Y1.out.lt); have hc9 := hid (HC.out.up (Nat.le_refl _) (b6.mono (by have := Y1.out.lt; omega))); clear X1 HC Y1 I4 I5; have X1 := hid h9.out; have Y1 := hid h8.out; have HC := hid hc9.out; clear h9 hc9 h8; have x0 : ∀ o, (w6.alloc o).cell? ⟨w.heap.size, 0, none⟩ = some (.bool b) := fun o => (X1.out.alloc o).cell 0; have x1 : ∀ o, (w6.alloc o).cell? ⟨w.heap.size, 1, none⟩ = some (.int .i64 n) := fun o => (X1.out.alloc o).cell 1; have x2 : ∀ o, (w6.alloc o).cell? ⟨w.heap.size, 2, none⟩ = some (.slice A m c) := fun o => (X1.out.alloc o).cell 2; have y0 : w6.cell? ⟨w2.heap.size, 0, none⟩ = some (.bool b9) := Y1.out.cell 0; have y1 : w6.cell? ⟨w2.heap.size, 1, none⟩ = some (.int .i64 n9) := Y1.out.cell 1; have y2 : w6.cell? ⟨w2.heap.size, 2, none⟩ = some (.slice A9 m9 c9) := Y1.out.cell 2))
    | (go_at_call 18; go_must (refine (same_vals (nodesL [t] + 1) [t] (Nat.lt_succ_self _) ((w6.alloc (.cells #[.bool b9, .int .i64 n9, .slice A9 m9 c9] 33)).alloc (.cells #[.bool b, .int .i64 n, .slice A m c] 33)).heap.size (some ⟨w6.heap.size, 0, none⟩) (some ⟨w6.heap.size + 1, 0, none⟩) 1 1 _ (Nat.le_refl _) (row_one ((Blk.new w6 33 #[.bool b9, .int .i64 n9, .slice A9 m9 c9]).alloc _) (by simp; omega) (HC.out.up (by have := Y1.out.lt; simp; omega) (by have := Y1.out.lt; exact ((Below.refl w2.heap.size w6).alloc (by omega) _).alloc (by simp; omega) _))) (row_one (Blk.new' (by simp) 33 #[.bool b, .int .i64 n, .slice A m c]) (by simp) (HV.out.up (by have := hb6.size; simp; omega) (below_2 hb6 _ _))) (by simp) (by unfold maxLen; omega) (by simp)).mono ?_); rintro e w7 ⟨rfl, b7⟩; go_must (have hb7 := below_hop b7 (below_2 hb6 _ _)))
    | (go_at_call 12; go_must (refine (law27_wakes _).mono ?_); rintro e w9 ⟨rfl, b9⟩))
  all_goals go_ret
  all_goals first | exact ⟨rfl, below_hop b9 hb7⟩ | exact ⟨rfl, below_hop b9 hb1⟩
theorem answers {H : Type} (enc : TypeId × Value → H) : Answers enc Try.prog 4 Try.f4 := by
  intro W base args ds ps hA hval hlt hwt
  rw [Try.params4] at hA hval
  obtain ⟨v0, vs0, d0, ds0, p0, q0, hargs, rfl, rfl, h0, r0⟩ := trodAll_cons hA
  obtain ⟨v1, vs1, d1, ds1, p1, q1, rfl, rfl, rfl, h1, r1⟩ := trodAll_cons r0
  obtain ⟨rfl, rfl, rfl⟩ := trodAll_nil r1
  obtain rfl : args = #[v0, v1] := by cases args; simp_all
  obtain ⟨x0, i0⟩ := open_val (B := W.heap.size) (hval 0 33 v0 rfl rfl) h0 (fun p hp => hlt p (by simp [hp]))
  obtain ⟨a1, rfl, rfl, rfl, w1⟩ := open_int Try.underlying3 (hval 1 3 v1 rfl rfl) h1
  exact walk W i0 a1 w1
theorem hspec {H : Type} (ds : List (DataW H)) (h : ds.length = (Try.f4).params.toList.length) : Rows.cellsPutsSpec.fn H ds = { results := [.lit (.bool true)], args := ds } := by
  rw [Try.params4] at h
  match ds, h with
  | [_, _], _ => rfl
theorem lifted (os : Os) (started : os.Started) (H : Type) (enc : TypeId × Value → H) : ReturnsInHanded {} Try.checked os 4 .any (Rows.cellsPutsSpec.pre6 enc Try.prog Try.f4 Rows.cellsPutsRow.domain false) (Rows.cellsPutsSpec.post enc Try.prog Try.f4 false true false false) :=
  lifted_of_walk (tb := 4) (by kernel_rfl) started (by kernel_rfl) Try.func4 rfl hspec rfl Try.underlying4 (by kernel_rfl) (by kernel_rfl)
    (ChangeSpec.witness6 (enc := enc) (C := Try.checked) false ⟨#[], #[.agg #[.bool false, .int .i64 0, .slice none 0 0], .int .i64 0], []⟩ 8 (by kernel_rfl) (by kernel_rfl) (by kernel_rfl) (by kernel_rfl)) (answers enc)
theorem over : Rows.cellsPutsRow.holds Try.pinned (OpenSpec.ofChange Rows.cellsPutsSpec) :=
  OpenClaim.holds_of_wide 4 Try.f4 rfl rfl rfl rfl rfl rfl rfl ⟨rfl, rfl, rfl, rfl, rfl⟩ rfl rfl rfl rfl rfl (by kernel_rfl) Try.func4 (by kernel_rfl)
    (of_decide_eq_true (by kernel_rfl)) (by unfold Func.isWrapper; first | (rw [if_pos (by decide +kernel)]; kernel_rfl) | (rw [if_neg (by decide +kernel)]; exact ⟨rfl, rfl⟩))
    (fun os started H enc _ => lifted os started H enc)
/-- THE STATEMENT. -/
theorem proved : Rows.CellsPutsSaid := over
#print axioms proved
end Go.Proofs.Ytgakmfcnddholaa.cellsPuts
