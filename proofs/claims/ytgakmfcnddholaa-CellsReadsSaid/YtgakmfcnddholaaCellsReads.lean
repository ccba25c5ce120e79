/-
  THE LAW CellsReads: the value of any word among any words is the document's.
-/
import Derived.Test.YtgakmfcnddholaaCRValA
import Derived.Test.YtgakmfcnddholaaCSame
import Derived.Test.YtgakmfcnddholaaCWake
import Derived.Test.YtgakmfcnddholaaCOpen
namespace Go.Proofs.Ytgakmfcnddholaa.cellsReads
open Go.ChangeShapes Go.WideShapes Go.ChangeAt Go.RowKit

def errV (r : Option Tr) : Int := match r with
  | some _ => 0
  | none => 270
def treeV (r : Option Tr) : Tr := match r with
  | some t => t
  | none => .mk false 0 []
theorem uni {r : Option Tr} {w : World} {e : Ending} {w' : World} (h : ValP r w e w') : ∃ b n A m c, e = .returned (.tuple #[.agg #[.bool b, .int .i64 n, .slice A m c], .int .i64 (errV r)]) ∧ VAt w' w'.heap.size (treeV r) (.agg #[.bool b, .int .i64 n, .slice A m c]) ∧ Below w.heap.size w w' := by
  obtain ⟨hb, h⟩ := h
  cases r with
  | none =>
    refine ⟨false, 0, none, 0, 0, h, ?_, hb⟩
    unfold treeV
    rw [VAt]
    exact ⟨⟨none, 0, rfl, by simp, by unfold maxLen; simp, by simp, by rw [RowV]; trivial⟩, by decide⟩
  | some t =>
    obtain ⟨v, he, hv⟩ := h
    obtain ⟨b, n, A, m, c, rfl⟩ := hv.agg
    exact ⟨b, n, A, m, c, he, hv.all, hb⟩
theorem below_3 {W w : World} (h : Below W.heap.size W w) (o o2 o3 : Obj) : Below W.heap.size W (((w.alloc o).alloc o2).alloc o3) := ((below_2 h o o2).alloc (by have := h.size; simp; omega) o3)
theorem same_lit (t : Tr) {w4 : World} {B2 : Nat} {b2 b4 : Bool} {n2 n4 : Int} {A2 A4 : Option Addr} {m2 c2 m4 c4 : Nat} (h2 : VAt w4 B2 t (.agg #[.bool b2, .int .i64 n2, .slice A2 m2 c2])) (h4 : VAt w4 w4.heap.size t (.agg #[.bool b4, .int .i64 n4, .slice A4 m4 c4])) (hB : B2 ≤ w4.heap.size) :
    Calls Try.prog 18 #[.slice (some ⟨w4.heap.size + 1, 0, none⟩) 1 1, .slice (some ⟨w4.heap.size + 1 + 1, 0, none⟩) 1 1] (((w4.alloc (.cells #[.bool b4, .int .i64 n4, .slice A4 m4 c4] 33)).alloc (.cells #[.bool b2, .int .i64 n2, .slice A2 m2 c2] 33)).alloc (.cells #[.bool b4, .int .i64 n4, .slice A4 m4 c4] 33))
      fun e w' => e = .returned (.bool true) ∧ Below (((w4.alloc (.cells #[.bool b4, .int .i64 n4, .slice A4 m4 c4] 33)).alloc (.cells #[.bool b2, .int .i64 n2, .slice A2 m2 c2] 33)).alloc (.cells #[.bool b4, .int .i64 n4, .slice A4 m4 c4] 33)).heap.size (((w4.alloc (.cells #[.bool b4, .int .i64 n4, .slice A4 m4 c4] 33)).alloc (.cells #[.bool b2, .int .i64 n2, .slice A2 m2 c2] 33)).alloc (.cells #[.bool b4, .int .i64 n4, .slice A4 m4 c4] 33)) w' := by
  have hbl := below_3 (Below.refl w4.heap.size w4) (.cells #[.bool b4, .int .i64 n4, .slice A4 m4 c4] 33) (.cells #[.bool b2, .int .i64 n2, .slice A2 m2 c2] 33) (.cells #[.bool b4, .int .i64 n4, .slice A4 m4 c4] 33)
  refine same_vals (nodesL [t] + 1) [t] (Nat.lt_succ_self _) _ (some ⟨w4.heap.size + 1, 0, none⟩) (some ⟨w4.heap.size + 1 + 1, 0, none⟩) 1 1 _ (Nat.le_refl _) (row_one ((Blk.new' (by simp) 33 #[.bool b2, .int .i64 n2, .slice A2 m2 c2]).alloc _) (by simp) (h2.up (by simp; omega) (hbl.mono hB))) (row_one (Blk.new' (by simp) 33 #[.bool b4, .int .i64 n4, .slice A4 m4 c4]) (by simp) (h4.up (by simp; omega) hbl)) (by simp) (by unfold maxLen; omega) (by simp)
set_option maxHeartbeats 8000000 in
set_option maxRecDepth 100000 in
theorem walk (w : World) {v : Value} {ws : List Int} (hv : IsInts w w.heap.size v ws) (x : Int) (wx : (Lit.int .i64 x).wf = true) : Calls Try.prog 6 #[v, .int .i64 x] w fun e w' => e = .returned (.bool true) ∧ Below w.heap.size w w' := by
  obtain ⟨A, n, c, rfl, hi⟩ := hv
  have W := hid wx
  have HI := hid hi
  clear hi wx
  by_cases hn : (n : Int) > 20000
  · go_enter Try.func6, Try.ntmps6
    go_wp2_with (go_at_call 12; go_must (refine (law27_wakes _).mono ?_); rintro e w9 ⟨rfl, b9⟩)
    go_ret
    exact ⟨rfl, b9⟩
  · obtain ⟨r, hr⟩ : ∃ r, r = valR ws x := ⟨_, rfl⟩
    have HR := hid hr
    clear hr
    go_enter Try.func6, Try.ntmps6
    go_wp2_with (first
      | (at_builtin; go_must (refine wpList_appI (by rfl) _ _ (by rfl) w.heap.size (by rfl) (OwnI.lit0 rfl (Nat.le_refl _)) (by rfl) (HI.out.below ((Below.refl _ w).alloc (Nat.le_refl _) _) (Nat.le_refl _)) (by simp; omega) (by simp) ?_); intro A1 c1 w1 ho hg hbb; go_must (simp only [List.nil_append, List.length_nil, Nat.zero_add] at ho ⊢; have hb1 := hid (hbb w.heap.size w (Nat.le_refl _) ((Below.refl _ w).alloc (Nat.le_refl _) _)); have I1 := hid ho.ints; clear ho hg hbb))
      | (go_at_call 27; go_must (refine (cells_Val w1.heap.size A1 n c1 ws x w1 (Nat.le_refl _) I1.out (by omega) W.out).mono ?_); rw [← HR.out]; intro e w2 hP; obtain ⟨b2, n2, A2, m2, c2, rfl, hv2, bb⟩ := uni hP; go_must (have hb2 := hid (below_hop bb hb1.out); have V2 := hid hv2; clear hP hv2 bb I1))
      | (go_at_call 28; go_must (refine (ref27_Val w.heap.size A n c ws x _ (by have := hb2.out.size; simp; omega) (HI.out.below (hb2.out.alloc hb2.out.size _) (Nat.le_refl _)) (by omega) W.out).mono ?_); rw [← HR.out]; intro e w4 hP; obtain ⟨b4, n4, A4, m4, c4, rfl, hv4, bb⟩ := uni hP; go_must (have hb4 := hid (below_hop bb (hb2.out.alloc hb2.out.size _)); have Y := hid ((Blk.new w2 33 #[.bool b2, .int .i64 n2, .slice A2 m2 c2]).below bb (by simp)); have V2' := hid (V2.out.up (Nat.le_refl _) (below_hop bb ((Below.refl w2.heap.size w2).alloc (Nat.le_refl _) _))); have V4 := hid hv4; clear hP hv4 bb V2; have y0 : ∀ o, (w4.alloc o).cell? ⟨w2.heap.size, 0, none⟩ = some (.bool b2) := fun o => (Y.out.alloc o).cell 0; have y1 : ∀ o, (w4.alloc o).cell? ⟨w2.heap.size, 1, none⟩ = some (.int .i64 n2) := fun o => (Y.out.alloc o).cell 1; have y2 : ∀ o, (w4.alloc o).cell? ⟨w2.heap.size, 2, none⟩ = some (.slice A2 m2 c2) := fun o => (Y.out.alloc o).cell 2; have z0 : ∀ o, ((w4.alloc (.cells #[.bool b4, .int .i64 n4, .slice A4 m4 c4] 33)).alloc o).cell? ⟨w4.heap.size, 0, none⟩ = some (.bool b4) := fun o => ((Blk.new w4 33 #[.bool b4, .int .i64 n4, .slice A4 m4 c4]).alloc o).cell 0; have z1 : ∀ o, ((w4.alloc (.cells #[.bool b4, .int .i64 n4, .slice A4 m4 c4] 33)).alloc o).cell? ⟨w4.heap.size, 1, none⟩ = some (.int .i64 n4) := fun o => ((Blk.new w4 33 #[.bool b4, .int .i64 n4, .slice A4 m4 c4]).alloc o).cell 1; have z2 : ∀ o, ((w4.alloc (.cells #[.bool b4, .int .i64 n4, .slice A4 m4 c4] 33)).alloc o).cell? ⟨w4.heap.size, 2, none⟩ = some (.slice A4 m4 c4) := fun o => ((Blk.new w4 33 #[.bool b4, .int .i64 n4, .slice A4 m4 c4]).alloc o).cell 2))
      | (go_at_call 18; go_must (refine (same_lit (treeV r) V2'.out V4.out (by have := Y.out.lt; omega)).mono ?_); rintro e w7 ⟨rfl, b7⟩; go_must (have hb7 := below_hop b7 (below_3 hb4.out _ _ _)))
      | (go_at_call 12; go_must (refine (law27_wakes _).mono ?_); rintro e w9 ⟨rfl, b9⟩))
    go_ret
    exact ⟨rfl, below_hop b9 hb7⟩
theorem answers {H : Type} (enc : TypeId × Value → H) : Answers enc Try.prog 6 Try.f6 := by
  intro W base args ds ps hA hval hlt hwt
  rw [Try.params6] at hA hval
  obtain ⟨v0, vs0, d0, ds0, p0, q0, hargs, rfl, rfl, h0, r0⟩ := trodAll_cons hA
  obtain ⟨v1, vs1, d1, ds1, p1, q1, rfl, rfl, rfl, h1, r1⟩ := trodAll_cons r0
  obtain ⟨rfl, rfl, rfl⟩ := trodAll_nil r1
  obtain rfl : args = #[v0, v1] := by cases args; simp_all
  obtain ⟨x0, i0⟩ := open_isInts (hval 0 36 v0 rfl rfl) h0 (fun p hp => hlt p (by simp [hp]))
  obtain ⟨a1, rfl, rfl, rfl, w1⟩ := open_int Try.underlying3 (hval 1 3 v1 rfl rfl) h1
  exact walk W i0 a1 w1
theorem hspec {H : Type} (ds : List (DataW H)) (h : ds.length = (Try.f6).params.toList.length) : Rows.cellsReadsSpec.fn H ds = { results := [.lit (.bool true)], args := ds } := by
  rw [Try.params6] at h
  match ds, h with
  | [_, _], _ => rfl
theorem lifted (os : Os) (started : os.Started) (H : Type) (enc : TypeId × Value → H) : ReturnsInHanded {} Try.checked os 6 .any (Rows.cellsReadsSpec.pre6 enc Try.prog Try.f6 Rows.cellsReadsRow.domain false) (Rows.cellsReadsSpec.post enc Try.prog Try.f6 false true false false) :=
  lifted_of_walk (tb := 4) (by kernel_rfl) started (by kernel_rfl) Try.func6 rfl hspec rfl Try.underlying4 (by kernel_rfl) (by kernel_rfl)
    (ChangeSpec.witness6 (enc := enc) (C := Try.checked) false ⟨#[], #[.slice none 0 0, .int .i64 0], []⟩ 8 (by kernel_rfl) (by kernel_rfl) (by kernel_rfl) (by kernel_rfl)) (answers enc)
theorem over : Rows.cellsReadsRow.holds Try.pinned (OpenSpec.ofChange Rows.cellsReadsSpec) :=
  OpenClaim.holds_of_wide 6 Try.f6 rfl rfl rfl rfl rfl rfl rfl ⟨rfl, rfl, rfl, rfl, rfl⟩ rfl rfl rfl rfl rfl (by kernel_rfl) Try.func6 (by kernel_rfl)
    (of_decide_eq_true (by kernel_rfl)) (by unfold Func.isWrapper; first | (rw [if_pos (by decide +kernel)]; kernel_rfl) | (rw [if_neg (by decide +kernel)]; exact ⟨rfl, rfl⟩))
    (fun os started H enc _ => lifted os started H enc)
/-- THE STATEMENT. -/
theorem proved : Rows.CellsReadsSaid := over
#print axioms proved
end Go.Proofs.Ytgakmfcnddholaa.cellsReads
