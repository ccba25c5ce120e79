/-
  THE WALK OF typ.First.
-/
import Derived.Test.YtnlifgcnmhakiaaTFirstW
namespace Go.Proofs.Ytnlifgcnmhakiaa
open Go.ChangeShapes Go.WideShapes Go.ChangeAt Go.RowKit

theorem typ_first (ds : List Dc) (S : Nat → Prop) (B : Nat) (hlim : Lim ds) (hsd : ∀ d ∈ ds, ShortD d) : ∀ N, FirC ds S B N := by
  intro N
  induction N with
  | zero => intro t f k v lv w hN; cases t; simp at hN
  | succ N ih => exact fi_node ds S B N hlim hsd ih
set_option maxHeartbeats 4000000 in
set_option maxRecDepth 100000 in
theorem typ_First (ds : List Dc) (S : Nat → Prop) (hlim : Lim ds) (hsd : ∀ d ∈ ds, ShortD d) (t : Ty) (hsh : Short t) (v lv : Value) (w : World) (hS : ∀ b, S b → b < w.heap.size) (hd : DcsAt w S ds lv) (hv : TAt w S t v) : Calls Try.prog 26 #[lv, v] w (FirstP ds t w) := by
  have HV := hid hv
  have HD := hid hd
  obtain ⟨q, s, k, A, m, c, rfl⟩ := hv.agg
  obtain ⟨AD, cD, rfl, _⟩ := hd
  have HL := hid (And.intro hlim (And.intro hsd (And.intro hsh hS)))
  have hmm := @run_makeMap Try.prog
  clear hv hlim hsd hsh hS
  obtain ⟨n, hn⟩ : ∃ n, n = sizeT t := ⟨_, rfl⟩
  have HNN := hid hn
  clear hn
  by_cases h9 : n ≤ 1024
  · have H9 := hid h9
    have HNO := hid (show nodes t ≤ 1024 by have := HNN.out; unfold sizeT at this; omega)
    go_enter Try.func26, Try.ntmps26
    go_wp2_with (first
      | (go_at_call 22; go_must (refine (typ_Size t _ S _ (HV.out.up (by go_grown : Below w.heap.size w _))).mono ?_); rw [← HNN.out]; rintro e w1 ⟨rfl, b1⟩; go_must (have b2 := hid (below_then (B := w.heap.size) b1 (by go_grown : Below w.heap.size w _) (by simp)); have X1 := hid ((Blk.new w 34 #[.int .i64 q, .string s, .int .i64 k, .slice A m c]).below b1 (by simp)); have x0 : ∀ o, (w1.alloc o).cell? ⟨w.heap.size, 0, none⟩ = some (.int .i64 q) := (fun o => (X1.out.alloc o).cell 0); have x1 : ∀ o, (w1.alloc o).cell? ⟨w.heap.size, 1, none⟩ = some (.string s) := (fun o => (X1.out.alloc o).cell 1); have x2 : ∀ o, (w1.alloc o).cell? ⟨w.heap.size, 2, none⟩ = some (.int .i64 k) := (fun o => (X1.out.alloc o).cell 2); have x3 : ∀ o, (w1.alloc o).cell? ⟨w.heap.size, 3, none⟩ = some (.slice A m c) := (fun o => (X1.out.alloc o).cell 3); have y0 := X1.out.cell 0; have y1 := X1.out.cell 1; have y2 := X1.out.cell 2; have y3 := X1.out.cell 3; clear b1))
      | (go_at_call 47; go_must (have hB0 := ((Below.refl w1.heap.size w1).alloc (Nat.le_refl _) (.map #[] 0)); refine (typ_first ds S w1.heap.size HL.out.1 HL.out.2.1 _ t (fun _ => 0) 0 _ _ _ (Nat.le_refl _) HL.out.2.2.1 ⟨(HD.out.up b2.out).up hB0, fun h => (by have h1 := HL.out.2.2.2 _ h; have h2 := b2.out.size; omega), fun b hb => (by have h1 := HL.out.2.2.2 _ hb; have h2 := b2.out.size; have h3 := hB0.size; omega)⟩ ((HV.out.up b2.out).up hB0) ⟨MapAt.made w1, fun _ => .inl rfl⟩ (by have := HNO.out; omega)).mono ?_); rintro e w2 ⟨b, f2, hans, hb, _, hk⟩; go_must (obtain rfl : e = .returned (.bool b) := hans; have F := hid (And.intro hb (below_hop (call_below ((Below.refl w1.heap.size w1).alloc (Nat.le_refl _) (.map #[] 0)) hk (Nat.le_refl _)) b2.out)); clear hb hk)))
    go_ret
    refine ⟨⟨b, by first | rfl | (simp; done), ?_⟩, F.out.2⟩
    rw [F.out.1]
    exact ⟨fun h => ⟨by rw [← HNN.out]; exact H9.out, h⟩, fun h => h.2⟩
  · have H9 := hid h9
    go_enter Try.func26, Try.ntmps26
    go_wp2_with (go_at_call 22; go_must (refine (typ_Size t _ S _ (HV.out.up (by go_grown : Below w.heap.size w _))).mono ?_); rw [← HNN.out]; rintro e w1 ⟨rfl, b1⟩; go_must (have b2 := hid (below_then (B := w.heap.size) b1 (by go_grown : Below w.heap.size w _) (by simp)); clear b1))
    go_ret
    refine ⟨⟨false, by first | rfl | (simp; done), fun h => (by cases h), fun h => absurd (by rw [HNN.out]; exact h.1) H9.out⟩, b2.out⟩
/-- What First tells, as one Bool. -/
noncomputable def firstB (ds : List Dc) (t : Ty) : Bool := @decide (sizeT t ≤ 1024 ∧ isFirst ds t) (Classical.propDecidable _)
theorem FirstP.eq {ds : List Dc} {t : Ty} {w w' : World} {e : Ending} (h : FirstP ds t w e w') : e = .returned (.bool (firstB ds t)) ∧ Below w.heap.size w w' := by
  obtain ⟨⟨b, rfl, hb⟩, h2⟩ := h
  refine ⟨?_, h2⟩
  have : b = firstB ds t := by
    unfold firstB
    rw [Bool.eq_iff_iff, hb]
    simp
  rw [this]
end Go.Proofs.Ytnlifgcnmhakiaa
