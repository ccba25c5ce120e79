/-
  THE LAW CellsBack: what was put at the first place is the value that it was; at another one it is as long, and its integers' words are the same.
-/
import Derived.Test.YtgakmfcnddholaaCBackP
import Derived.Test.YtgakmfcnddholaaCSame
import Derived.Test.YtgakmfcnddholaaCWake
import Derived.Test.YtgakmfcnddholaaCOpen
import Derived.BigQuiet
namespace Go.Proofs.Ytgakmfcnddholaa.cellsBack
open Go.ChangeShapes Go.WideShapes Go.ChangeAt Go.RowKit

theorem below_3 {W w : World} (h : Below W.heap.size W w) (o o2 o3 : Obj) : Below W.heap.size W (((w.alloc o).alloc o2).alloc o3) := ((below_2 h o o2).alloc (by have := h.size; simp; omega) o3)
theorem words_of {t : Tr} {x : Int} {l : List Int} {N : Nat} {wd e0 : Int} {w : World} {e : Ending} {w' : World} (h : wordsR t x = (l, wd, e0)) (hN : N = l.length) (hP : WordsP (wordsR t x) w e w') : ∃ A c, e = .returned (.tuple #[.slice A N c, .int .i64 wd, .int .i64 e0]) ∧ OwnI w' w.heap.size (.slice A N c) l ∧ Below w.heap.size w w' := by
  rw [h] at hP
  subst hN
  exact hP
theorem val_none {r : Option Tr} (h : r = none) {w : World} {e : Ending} {w' : World} (hP : ValP r w e w') : e = .returned (.tuple #[.agg #[.bool false, .int .i64 0, .slice none 0 0], .int .i64 270]) ∧ Below w.heap.size w w' := by
  subst h
  exact ⟨hP.2, hP.1⟩
theorem val_some {r : Option Tr} {t : Tr} (h : r = some t) {w : World} {e : Ending} {w' : World} (hP : ValP r w e w') : ∃ b n A m c, e = .returned (.tuple #[.agg #[.bool b, .int .i64 n, .slice A m c], .int .i64 0]) ∧ VAt w' w'.heap.size t (.agg #[.bool b, .int .i64 n, .slice A m c]) ∧ Below w.heap.size w w' := by
  subst h
  obtain ⟨hb, v, he, hv⟩ := hP
  obtain ⟨b, n, A, m, c, rfl⟩ := hv.agg
  exact ⟨b, n, A, m, c, he, hv.all, hb⟩
theorem same_lit (t : Tr) {w4 : World} {B2 : Nat} {b2 b4 : Bool} {n2 n4 : Int} {A2 A4 : Option Addr} {m2 c2 m4 c4 : Nat} (h2 : VAt w4 B2 t (.agg #[.bool b2, .int .i64 n2, .slice A2 m2 c2])) (h4 : VAt w4 w4.heap.size t (.agg #[.bool b4, .int .i64 n4, .slice A4 m4 c4])) (hB : B2 ≤ w4.heap.size) :
    Calls Try.prog 18 #[.slice (some ⟨w4.heap.size + 1, 0, none⟩) 1 1, .slice (some ⟨w4.heap.size + 1 + 1, 0, none⟩) 1 1] (((w4.alloc (.cells #[.bool b4, .int .i64 n4, .slice A4 m4 c4] 33)).alloc (.cells #[.bool b4, .int .i64 n4, .slice A4 m4 c4] 33)).alloc (.cells #[.bool b2, .int .i64 n2, .slice A2 m2 c2] 33))
      fun e w' => e = .returned (.bool true) ∧ Below (((w4.alloc (.cells #[.bool b4, .int .i64 n4, .slice A4 m4 c4] 33)).alloc (.cells #[.bool b4, .int .i64 n4, .slice A4 m4 c4] 33)).alloc (.cells #[.bool b2, .int .i64 n2, .slice A2 m2 c2] 33)).heap.size (((w4.alloc (.cells #[.bool b4, .int .i64 n4, .slice A4 m4 c4] 33)).alloc (.cells #[.bool b4, .int .i64 n4, .slice A4 m4 c4] 33)).alloc (.cells #[.bool b2, .int .i64 n2, .slice A2 m2 c2] 33)) w' := by
  have hbl := below_3 (Below.refl w4.heap.size w4) (.cells #[.bool b4, .int .i64 n4, .slice A4 m4 c4] 33) (.cells #[.bool b4, .int .i64 n4, .slice A4 m4 c4] 33) (.cells #[.bool b2, .int .i64 n2, .slice A2 m2 c2] 33)
  refine same_vals (nodesL [t] + 1) [t] (Nat.lt_succ_self _) _ (some ⟨w4.heap.size + 1, 0, none⟩) (some ⟨w4.heap.size + 1 + 1, 0, none⟩) 1 1 _ (Nat.le_refl _) (row_one ((Blk.new' (by simp) 33 #[.bool b4, .int .i64 n4, .slice A4 m4 c4]).alloc _) (by simp) (h4.up (by simp; omega) hbl)) (row_one (Blk.new' (by simp) 33 #[.bool b2, .int .i64 n2, .slice A2 m2 c2]) (by simp) (h2.up (by simp; omega) (hbl.mono hB))) (by simp) (by unfold maxLen; omega) (by simp)
theorem less_gk {j gk N : Nat} (h : j + gk = N) (h2 : j < N) : gk - 1 < gk := by omega
theorem num_next {j N : Nat} (h : j < N) (hN : N ≤ 262144) : Value.int IntKind.i64 (wrap64 ((j : Int) + 1)) = Value.int IntKind.i64 ((j + 1 : Nat) : Int) := by
  refine congrArg _ ?_
  unfold wrap64
  omega
theorem big_ok {t : Tr} (h : nodes t ≤ 3000) (p : Nat) (hp : p ≤ 262144) : (putT t p).2.2 ≤ 900000 := by
  have h1 := putT_nodes t p
  have h2 := putT_len t p
  omega
set_option maxHeartbeats 8000000 in
set_option maxRecDepth 100000 in
theorem walkA (w : World) {b : Bool} {n : Int} {A : Option Addr} {m c : Nat} {t : Tr} (HV : Hid (VAt w w.heap.size t (.agg #[.bool b, .int .i64 n, .slice A m c]))) (x e0 : Int) (HW : Hid (wordsR t 0 = ([], 0, e0))) (he : (e0 == 0) = false) :
    Calls Try.prog 7 #[.agg #[.bool b, .int .i64 n, .slice A m c], .int .i64 x] w fun e w' => e = .returned (.bool true) ∧ Below w.heap.size w w' := by
  have HN : Hid (0 = ([] : List Int).length) := hid rfl
  go_enter Try.func7, Try.ntmps7
  have P0 : Hid True := hid trivial
  go_wp2_with (first | (go_at_call 13; go_must (refine (law17_LargeVal w.heap.size t _ _ (by simp) (HV.out.up (Nat.le_refl _) (by go_grown : Below w.heap.size w _))).mono ?_); rintro e w1 ⟨⟨lb, rfl, hlb⟩, b1⟩; go_must (have hb1 := below_hop b1 (by go_grown : Below w.heap.size w _); have X1 := hid ((Blk.new w 33 #[.bool b, .int .i64 n, .slice A m c]).below b1 (by simp)); have x0 : w1.cell? ⟨w.heap.size, 0, none⟩ = some (.bool b) := X1.out.cell 0; have x1 : w1.cell? ⟨w.heap.size, 1, none⟩ = some (.int .i64 n) := X1.out.cell 1; have x2 : w1.cell? ⟨w.heap.size, 2, none⟩ = some (.slice A m c) := X1.out.cell 2)) | (go_at_call 14; have _ := P0; go_must (refine (ref17_CopyVal _ t (Nat.le_refl _) w.heap.size _ _ (hlb (by assumption)) hb1.size (HV.out.up (Nat.le_refl _) hb1)).mono ?_); rintro e w2 ⟨⟨v', rfl, hv'⟩, b2⟩; go_must (have hnod := hid (hlb (by assumption)); clear hlb P0; obtain ⟨b9, n9, A9, m9, c9, rfl⟩ := hv'.agg; have HC := hid hv'.all; have hb2 := below_hop b2 hb1; have h9 := hid (X1.out.below b2 X1.out.lt); clear X1 x0 x1 x2 b1 hv' b2; have X1 := hid h9.out; clear h9; have P1 : Hid True := hid trivial)) | (go_at_call 15; have _ := P1; go_must (refine (cells_Words w2.heap.size t _ 0 _ (Nat.le_refl _) HC.out (fun _ _ => big_ok hnod.out _ (by omega))).mono ?_); intro e w4 hP; obtain ⟨A4, c4, rfl, ho4, b4⟩ := words_of HW.out HN.out hP; go_must (have hb4 := below_hop b4 hb2; have h9 := hid (X1.out.below b4 X1.out.lt); clear X1 HC hP P1; have X1 := hid h9.out; clear h9 hb2; have I4 := hid ho4.ints; clear ho4 b4; have P2 : Hid True := hid trivial)) | (go_at_call 12; go_must (refine (law27_wakes _).mono ?_); rintro e w20 ⟨rfl, b20⟩))
  all_goals go_ret
  all_goals first | exact ⟨rfl, below_hop b20 hb4⟩ | exact ⟨rfl, below_hop b20 hb1⟩
set_option maxHeartbeats 8000000 in
set_option maxRecDepth 100000 in
theorem walkB1 (w : World) {b : Bool} {n : Int} {A : Option Addr} {m c N : Nat} {t : Tr} (HV : Hid (VAt w w.heap.size t (.agg #[.bool b, .int .i64 n, .slice A m c]))) (l : List Int) (x wd e2 : Int) (HW : Hid (wordsR t 0 = (l, wd, 0))) (HN : Hid (N = l.length)) (HR : Hid (valR l wd = none)) (WF : Hid ((Lit.int .i64 wd).wf = true)) (HL : Hid (N ≤ 262144)) (hl : ¬ ((N : Nat) : Int) < 1000)
    (HW2 : Hid (wordsR t x = ([], 0, e2))) (_he : (e2 == 0) = false) (hx : x < 0 ∨ ¬ x < 0 ∧ x > 262144 ∨ ¬ x < 0 ∧ ¬ x > 262144 ∧ x + (N : Nat) > 262144) :
    Calls Try.prog 7 #[.agg #[.bool b, .int .i64 n, .slice A m c], .int .i64 x] w fun e w' => e = .returned (.bool true) ∧ Below w.heap.size w w' := by
  have HN2 : Hid (0 = ([] : List Int).length) := hid rfl
  rcases hx with hx | ⟨hx, hx2⟩ | ⟨hx, hx2, hx3⟩
  rotate_left 2
  · have q : IntKind.i64.wrap (x + (N : Nat)) = x + (N : Nat) := IntWalk.i64_in _ (by have := HL.out; omega)
    go_enter Try.func7, Try.ntmps7
    have P0 : Hid True := hid trivial
    go_wp2_with (first | (go_at_call 13; go_must (refine (law17_LargeVal w.heap.size t _ _ (by simp) (HV.out.up (Nat.le_refl _) (by go_grown : Below w.heap.size w _))).mono ?_); rintro e w1 ⟨⟨lb, rfl, hlb⟩, b1⟩; go_must (have hb1 := below_hop b1 (by go_grown : Below w.heap.size w _); have X1 := hid ((Blk.new w 33 #[.bool b, .int .i64 n, .slice A m c]).below b1 (by simp)); have x0 : w1.cell? ⟨w.heap.size, 0, none⟩ = some (.bool b) := X1.out.cell 0; have x1 : w1.cell? ⟨w.heap.size, 1, none⟩ = some (.int .i64 n) := X1.out.cell 1; have x2 : w1.cell? ⟨w.heap.size, 2, none⟩ = some (.slice A m c) := X1.out.cell 2)) | (go_at_call 14; have _ := P0; go_must (refine (ref17_CopyVal _ t (Nat.le_refl _) w.heap.size _ _ (hlb (by assumption)) hb1.size (HV.out.up (Nat.le_refl _) hb1)).mono ?_); rintro e w2 ⟨⟨v', rfl, hv'⟩, b2⟩; go_must (have hnod := hid (hlb (by assumption)); clear hlb P0; obtain ⟨b9, n9, A9, m9, c9, rfl⟩ := hv'.agg; have HC := hid hv'.all; have hb2 := below_hop b2 hb1; have h9 := hid (X1.out.below b2 X1.out.lt); clear X1 x0 x1 x2 b1 hv' b2; have X1 := hid h9.out; clear h9; have P1 : Hid True := hid trivial)) | (go_at_call 15; have _ := P1; go_must (refine (cells_Words w2.heap.size t _ 0 _ (Nat.le_refl _) HC.out (fun _ _ => big_ok hnod.out _ (by omega))).mono ?_); intro e w4 hP; obtain ⟨A4, c4, rfl, ho4, b4⟩ := words_of HW.out HN.out hP; go_must (have hb4 := below_hop b4 hb2; have h9 := hid (X1.out.below b4 X1.out.lt); clear X1 HC hP P1; have X1 := hid h9.out; clear h9 hb2; have I4 := hid ho4.ints; clear ho4 b4; have P2 : Hid True := hid trivial)) | (go_at_call 27; have _ := P2; go_must (refine (cells_Val w4.heap.size A4 N c4 l wd w4 (Nat.le_refl _) I4.out (by have := HL.out; omega) WF.out).mono ?_); intro e w5 hP; obtain ⟨rfl, bb⟩ := val_none HR.out hP; go_must (have hb5 := below_hop bb hb4; have h9 := hid (X1.out.below bb X1.out.lt); have h8 := hid (I4.out.below bb bb.size); clear X1 I4 hP P2 hb4; have X1 := hid h9.out; have I4 := hid h8.out; clear h9 h8; have x0 : ∀ o, (w5.alloc o).cell? ⟨w.heap.size, 0, none⟩ = some (.bool b) := fun o => (X1.out.alloc o).cell 0; have x1 : ∀ o, (w5.alloc o).cell? ⟨w.heap.size, 1, none⟩ = some (.int .i64 n) := fun o => (X1.out.alloc o).cell 1; have x2 : ∀ o, (w5.alloc o).cell? ⟨w.heap.size, 2, none⟩ = some (.slice A m c) := fun o => (X1.out.alloc o).cell 2; have P3 : Hid True := hid trivial)) | (go_at_call 14; have _ := P3; go_must (refine (ref17_CopyVal _ t (Nat.le_refl _) w.heap.size _ _ hnod.out (hb5.alloc hb5.size _).size (HV.out.up (Nat.le_refl _) (hb5.alloc hb5.size _))).mono ?_); rintro e w8 ⟨⟨v', rfl, hv'⟩, b8⟩; go_must (obtain ⟨b10, n10, A10, m10, c10, rfl⟩ := hv'.agg; have HC := hid hv'.all; have hb8 := below_hop b8 (hb5.alloc hb5.size _); have hc8 := below_hop b8 ((Below.refl w5.heap.size w5).alloc (Nat.le_refl _) _); have h9 := hid (I4.out.below hc8 hc8.size); clear X1 x0 x1 x2 I4 hv' b8 hc8 P3; have I4 := hid h9.out; clear h9; have P4 : Hid True := hid trivial)) | (go_at_call 15; have _ := P4; go_must (refine (cells_Words w8.heap.size t _ x _ (Nat.le_refl _) HC.out (fun _ _ => big_ok hnod.out _ (by omega))).mono ?_); intro e w9 hP; obtain ⟨A11, c11, rfl, ho9, b9⟩ := words_of HW2.out HN2.out hP; go_must (have hb9 := below_hop b9 hb8; have h9 := hid (I4.out.below b9 b9.size); clear I4 HC hP P4 hb8; have I4 := hid h9.out; have I9 := hid ho9.ints; clear h9 ho9 b9; have P5 : Hid True := hid trivial)) | (go_at_call 12; go_must (refine (law27_wakes _).mono ?_); rintro e w20 ⟨rfl, b20⟩))
    all_goals go_ret
    all_goals first | exact ⟨rfl, below_hop b20 hb9⟩ | exact ⟨rfl, below_hop b20 hb1⟩
  all_goals
    go_enter Try.func7, Try.ntmps7
    have P0 : Hid True := hid trivial
    go_wp2_with (first | (go_at_call 13; go_must (refine (law17_LargeVal w.heap.size t _ _ (by simp) (HV.out.up (Nat.le_refl _) (by go_grown : Below w.heap.size w _))).mono ?_); rintro e w1 ⟨⟨lb, rfl, hlb⟩, b1⟩; go_must (have hb1 := below_hop b1 (by go_grown : Below w.heap.size w _); have X1 := hid ((Blk.new w 33 #[.bool b, .int .i64 n, .slice A m c]).below b1 (by simp)); have x0 : w1.cell? ⟨w.heap.size, 0, none⟩ = some (.bool b) := X1.out.cell 0; have x1 : w1.cell? ⟨w.heap.size, 1, none⟩ = some (.int .i64 n) := X1.out.cell 1; have x2 : w1.cell? ⟨w.heap.size, 2, none⟩ = some (.slice A m c) := X1.out.cell 2)) | (go_at_call 14; have _ := P0; go_must (refine (ref17_CopyVal _ t (Nat.le_refl _) w.heap.size _ _ (hlb (by assumption)) hb1.size (HV.out.up (Nat.le_refl _) hb1)).mono ?_); rintro e w2 ⟨⟨v', rfl, hv'⟩, b2⟩; go_must (have hnod := hid (hlb (by assumption)); clear hlb P0; obtain ⟨b9, n9, A9, m9, c9, rfl⟩ := hv'.agg; have HC := hid hv'.all; have hb2 := below_hop b2 hb1; have h9 := hid (X1.out.below b2 X1.out.lt); clear X1 x0 x1 x2 b1 hv' b2; have X1 := hid h9.out; clear h9; have P1 : Hid True := hid trivial)) | (go_at_call 15; have _ := P1; go_must (refine (cells_Words w2.heap.size t _ 0 _ (Nat.le_refl _) HC.out (fun _ _ => big_ok hnod.out _ (by omega))).mono ?_); intro e w4 hP; obtain ⟨A4, c4, rfl, ho4, b4⟩ := words_of HW.out HN.out hP; go_must (have hb4 := below_hop b4 hb2; have h9 := hid (X1.out.below b4 X1.out.lt); clear X1 HC hP P1; have X1 := hid h9.out; clear h9 hb2; have I4 := hid ho4.ints; clear ho4 b4; have P2 : Hid True := hid trivial)) | (go_at_call 27; have _ := P2; go_must (refine (cells_Val w4.heap.size A4 N c4 l wd w4 (Nat.le_refl _) I4.out (by have := HL.out; omega) WF.out).mono ?_); intro e w5 hP; obtain ⟨rfl, bb⟩ := val_none HR.out hP; go_must (have hb5 := below_hop bb hb4; have h9 := hid (X1.out.below bb X1.out.lt); have h8 := hid (I4.out.below bb bb.size); clear X1 I4 hP P2 hb4; have X1 := hid h9.out; have I4 := hid h8.out; clear h9 h8; have x0 : ∀ o, (w5.alloc o).cell? ⟨w.heap.size, 0, none⟩ = some (.bool b) := fun o => (X1.out.alloc o).cell 0; have x1 : ∀ o, (w5.alloc o).cell? ⟨w.heap.size, 1, none⟩ = some (.int .i64 n) := fun o => (X1.out.alloc o).cell 1; have x2 : ∀ o, (w5.alloc o).cell? ⟨w.heap.size, 2, none⟩ = some (.slice A m c) := fun o => (X1.out.alloc o).cell 2; have P3 : Hid True := hid trivial)) | (go_at_call 14; have _ := P3; go_must (refine (ref17_CopyVal _ t (Nat.le_refl _) w.heap.size _ _ hnod.out (hb5.alloc hb5.size _).size (HV.out.up (Nat.le_refl _) (hb5.alloc hb5.size _))).mono ?_); rintro e w8 ⟨⟨v', rfl, hv'⟩, b8⟩; go_must (obtain ⟨b10, n10, A10, m10, c10, rfl⟩ := hv'.agg; have HC := hid hv'.all; have hb8 := below_hop b8 (hb5.alloc hb5.size _); have hc8 := below_hop b8 ((Below.refl w5.heap.size w5).alloc (Nat.le_refl _) _); have h9 := hid (I4.out.below hc8 hc8.size); clear X1 x0 x1 x2 I4 hv' b8 hc8 P3; have I4 := hid h9.out; clear h9; have P4 : Hid True := hid trivial)) | (go_at_call 15; have _ := P4; go_must (refine (cells_Words w8.heap.size t _ x _ (Nat.le_refl _) HC.out (fun _ _ => big_ok hnod.out _ (by omega))).mono ?_); intro e w9 hP; obtain ⟨A11, c11, rfl, ho9, b9⟩ := words_of HW2.out HN2.out hP; go_must (have hb9 := below_hop b9 hb8; have h9 := hid (I4.out.below b9 b9.size); clear I4 HC hP P4 hb8; have I4 := hid h9.out; have I9 := hid ho9.ints; clear h9 ho9 b9; have P5 : Hid True := hid trivial)) | (go_at_call 12; go_must (refine (law27_wakes _).mono ?_); rintro e w20 ⟨rfl, b20⟩))
    all_goals go_ret
    all_goals first | exact ⟨rfl, below_hop b20 hb9⟩ | exact ⟨rfl, below_hop b20 hb1⟩
set_option maxHeartbeats 8000000 in
set_option maxRecDepth 100000 in
theorem walkC1 (w : World) {b : Bool} {n : Int} {A : Option Addr} {m c N : Nat} {t : Tr} (HV : Hid (VAt w w.heap.size t (.agg #[.bool b, .int .i64 n, .slice A m c]))) (l : List Int) (x wd e2 : Int) (HW : Hid (wordsR t 0 = (l, wd, 0))) (HN : Hid (N = l.length)) (HR : Hid (valR l wd = some t)) (WF : Hid ((Lit.int .i64 wd).wf = true)) (HL : Hid (N ≤ 262144))
    (HW2 : Hid (wordsR t x = ([], 0, e2))) (_he : (e2 == 0) = false) (hx : x < 0 ∨ ¬ x < 0 ∧ x > 262144 ∨ ¬ x < 0 ∧ ¬ x > 262144 ∧ x + (N : Nat) > 262144) :
    Calls Try.prog 7 #[.agg #[.bool b, .int .i64 n, .slice A m c], .int .i64 x] w fun e w' => e = .returned (.bool true) ∧ Below w.heap.size w w' := by
  have HN2 : Hid (0 = ([] : List Int).length) := hid rfl
  rcases hx with hx | ⟨hx, hx2⟩ | ⟨hx, hx2, hx3⟩
  rotate_left 2
  · have q : IntKind.i64.wrap (x + (N : Nat)) = x + (N : Nat) := IntWalk.i64_in _ (by have := HL.out; omega)
    go_enter Try.func7, Try.ntmps7
    have P0 : Hid True := hid trivial
    go_wp2_with (first | (go_at_call 13; go_must (refine (law17_LargeVal w.heap.size t _ _ (by simp) (HV.out.up (Nat.le_refl _) (by go_grown : Below w.heap.size w _))).mono ?_); rintro e w1 ⟨⟨lb, rfl, hlb⟩, b1⟩; go_must (have hb1 := below_hop b1 (by go_grown : Below w.heap.size w _); have X1 := hid ((Blk.new w 33 #[.bool b, .int .i64 n, .slice A m c]).below b1 (by simp)); have x0 : w1.cell? ⟨w.heap.size, 0, none⟩ = some (.bool b) := X1.out.cell 0; have x1 : w1.cell? ⟨w.heap.size, 1, none⟩ = some (.int .i64 n) := X1.out.cell 1; have x2 : w1.cell? ⟨w.heap.size, 2, none⟩ = some (.slice A m c) := X1.out.cell 2)) | (go_at_call 14; have _ := P0; go_must (refine (ref17_CopyVal _ t (Nat.le_refl _) w.heap.size _ _ (hlb (by assumption)) hb1.size (HV.out.up (Nat.le_refl _) hb1)).mono ?_); rintro e w2 ⟨⟨v', rfl, hv'⟩, b2⟩; go_must (have hnod := hid (hlb (by assumption)); clear hlb P0; obtain ⟨b9, n9, A9, m9, c9, rfl⟩ := hv'.agg; have HC := hid hv'.all; have hb2 := below_hop b2 hb1; have h9 := hid (X1.out.below b2 X1.out.lt); clear X1 x0 x1 x2 b1 hv' b2; have X1 := hid h9.out; clear h9; have P1 : Hid True := hid trivial)) | (go_at_call 15; have _ := P1; go_must (refine (cells_Words w2.heap.size t _ 0 _ (Nat.le_refl _) HC.out (fun _ _ => big_ok hnod.out _ (by omega))).mono ?_); intro e w4 hP; obtain ⟨A4, c4, rfl, ho4, b4⟩ := words_of HW.out HN.out hP; go_must (have hb4 := below_hop b4 hb2; have h9 := hid (X1.out.below b4 X1.out.lt); clear X1 HC hP P1; have X1 := hid h9.out; clear h9 hb2; have I4 := hid ho4.ints; clear ho4 b4; have P2 : Hid True := hid trivial)) | (go_at_call 27; have _ := P2; go_must (refine (cells_Val w4.heap.size A4 N c4 l wd w4 (Nat.le_refl _) I4.out (by have := HL.out; omega) WF.out).mono ?_); intro e w5 hP; obtain ⟨b5, n5, A5, m5, c5, rfl, hv5, bb⟩ := val_some HR.out hP; go_must (have hb5 := below_hop bb hb4; have V5 := hid hv5; have h9 := hid (X1.out.below bb X1.out.lt); have h8 := hid (I4.out.below bb bb.size); clear X1 I4 hP P2 hb4 hv5; have X1 := hid h9.out; have I4 := hid h8.out; clear h9 h8; have x0 : ∀ o o', ((w5.alloc o).alloc o').cell? ⟨w.heap.size, 0, none⟩ = some (.bool b) := fun o o' => ((X1.out.alloc o).alloc o').cell 0; have x1 : ∀ o o', ((w5.alloc o).alloc o').cell? ⟨w.heap.size, 1, none⟩ = some (.int .i64 n) := fun o o' => ((X1.out.alloc o).alloc o').cell 1; have x2 : ∀ o o', ((w5.alloc o).alloc o').cell? ⟨w.heap.size, 2, none⟩ = some (.slice A m c) := fun o o' => ((X1.out.alloc o).alloc o').cell 2; have z0 : (w5.alloc (.cells #[.bool b5, .int .i64 n5, .slice A5 m5 c5] 33)).cell? ⟨w5.heap.size, 0, none⟩ = some (.bool b5) := (Blk.new w5 33 #[.bool b5, .int .i64 n5, .slice A5 m5 c5]).cell 0; have z1 : (w5.alloc (.cells #[.bool b5, .int .i64 n5, .slice A5 m5 c5] 33)).cell? ⟨w5.heap.size, 1, none⟩ = some (.int .i64 n5) := (Blk.new w5 33 #[.bool b5, .int .i64 n5, .slice A5 m5 c5]).cell 1; have z2 : (w5.alloc (.cells #[.bool b5, .int .i64 n5, .slice A5 m5 c5] 33)).cell? ⟨w5.heap.size, 2, none⟩ = some (.slice A5 m5 c5) := (Blk.new w5 33 #[.bool b5, .int .i64 n5, .slice A5 m5 c5]).cell 2; have P3 : Hid True := hid trivial)) | (go_at_call 18; have _ := P3; go_must (refine (same_lit t (HV.out.up (Nat.le_refl _) hb5) V5.out hb5.size).mono ?_); rintro e w7 ⟨rfl, b7⟩; go_must (have hb7 := below_hop b7 (below_3 hb5 _ _ _); have hc7 := below_hop b7 (below_3 (Below.refl w5.heap.size w5) _ _ _); have h9 := hid (X1.out.below hc7 X1.out.lt); clear X1 x0 x1 x2 z0 z1 z2 b7 V5; have X1 := hid h9.out; clear h9; have x0 : w7.cell? ⟨w.heap.size, 0, none⟩ = some (.bool b) := X1.out.cell 0; have x1 : w7.cell? ⟨w.heap.size, 1, none⟩ = some (.int .i64 n) := X1.out.cell 1; have x2 : w7.cell? ⟨w.heap.size, 2, none⟩ = some (.slice A m c) := X1.out.cell 2)) | (go_at_call 14; have _ := P3; go_must (refine (ref17_CopyVal _ t (Nat.le_refl _) w.heap.size _ _ hnod.out (hb7).size (HV.out.up (Nat.le_refl _) (hb7))).mono ?_); rintro e w8 ⟨⟨v', rfl, hv'⟩, b8⟩; go_must (obtain ⟨b10, n10, A10, m10, c10, rfl⟩ := hv'.agg; have HC := hid hv'.all; have hb8 := below_hop b8 (hb7); have hc8 := below_hop b8 (hc7); have h9 := hid (I4.out.below hc8 hc8.size); clear X1 x0 x1 x2 I4 hv' b8 hc8 P3; have I4 := hid h9.out; clear h9; have P4 : Hid True := hid trivial)) | (go_at_call 15; have _ := P4; go_must (refine (cells_Words w8.heap.size t _ x _ (Nat.le_refl _) HC.out (fun _ _ => big_ok hnod.out _ (by omega))).mono ?_); intro e w9 hP; obtain ⟨A11, c11, rfl, ho9, b9⟩ := words_of HW2.out HN2.out hP; go_must (have hb9 := below_hop b9 hb8; have h9 := hid (I4.out.below b9 b9.size); clear I4 HC hP P4 hb8; have I4 := hid h9.out; have I9 := hid ho9.ints; clear h9 ho9 b9; have P5 : Hid True := hid trivial)) | (go_at_call 12; go_must (refine (law27_wakes _).mono ?_); rintro e w20 ⟨rfl, b20⟩))
    all_goals go_ret
    all_goals first | exact ⟨rfl, below_hop b20 hb9⟩ | exact ⟨rfl, below_hop b20 hb1⟩
  all_goals
    go_enter Try.func7, Try.ntmps7
    have P0 : Hid True := hid trivial
    go_wp2_with (first | (go_at_call 13; go_must (refine (law17_LargeVal w.heap.size t _ _ (by simp) (HV.out.up (Nat.le_refl _) (by go_grown : Below w.heap.size w _))).mono ?_); rintro e w1 ⟨⟨lb, rfl, hlb⟩, b1⟩; go_must (have hb1 := below_hop b1 (by go_grown : Below w.heap.size w _); have X1 := hid ((Blk.new w 33 #[.bool b, .int .i64 n, .slice A m c]).below b1 (by simp)); have x0 : w1.cell? ⟨w.heap.size, 0, none⟩ = some (.bool b) := X1.out.cell 0; have x1 : w1.cell? ⟨w.heap.size, 1, none⟩ = some (.int .i64 n) := X1.out.cell 1; have x2 : w1.cell? ⟨w.heap.size, 2, none⟩ = some (.slice A m c) := X1.out.cell 2)) | (go_at_call 14; have _ := P0; go_must (refine (ref17_CopyVal _ t (Nat.le_refl _) w.heap.size _ _ (hlb (by assumption)) hb1.size (HV.out.up (Nat.le_refl _) hb1)).mono ?_); rintro e w2 ⟨⟨v', rfl, hv'⟩, b2⟩; go_must (have hnod := hid (hlb (by assumption)); clear hlb P0; obtain ⟨b9, n9, A9, m9, c9, rfl⟩ := hv'.agg; have HC := hid hv'.all; have hb2 := below_hop b2 hb1; have h9 := hid (X1.out.below b2 X1.out.lt); clear X1 x0 x1 x2 b1 hv' b2; have X1 := hid h9.out; clear h9; have P1 : Hid True := hid trivial)) | (go_at_call 15; have _ := P1; go_must (refine (cells_Words w2.heap.size t _ 0 _ (Nat.le_refl _) HC.out (fun _ _ => big_ok hnod.out _ (by omega))).mono ?_); intro e w4 hP; obtain ⟨A4, c4, rfl, ho4, b4⟩ := words_of HW.out HN.out hP; go_must (have hb4 := below_hop b4 hb2; have h9 := hid (X1.out.below b4 X1.out.lt); clear X1 HC hP P1; have X1 := hid h9.out; clear h9 hb2; have I4 := hid ho4.ints; clear ho4 b4; have P2 : Hid True := hid trivial)) | (go_at_call 27; have _ := P2; go_must (refine (cells_Val w4.heap.size A4 N c4 l wd w4 (Nat.le_refl _) I4.out (by have := HL.out; omega) WF.out).mono ?_); intro e w5 hP; obtain ⟨b5, n5, A5, m5, c5, rfl, hv5, bb⟩ := val_some HR.out hP; go_must (have hb5 := below_hop bb hb4; have V5 := hid hv5; have h9 := hid (X1.out.below bb X1.out.lt); have h8 := hid (I4.out.below bb bb.size); clear X1 I4 hP P2 hb4 hv5; have X1 := hid h9.out; have I4 := hid h8.out; clear h9 h8; have x0 : ∀ o o', ((w5.alloc o).alloc o').cell? ⟨w.heap.size, 0, none⟩ = some (.bool b) := fun o o' => ((X1.out.alloc o).alloc o').cell 0; have x1 : ∀ o o', ((w5.alloc o).alloc o').cell? ⟨w.heap.size, 1, none⟩ = some (.int .i64 n) := fun o o' => ((X1.out.alloc o).alloc o').cell 1; have x2 : ∀ o o', ((w5.alloc o).alloc o').cell? ⟨w.heap.size, 2, none⟩ = some (.slice A m c) := fun o o' => ((X1.out.alloc o).alloc o').cell 2; have z0 : (w5.alloc (.cells #[.bool b5, .int .i64 n5, .slice A5 m5 c5] 33)).cell? ⟨w5.heap.size, 0, none⟩ = some (.bool b5) := (Blk.new w5 33 #[.bool b5, .int .i64 n5, .slice A5 m5 c5]).cell 0; have z1 : (w5.alloc (.cells #[.bool b5, .int .i64 n5, .slice A5 m5 c5] 33)).cell? ⟨w5.heap.size, 1, none⟩ = some (.int .i64 n5) := (Blk.new w5 33 #[.bool b5, .int .i64 n5, .slice A5 m5 c5]).cell 1; have z2 : (w5.alloc (.cells #[.bool b5, .int .i64 n5, .slice A5 m5 c5] 33)).cell? ⟨w5.heap.size, 2, none⟩ = some (.slice A5 m5 c5) := (Blk.new w5 33 #[.bool b5, .int .i64 n5, .slice A5 m5 c5]).cell 2; have P3 : Hid True := hid trivial)) | (go_at_call 18; have _ := P3; go_must (refine (same_lit t (HV.out.up (Nat.le_refl _) hb5) V5.out hb5.size).mono ?_); rintro e w7 ⟨rfl, b7⟩; go_must (have hb7 := below_hop b7 (below_3 hb5 _ _ _); have hc7 := below_hop b7 (below_3 (Below.refl w5.heap.size w5) _ _ _); have h9 := hid (X1.out.below hc7 X1.out.lt); clear X1 x0 x1 x2 z0 z1 z2 b7 V5; have X1 := hid h9.out; clear h9; have x0 : w7.cell? ⟨w.heap.size, 0, none⟩ = some (.bool b) := X1.out.cell 0; have x1 : w7.cell? ⟨w.heap.size, 1, none⟩ = some (.int .i64 n) := X1.out.cell 1; have x2 : w7.cell? ⟨w.heap.size, 2, none⟩ = some (.slice A m c) := X1.out.cell 2)) | (go_at_call 14; have _ := P3; go_must (refine (ref17_CopyVal _ t (Nat.le_refl _) w.heap.size _ _ hnod.out (hb7).size (HV.out.up (Nat.le_refl _) (hb7))).mono ?_); rintro e w8 ⟨⟨v', rfl, hv'⟩, b8⟩; go_must (obtain ⟨b10, n10, A10, m10, c10, rfl⟩ := hv'.agg; have HC := hid hv'.all; have hb8 := below_hop b8 (hb7); have hc8 := below_hop b8 (hc7); have h9 := hid (I4.out.below hc8 hc8.size); clear X1 x0 x1 x2 I4 hv' b8 hc8 P3; have I4 := hid h9.out; clear h9; have P4 : Hid True := hid trivial)) | (go_at_call 15; have _ := P4; go_must (refine (cells_Words w8.heap.size t _ x _ (Nat.le_refl _) HC.out (fun _ _ => big_ok hnod.out _ (by omega))).mono ?_); intro e w9 hP; obtain ⟨A11, c11, rfl, ho9, b9⟩ := words_of HW2.out HN2.out hP; go_must (have hb9 := below_hop b9 hb8; have h9 := hid (I4.out.below b9 b9.size); clear I4 HC hP P4 hb8; have I4 := hid h9.out; have I9 := hid ho9.ints; clear h9 ho9 b9; have P5 : Hid True := hid trivial)) | (go_at_call 12; go_must (refine (law27_wakes _).mono ?_); rintro e w20 ⟨rfl, b20⟩))
    all_goals go_ret
    all_goals first | exact ⟨rfl, below_hop b20 hb9⟩ | exact ⟨rfl, below_hop b20 hb1⟩
set_option maxHeartbeats 8000000 in
set_option maxRecDepth 100000 in
theorem walkB0 (w : World) {b : Bool} {n : Int} {A : Option Addr} {m c N a : Nat} {t : Tr} (HV : Hid (VAt w w.heap.size t (.agg #[.bool b, .int .i64 n, .slice A m c]))) (l kk : List Int) (x wd wk : Int) (HW : Hid (wordsR t 0 = (l, wd, 0))) (HN : Hid (N = l.length)) (HR : Hid (valR l wd = none)) (WF : Hid ((Lit.int .i64 wd).wf = true)) (HL : Hid (N ≤ 262144)) (hl : ¬ ((N : Nat) : Int) < 1000)
    (HW2 : Hid (wordsR t x = (kk, wk, 0))) (HN2 : Hid (N = kk.length)) (hx : x = (a : Int)) (hx2 : a ≤ 262144) (HQ : Hid (∀ i, i < N → gw kk i = mv a (gw l i))) (HNN : Hid (∀ i, i < N → 0 ≤ gw l i)) :
    Calls Try.prog 7 #[.agg #[.bool b, .int .i64 n, .slice A m c], .int .i64 x] w fun e w' => e = .returned (.bool true) ∧ Below w.heap.size w w' := by
  have hx3 : ¬ x < 0 := by omega
  have hx4 : ¬ x > 262144 := by omega
  have hx7 : x ≤ 262144 := by omega
  have HX := hid (And.intro hx hx2)
  clear hx hx2
  go_enter Try.func7, Try.ntmps7
  have P0 : Hid True := hid trivial
  go_wp2_with (first | (go_at_call 13; go_must (refine (law17_LargeVal w.heap.size t _ _ (by simp) (HV.out.up (Nat.le_refl _) (by go_grown : Below w.heap.size w _))).mono ?_); rintro e w1 ⟨⟨lb, rfl, hlb⟩, b1⟩; go_must (have hb1 := below_hop b1 (by go_grown : Below w.heap.size w _); have X1 := hid ((Blk.new w 33 #[.bool b, .int .i64 n, .slice A m c]).below b1 (by simp)); have x0 : w1.cell? ⟨w.heap.size, 0, none⟩ = some (.bool b) := X1.out.cell 0; have x1 : w1.cell? ⟨w.heap.size, 1, none⟩ = some (.int .i64 n) := X1.out.cell 1; have x2 : w1.cell? ⟨w.heap.size, 2, none⟩ = some (.slice A m c) := X1.out.cell 2)) | (go_at_call 14; have _ := P0; go_must (refine (ref17_CopyVal _ t (Nat.le_refl _) w.heap.size _ _ (hlb (by assumption)) hb1.size (HV.out.up (Nat.le_refl _) hb1)).mono ?_); rintro e w2 ⟨⟨v', rfl, hv'⟩, b2⟩; go_must (have hnod := hid (hlb (by assumption)); clear hlb P0; obtain ⟨b9, n9, A9, m9, c9, rfl⟩ := hv'.agg; have HC := hid hv'.all; have hb2 := below_hop b2 hb1; have h9 := hid (X1.out.below b2 X1.out.lt); clear X1 x0 x1 x2 b1 hv' b2; have X1 := hid h9.out; clear h9; have P1 : Hid True := hid trivial)) | (go_at_call 15; have _ := P1; go_must (refine (cells_Words w2.heap.size t _ 0 _ (Nat.le_refl _) HC.out (fun _ _ => big_ok hnod.out _ (by omega))).mono ?_); intro e w4 hP; obtain ⟨A4, c4, rfl, ho4, b4⟩ := words_of HW.out HN.out hP; go_must (have hb4 := below_hop b4 hb2; have h9 := hid (X1.out.below b4 X1.out.lt); clear X1 HC hP P1; have X1 := hid h9.out; clear h9 hb2; have I4 := hid ho4.ints; clear ho4 b4; have P2 : Hid True := hid trivial)) | (go_at_call 27; have _ := P2; go_must (refine (cells_Val w4.heap.size A4 N c4 l wd w4 (Nat.le_refl _) I4.out (by have := HL.out; omega) WF.out).mono ?_); intro e w5 hP; obtain ⟨rfl, bb⟩ := val_none HR.out hP; go_must (have hb5 := below_hop bb hb4; have h9 := hid (X1.out.below bb X1.out.lt); have h8 := hid (I4.out.below bb bb.size); clear X1 I4 hP P2 hb4; have X1 := hid h9.out; have I4 := hid h8.out; clear h9 h8; have x0 : ∀ o, (w5.alloc o).cell? ⟨w.heap.size, 0, none⟩ = some (.bool b) := fun o => (X1.out.alloc o).cell 0; have x1 : ∀ o, (w5.alloc o).cell? ⟨w.heap.size, 1, none⟩ = some (.int .i64 n) := fun o => (X1.out.alloc o).cell 1; have x2 : ∀ o, (w5.alloc o).cell? ⟨w.heap.size, 2, none⟩ = some (.slice A m c) := fun o => (X1.out.alloc o).cell 2; have P3 : Hid True := hid trivial)) | (go_at_call 14; have _ := P3; go_must (refine (ref17_CopyVal _ t (Nat.le_refl _) w.heap.size _ _ hnod.out (hb5.alloc hb5.size _).size (HV.out.up (Nat.le_refl _) (hb5.alloc hb5.size _))).mono ?_); rintro e w8 ⟨⟨v', rfl, hv'⟩, b8⟩; go_must (obtain ⟨b10, n10, A10, m10, c10, rfl⟩ := hv'.agg; have HC := hid hv'.all; have hb8 := below_hop b8 (hb5.alloc hb5.size _); have hc8 := below_hop b8 ((Below.refl w5.heap.size w5).alloc (Nat.le_refl _) _); have h9 := hid (I4.out.below hc8 hc8.size); clear X1 x0 x1 x2 I4 hv' b8 hc8 P3; have I4 := hid h9.out; clear h9; have P4 : Hid True := hid trivial)) | (go_at_call 15; have _ := P4; go_must (refine (cells_Words w8.heap.size t _ x _ (Nat.le_refl _) HC.out (fun _ _ => big_ok hnod.out _ (by omega))).mono ?_); intro e w9 hP; obtain ⟨A11, c11, rfl, ho9, b9⟩ := words_of HW2.out HN2.out hP; go_must (have hb9 := below_hop b9 hb8; have h9 := hid (I4.out.below b9 b9.size); clear I4 HC hP P4 hb8; have I4 := hid h9.out; have I9 := hid ho9.ints; clear h9 ho9 b9; have P5 : Hid True := hid trivial)) | (go_at_call 12; go_must (refine (law27_wakes _).mono ?_); rintro e w20 ⟨rfl, b20⟩))
  · go_ret
    exact ⟨rfl, below_hop b20 hb1⟩
  go_loopg [13] N (fun gk xi wr => ∃ j : Nat, j + gk = N ∧ xi = .int .i64 j ∧ Hid (Ints wr wr.heap.size A4 N c4 l) ∧ Hid (Ints wr wr.heap.size A11 N c11 kk) ∧ Hid (Below w.heap.size w wr))
  case atStart => exact ⟨0, by omega, rfl, I4, I9, hid hb9⟩
  case round =>
    clear I4 I9 hb9
    obtain ⟨j, hj, rfl, I4, I9, HB⟩ := hrel
    have Hj := hid hj
    by_cases hlt : j < N
    · obtain ⟨ad4, rfl⟩ := I4.out.some_ hlt
      obtain ⟨ad9, rfl⟩ := I9.out.some_ hlt
      have q1 := I4.out.cell hlt
      have q2 := I9.out.cell hlt
      have hr0 := HNN.out j hlt
      have hq := HQ.out j hlt
      have hwf := I9.out.wf_at hlt
      have hmod : (gw l j).tmod 2 = gw l j % 2 := Int.tmod_eq_emod_of_nonneg hr0
      clear hj
      have hpar : gw l j % 2 = 1 ∨ gw l j % 2 = 0 := by omega
      rcases hpar with hp | hp
      · have hx4 : ((gw l j).tmod 2 == 1) = true := by rw [hmod, hp]; rfl
        have hx5 : ((gw l j).tmod 2 == 0) = false := by rw [hmod, hp]; rfl
        rw [show gw kk j = gw l j from by rw [hq]; unfold mv; rw [if_pos hp]] at q2
        generalize gw l j = r at q1 q2 hx4 hx5
        clear hq hmod hp hr0 hwf
        go_wp2
        go_quiet (fail)
        all_goals go_wp2
        all_goals
          go_roundg (gk - 1)
          case rel => exact ⟨j + 1, by have := Hj.out; omega, num_next hlt HL.out, hid (I4.out.keep (Nat.le_refl _) (fun _ _ => rfl)), hid (I9.out.keep (Nat.le_refl _) (fun _ _ => rfl)), hid (below_drewN HB.out _)⟩
          case measure => exact less_gk Hj.out hlt
      · have hx4 : ((gw l j).tmod 2 == 1) = false := by rw [hmod, hp]; rfl
        have hx5 : ((gw l j).tmod 2 == 0) = true := by rw [hmod, hp]; rfl
        have e9 : gw kk j = gw l j + 4 * x := by rw [hq, HX.out.1]; unfold mv; rw [if_neg (by omega)]
        rw [e9] at q2 hwf
        have q6 : IntKind.i64.wrap (4 * x) = 4 * x := IntWalk.i64_in _ (by omega)
        have q7 : IntKind.i64.wrap (gw l j + 4 * x) = gw l j + 4 * x := IntWalk.i64_in _ (by simp [Lit.wf, IntKind.min, IntKind.max, IntKind.signed, IntKind.bits] at hwf; omega)
        generalize gw l j = r at q1 q2 hx4 hx5 q7
        clear hq hmod hp hr0 hwf e9
        go_wp2
        go_quiet (fail)
        all_goals go_wp2
        all_goals
          go_roundg (gk - 1)
          case rel => exact ⟨j + 1, by have := Hj.out; omega, num_next hlt HL.out, hid (I4.out.keep (Nat.le_refl _) (fun _ _ => rfl)), hid (I9.out.keep (Nat.le_refl _) (fun _ _ => rfl)), hid (below_drewN HB.out _)⟩
          case measure => exact less_gk Hj.out hlt
    · obtain rfl : j = N := by omega
      clear hj hlt
      go_wp2_with (go_at_call 12; go_must (refine (law27_wakes _).mono ?_); rintro e w20 ⟨rfl, b20⟩)
      go_ret
      exact ⟨rfl, below_hop b20 HB.out⟩
set_option maxHeartbeats 8000000 in
set_option maxRecDepth 100000 in
theorem walkC0 (w : World) {b : Bool} {n : Int} {A : Option Addr} {m c N a : Nat} {t : Tr} (HV : Hid (VAt w w.heap.size t (.agg #[.bool b, .int .i64 n, .slice A m c]))) (l kk : List Int) (x wd wk : Int) (HW : Hid (wordsR t 0 = (l, wd, 0))) (HN : Hid (N = l.length)) (HR : Hid (valR l wd = some t)) (WF : Hid ((Lit.int .i64 wd).wf = true)) (HL : Hid (N ≤ 262144))
    (HW2 : Hid (wordsR t x = (kk, wk, 0))) (HN2 : Hid (N = kk.length)) (hx : x = (a : Int)) (hx2 : a ≤ 262144) (HQ : Hid (∀ i, i < N → gw kk i = mv a (gw l i))) (HNN : Hid (∀ i, i < N → 0 ≤ gw l i)) :
    Calls Try.prog 7 #[.agg #[.bool b, .int .i64 n, .slice A m c], .int .i64 x] w fun e w' => e = .returned (.bool true) ∧ Below w.heap.size w w' := by
  have hx3 : ¬ x < 0 := by omega
  have hx4 : ¬ x > 262144 := by omega
  have hx7 : x ≤ 262144 := by omega
  have HX := hid (And.intro hx hx2)
  clear hx hx2
  go_enter Try.func7, Try.ntmps7
  have P0 : Hid True := hid trivial
  go_wp2_with (first | (go_at_call 13; go_must (refine (law17_LargeVal w.heap.size t _ _ (by simp) (HV.out.up (Nat.le_refl _) (by go_grown : Below w.heap.size w _))).mono ?_); rintro e w1 ⟨⟨lb, rfl, hlb⟩, b1⟩; go_must (have hb1 := below_hop b1 (by go_grown : Below w.heap.size w _); have X1 := hid ((Blk.new w 33 #[.bool b, .int .i64 n, .slice A m c]).below b1 (by simp)); have x0 : w1.cell? ⟨w.heap.size, 0, none⟩ = some (.bool b) := X1.out.cell 0; have x1 : w1.cell? ⟨w.heap.size, 1, none⟩ = some (.int .i64 n) := X1.out.cell 1; have x2 : w1.cell? ⟨w.heap.size, 2, none⟩ = some (.slice A m c) := X1.out.cell 2)) | (go_at_call 14; have _ := P0; go_must (refine (ref17_CopyVal _ t (Nat.le_refl _) w.heap.size _ _ (hlb (by assumption)) hb1.size (HV.out.up (Nat.le_refl _) hb1)).mono ?_); rintro e w2 ⟨⟨v', rfl, hv'⟩, b2⟩; go_must (have hnod := hid (hlb (by assumption)); clear hlb P0; obtain ⟨b9, n9, A9, m9, c9, rfl⟩ := hv'.agg; have HC := hid hv'.all; have hb2 := below_hop b2 hb1; have h9 := hid (X1.out.below b2 X1.out.lt); clear X1 x0 x1 x2 b1 hv' b2; have X1 := hid h9.out; clear h9; have P1 : Hid True := hid trivial)) | (go_at_call 15; have _ := P1; go_must (refine (cells_Words w2.heap.size t _ 0 _ (Nat.le_refl _) HC.out (fun _ _ => big_ok hnod.out _ (by omega))).mono ?_); intro e w4 hP; obtain ⟨A4, c4, rfl, ho4, b4⟩ := words_of HW.out HN.out hP; go_must (have hb4 := below_hop b4 hb2; have h9 := hid (X1.out.below b4 X1.out.lt); clear X1 HC hP P1; have X1 := hid h9.out; clear h9 hb2; have I4 := hid ho4.ints; clear ho4 b4; have P2 : Hid True := hid trivial)) | (go_at_call 27; have _ := P2; go_must (refine (cells_Val w4.heap.size A4 N c4 l wd w4 (Nat.le_refl _) I4.out (by have := HL.out; omega) WF.out).mono ?_); intro e w5 hP; obtain ⟨b5, n5, A5, m5, c5, rfl, hv5, bb⟩ := val_some HR.out hP; go_must (have hb5 := below_hop bb hb4; have V5 := hid hv5; have h9 := hid (X1.out.below bb X1.out.lt); have h8 := hid (I4.out.below bb bb.size); clear X1 I4 hP P2 hb4 hv5; have X1 := hid h9.out; have I4 := hid h8.out; clear h9 h8; have x0 : ∀ o o', ((w5.alloc o).alloc o').cell? ⟨w.heap.size, 0, none⟩ = some (.bool b) := fun o o' => ((X1.out.alloc o).alloc o').cell 0; have x1 : ∀ o o', ((w5.alloc o).alloc o').cell? ⟨w.heap.size, 1, none⟩ = some (.int .i64 n) := fun o o' => ((X1.out.alloc o).alloc o').cell 1; have x2 : ∀ o o', ((w5.alloc o).alloc o').cell? ⟨w.heap.size, 2, none⟩ = some (.slice A m c) := fun o o' => ((X1.out.alloc o).alloc o').cell 2; have z0 : (w5.alloc (.cells #[.bool b5, .int .i64 n5, .slice A5 m5 c5] 33)).cell? ⟨w5.heap.size, 0, none⟩ = some (.bool b5) := (Blk.new w5 33 #[.bool b5, .int .i64 n5, .slice A5 m5 c5]).cell 0; have z1 : (w5.alloc (.cells #[.bool b5, .int .i64 n5, .slice A5 m5 c5] 33)).cell? ⟨w5.heap.size, 1, none⟩ = some (.int .i64 n5) := (Blk.new w5 33 #[.bool b5, .int .i64 n5, .slice A5 m5 c5]).cell 1; have z2 : (w5.alloc (.cells #[.bool b5, .int .i64 n5, .slice A5 m5 c5] 33)).cell? ⟨w5.heap.size, 2, none⟩ = some (.slice A5 m5 c5) := (Blk.new w5 33 #[.bool b5, .int .i64 n5, .slice A5 m5 c5]).cell 2; have P3 : Hid True := hid trivial)) | (go_at_call 18; have _ := P3; go_must (refine (same_lit t (HV.out.up (Nat.le_refl _) hb5) V5.out hb5.size).mono ?_); rintro e w7 ⟨rfl, b7⟩; go_must (have hb7 := below_hop b7 (below_3 hb5 _ _ _); have hc7 := below_hop b7 (below_3 (Below.refl w5.heap.size w5) _ _ _); have h9 := hid (X1.out.below hc7 X1.out.lt); clear X1 x0 x1 x2 z0 z1 z2 b7 V5; have X1 := hid h9.out; clear h9; have x0 : w7.cell? ⟨w.heap.size, 0, none⟩ = some (.bool b) := X1.out.cell 0; have x1 : w7.cell? ⟨w.heap.size, 1, none⟩ = some (.int .i64 n) := X1.out.cell 1; have x2 : w7.cell? ⟨w.heap.size, 2, none⟩ = some (.slice A m c) := X1.out.cell 2)) | (go_at_call 14; have _ := P3; go_must (refine (ref17_CopyVal _ t (Nat.le_refl _) w.heap.size _ _ hnod.out (hb7).size (HV.out.up (Nat.le_refl _) (hb7))).mono ?_); rintro e w8 ⟨⟨v', rfl, hv'⟩, b8⟩; go_must (obtain ⟨b10, n10, A10, m10, c10, rfl⟩ := hv'.agg; have HC := hid hv'.all; have hb8 := below_hop b8 (hb7); have hc8 := below_hop b8 (hc7); have h9 := hid (I4.out.below hc8 hc8.size); clear X1 x0 x1 x2 I4 hv' b8 hc8 P3; have I4 := hid h9.out; clear h9; have P4 : Hid True := hid trivial)) | (go_at_call 15; have _ := P4; go_must (refine (cells_Words w8.heap.size t _ x _ (Nat.le_refl _) HC.out (fun _ _ => big_ok hnod.out _ (by omega))).mono ?_); intro e w9 hP; obtain ⟨A11, c11, rfl, ho9, b9⟩ := words_of HW2.out HN2.out hP; go_must (have hb9 := below_hop b9 hb8; have h9 := hid (I4.out.below b9 b9.size); clear I4 HC hP P4 hb8; have I4 := hid h9.out; have I9 := hid ho9.ints; clear h9 ho9 b9; have P5 : Hid True := hid trivial)) | (go_at_call 12; go_must (refine (law27_wakes _).mono ?_); rintro e w20 ⟨rfl, b20⟩))
  · go_ret
    exact ⟨rfl, below_hop b20 hb1⟩
  go_loopg [13] N (fun gk xi wr => ∃ j : Nat, j + gk = N ∧ xi = .int .i64 j ∧ Hid (Ints wr wr.heap.size A4 N c4 l) ∧ Hid (Ints wr wr.heap.size A11 N c11 kk) ∧ Hid (Below w.heap.size w wr))
  case atStart => exact ⟨0, by omega, rfl, I4, I9, hid hb9⟩
  case round =>
    clear I4 I9 hb9
    obtain ⟨j, hj, rfl, I4, I9, HB⟩ := hrel
    have Hj := hid hj
    by_cases hlt : j < N
    · obtain ⟨ad4, rfl⟩ := I4.out.some_ hlt
      obtain ⟨ad9, rfl⟩ := I9.out.some_ hlt
      have q1 := I4.out.cell hlt
      have q2 := I9.out.cell hlt
      have hr0 := HNN.out j hlt
      have hq := HQ.out j hlt
      have hwf := I9.out.wf_at hlt
      have hmod : (gw l j).tmod 2 = gw l j % 2 := Int.tmod_eq_emod_of_nonneg hr0
      clear hj
      have hpar : gw l j % 2 = 1 ∨ gw l j % 2 = 0 := by omega
      rcases hpar with hp | hp
      · have hx4 : ((gw l j).tmod 2 == 1) = true := by rw [hmod, hp]; rfl
        have hx5 : ((gw l j).tmod 2 == 0) = false := by rw [hmod, hp]; rfl
        rw [show gw kk j = gw l j from by rw [hq]; unfold mv; rw [if_pos hp]] at q2
        generalize gw l j = r at q1 q2 hx4 hx5
        clear hq hmod hp hr0 hwf
        go_wp2
        go_quiet (fail)
        all_goals go_wp2
        all_goals
          go_roundg (gk - 1)
          case rel => exact ⟨j + 1, by have := Hj.out; omega, num_next hlt HL.out, hid (I4.out.keep (Nat.le_refl _) (fun _ _ => rfl)), hid (I9.out.keep (Nat.le_refl _) (fun _ _ => rfl)), hid (below_drewN HB.out _)⟩
          case measure => exact less_gk Hj.out hlt
      · have hx4 : ((gw l j).tmod 2 == 1) = false := by rw [hmod, hp]; rfl
        have hx5 : ((gw l j).tmod 2 == 0) = true := by rw [hmod, hp]; rfl
        have e9 : gw kk j = gw l j + 4 * x := by rw [hq, HX.out.1]; unfold mv; rw [if_neg (by omega)]
        rw [e9] at q2 hwf
        have q6 : IntKind.i64.wrap (4 * x) = 4 * x := IntWalk.i64_in _ (by omega)
        have q7 : IntKind.i64.wrap (gw l j + 4 * x) = gw l j + 4 * x := IntWalk.i64_in _ (by simp [Lit.wf, IntKind.min, IntKind.max, IntKind.signed, IntKind.bits] at hwf; omega)
        generalize gw l j = r at q1 q2 hx4 hx5 q7
        clear hq hmod hp hr0 hwf e9
        go_wp2
        go_quiet (fail)
        all_goals go_wp2
        all_goals
          go_roundg (gk - 1)
          case rel => exact ⟨j + 1, by have := Hj.out; omega, num_next hlt HL.out, hid (I4.out.keep (Nat.le_refl _) (fun _ _ => rfl)), hid (I9.out.keep (Nat.le_refl _) (fun _ _ => rfl)), hid (below_drewN HB.out _)⟩
          case measure => exact less_gk Hj.out hlt
    · obtain rfl : j = N := by omega
      clear hj hlt
      go_wp2_with (go_at_call 12; go_must (refine (law27_wakes _).mono ?_); rintro e w20 ⟨rfl, b20⟩)
      go_ret
      exact ⟨rfl, below_hop b20 HB.out⟩
theorem wd_wf {t : Tr} (hm : mayB t 1 = true) (hp : (putT t 0).2.2 ≤ 262144) : (Lit.int .i64 (putT t 0).2.1).wf = true := by
  have h0 := (putT_nn t 0 1 hm).2
  have h1 : (putT t 0).2.1 ≤ 8589934592 := by
    obtain ⟨b, n, us⟩ := t
    cases b with
    | true => rw [putT_int]; have := intW_odd n; dsimp only; omega
    | false => rw [putT_node] at hp ⊢; dsimp only at hp ⊢; omega
  generalize (putT t 0).2.1 = y at h0 h1
  simp [Lit.wf, IntKind.min, IntKind.max, IntKind.signed, IntKind.bits]
  omega
theorem gw_map {f : Int → Int} {l : List Int} {i : Nat} (h : i < l.length) : gw (l.map f) i = f (gw l i) := by
  simp [gw, List.getD, List.getElem?_eq_getElem h]
theorem walk (w : World) {v : Value} {t : Tr} (hv : VAt w w.heap.size t v) (x : Int) (_wx : (Lit.int .i64 x).wf = true) : Calls Try.prog 7 #[v, .int .i64 x] w fun e w' => e = .returned (.bool true) ∧ Below w.heap.size w w' := by
  have hv0 := hv
  obtain ⟨b, n, us⟩ := t
  obtain ⟨A, c, rfl, _⟩ := hv.parts
  have HV := hid hv0
  clear hv hv0
  obtain ⟨t, ht⟩ : ∃ t, t = Tr.mk b n us := ⟨_, rfl⟩
  rw [← ht] at HV
  generalize us.length = m at HV
  clear ht
  by_cases hm : mayB t 1 = false
  · exact walkA w HV x 270 (hid (by unfold wordsR; rw [if_neg (by omega), if_pos hm])) rfl
  by_cases hp : 262144 < (putT t 0).2.2
  · exact walkA w HV x 3 (hid (by unfold wordsR; rw [if_neg (by omega), if_neg hm, show Int.toNat 0 = 0 from rfl, if_pos hp])) rfl
  have hmt : mayB t 1 = true := by simpa using hm
  have hp' : (putT t 0).2.2 ≤ 262144 := by omega
  have hl := putT_len t 0
  have HW : Hid (wordsR t 0 = ((putT t 0).1, (putT t 0).2.1, 0)) := hid (by unfold wordsR; rw [if_neg (by omega), if_neg hm, show Int.toNat 0 = 0 from rfl, if_neg hp])
  have WF := hid (wd_wf hmt hp')
  have hN : (putT t 0).1.length ≤ 262144 := by omega
  have hnn := (putT_nn t 0 1 hmt).1
  have hr := valR_put hmt hp'
  have hnw := nodes_words t 0 1 hmt
  by_cases hx : x < 0 ∨ 262144 < x
  · have HW2 : Hid (wordsR t x = ([], 0, 1)) := hid (by unfold wordsR; rw [if_pos hx])
    have hx' : x < 0 ∨ ¬ x < 0 ∧ x > 262144 ∨ ¬ x < 0 ∧ ¬ x > 262144 ∧ x + ((putT t 0).1.length : Nat) > 262144 := by omega
    by_cases h : 2048 < nodes t
    · rw [if_pos h] at hr
      exact walkB1 w HV (putT t 0).1 x (putT t 0).2.1 1 HW (hid rfl) (hid hr) WF (hid hN) (by omega) HW2 rfl hx'
    · rw [if_neg h] at hr
      exact walkC1 w HV (putT t 0).1 x (putT t 0).2.1 1 HW (hid rfl) (hid hr) WF (hid hN) HW2 rfl hx'
  obtain ⟨a, rfl⟩ : ∃ a : Nat, x = (a : Int) := ⟨x.toNat, by omega⟩
  obtain ⟨e1, e2, e3⟩ := putT_mv a t 0
  rw [Nat.zero_add] at e1 e2 e3
  by_cases h3 : 262144 < (putT t a).2.2
  · have HW2 : Hid (wordsR t (a : Int) = ([], 0, 3)) := hid (by unfold wordsR; rw [if_neg hx, if_neg hm, if_pos (by simpa using h3)])
    have hx' : (a : Int) < 0 ∨ ¬ (a : Int) < 0 ∧ (a : Int) > 262144 ∨ ¬ (a : Int) < 0 ∧ ¬ (a : Int) > 262144 ∧ (a : Int) + ((putT t 0).1.length : Nat) > 262144 := by omega
    by_cases h : 2048 < nodes t
    · rw [if_pos h] at hr
      exact walkB1 w HV (putT t 0).1 a (putT t 0).2.1 3 HW (hid rfl) (hid hr) WF (hid hN) (by omega) HW2 rfl hx'
    · rw [if_neg h] at hr
      exact walkC1 w HV (putT t 0).1 a (putT t 0).2.1 3 HW (hid rfl) (hid hr) WF (hid hN) HW2 rfl hx'
  have HW2 : Hid (wordsR t (a : Int) = ((putT t a).1, (putT t a).2.1, 0)) := hid (by unfold wordsR; rw [if_neg hx, if_neg hm, if_neg (by simpa using h3)]; simp)
  have HN2 : Hid ((putT t 0).1.length = (putT t a).1.length) := hid (by rw [e1]; simp)
  have HQ : Hid (∀ i, i < (putT t 0).1.length → gw (putT t a).1 i = mv a (gw (putT t 0).1 i)) := hid (fun i hi => by rw [e1, gw_map hi])
  have HNN : Hid (∀ i, i < (putT t 0).1.length → 0 ≤ gw (putT t 0).1 i) := hid (fun i hi => hnn _ (gw_mem hi))
  by_cases h : 2048 < nodes t
  · rw [if_pos h] at hr
    exact walkB0 w HV (putT t 0).1 (putT t a).1 a (putT t 0).2.1 (putT t a).2.1 HW (hid rfl) (hid hr) WF (hid hN) (by omega) HW2 HN2 rfl (by omega) HQ HNN
  · rw [if_neg h] at hr
    exact walkC0 w HV (putT t 0).1 (putT t a).1 a (putT t 0).2.1 (putT t a).2.1 HW (hid rfl) (hid hr) WF (hid hN) HW2 HN2 rfl (by omega) HQ HNN
theorem answers {H : Type} (enc : TypeId × Value → H) : Answers enc Try.prog 7 Try.f7 := by
  intro W base args ds ps hA hval hlt hwt
  rw [Try.params7] at hA hval
  obtain ⟨v0, vs0, d0, ds0, p0, q0, hargs, rfl, rfl, h0, r0⟩ := trodAll_cons hA
  obtain ⟨v1, vs1, d1, ds1, p1, q1, rfl, rfl, rfl, h1, r1⟩ := trodAll_cons r0
  obtain ⟨rfl, rfl, rfl⟩ := trodAll_nil r1
  obtain rfl : args = #[v0, v1] := by cases args; simp_all
  obtain ⟨x0, i0⟩ := open_val (B := W.heap.size) (hval 0 33 v0 rfl rfl) h0 (fun p hp => hlt p (by simp [hp]))
  obtain ⟨a1, rfl, rfl, rfl, w1⟩ := open_int Try.underlying3 (hval 1 3 v1 rfl rfl) h1
  exact walk W i0 a1 w1
theorem hspec {H : Type} (ds : List (DataW H)) (h : ds.length = (Try.f7).params.toList.length) : Rows.cellsBackSpec.fn H ds = { results := [.lit (.bool true)], args := ds } := by
  rw [Try.params7] at h
  match ds, h with
  | [_, _], _ => rfl
theorem lifted (os : Os) (started : os.Started) (H : Type) (enc : TypeId × Value → H) : ReturnsInHanded {} Try.checked os 7 .any (Rows.cellsBackSpec.pre6 enc Try.prog Try.f7 Rows.cellsBackRow.domain false) (Rows.cellsBackSpec.post enc Try.prog Try.f7 false true false false) :=
  lifted_of_walk (tb := 4) (by kernel_rfl) started (by kernel_rfl) Try.func7 rfl hspec rfl Try.underlying4 (by kernel_rfl) (by kernel_rfl)
    (ChangeSpec.witness6 (enc := enc) (C := Try.checked) false ⟨#[], #[.agg #[.bool false, .int .i64 0, .slice none 0 0], .int .i64 0], []⟩ 8 (by kernel_rfl) (by kernel_rfl) (by kernel_rfl) (by kernel_rfl)) (answers enc)
theorem over : Rows.cellsBackRow.holds Try.pinned (OpenSpec.ofChange Rows.cellsBackSpec) :=
  OpenClaim.holds_of_wide 7 Try.f7 rfl rfl rfl rfl rfl rfl rfl ⟨rfl, rfl, rfl, rfl, rfl⟩ rfl rfl rfl rfl rfl (by kernel_rfl) Try.func7 (by kernel_rfl)
    (of_decide_eq_true (by kernel_rfl)) (by unfold Func.isWrapper; first | (rw [if_pos (by decide +kernel)]; kernel_rfl) | (rw [if_neg (by decide +kernel)]; exact ⟨rfl, rfl⟩))
    (fun os started H enc _ => lifted os started H enc)
/-- THE STATEMENT. -/
theorem proved : Rows.CellsBackSaid := over
#print axioms proved
end Go.Proofs.Ytgakmfcnddholaa.cellsBack
