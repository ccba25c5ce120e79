/-
  THE WALKS OF eval.want, number AND prim.
-/
import Derived.Test.YtohdaclbgedeiaaEVal
import Derived.Test.YtohdaclbgedeiaaEInts
namespace Go.Proofs.Ytohdaclbgedeiaa
set_option linter.all false
open Go.ChangeShapes Go.WideShapes Go.ChangeAt Go.RowKit
open Ev (Co Va En Out)

theorem as_int_num (n : Int) (w : World) : (Instr.typeAssert (.iface 86 (.int .i64 n)) 91 86 true).run Try.prog w = .ok (.tuple #[.int .i64 n, .bool true]) w := by kernel_rfl
theorem as_int_con (p : Option Addr) (w : World) : (Instr.typeAssert (.iface 79 (.pointer p)) 91 86 true).run Try.prog w = .ok (.tuple #[.int .i64 0, .bool false]) w := by kernel_rfl
theorem as_int_fun (p : Option Addr) (w : World) : (Instr.typeAssert (.iface 103 (.pointer p)) 91 86 true).run Try.prog w = .ok (.tuple #[.int .i64 0, .bool false]) w := by kernel_rfl
theorem as_con_num (n : Int) (w : World) : (Instr.typeAssert (.iface 86 (.int .i64 n)) 91 79 true).run Try.prog w = .ok (.tuple #[.pointer none, .bool false]) w := by kernel_rfl
theorem as_con_con (p : Option Addr) (w : World) : (Instr.typeAssert (.iface 79 (.pointer p)) 91 79 true).run Try.prog w = .ok (.tuple #[.pointer p, .bool true]) w := by kernel_rfl
theorem as_con_fun (p : Option Addr) (w : World) : (Instr.typeAssert (.iface 103 (.pointer p)) 91 79 true).run Try.prog w = .ok (.tuple #[.pointer none, .bool false]) w := by kernel_rfl
theorem as_fun_num (n : Int) (w : World) : (Instr.typeAssert (.iface 86 (.int .i64 n)) 91 103 true).run Try.prog w = .ok (.tuple #[.pointer none, .bool false]) w := by kernel_rfl
theorem as_fun_con (p : Option Addr) (w : World) : (Instr.typeAssert (.iface 79 (.pointer p)) 91 103 true).run Try.prog w = .ok (.tuple #[.pointer none, .bool false]) w := by kernel_rfl
theorem as_fun_fun (p : Option Addr) (w : World) : (Instr.typeAssert (.iface 103 (.pointer p)) 91 103 true).run Try.prog w = .ok (.tuple #[.pointer p, .bool true]) w := by kernel_rfl
theorem wf_small31 {v : Int} (h : -1073741824 ≤ v ∧ v ≤ 1073741823) : (Lit.int .i64 v).wf = true := by simp [Lit.wf, IntKind.min, IntKind.max, IntKind.signed, IntKind.bits]; omega
theorem dov_in (op a b : Int) : -1073741824 ≤ dov op a b ∧ dov op a b ≤ 1073741823 := by
  unfold dov
  have h1 := w31_in
  repeat' split
  all_goals first | exact h1 _ | exact tmod_in _ _ (h1 _) | omega
theorem dov_wf (op a b : Int) : (Lit.int .i64 (dov op a b)).wf = true := wf_small31 (dov_in op a b)
set_option maxHeartbeats 2000000 in
theorem want_yes (w : World) : Calls Try.prog 62 #[.bool true] w fun e w' => e = .returned (.tuple #[]) ∧ w' = w := by
  go_enter Try.func62, Try.ntmps62
  go_wp2
  go_end0
  exact ⟨rfl, rfl⟩
set_option maxHeartbeats 2000000 in
theorem want_no (w : World) : Calls Try.prog 62 #[.bool false] w fun e w' => e = .panicked [stopV (-1)] ∧ w' = w := by
  go_enter Try.func62, Try.ntmps62
  go_wp2
  exact ⟨rfl, rfl, rfl⟩
set_option maxHeartbeats 2000000 in
theorem number_num (n : Int) (w : World) : Calls Try.prog 72 #[.iface 86 (.int .i64 n)] w fun e w' => e = .returned (.int .i64 n) ∧ w' = w := by
  have h1 := as_int_num n w
  go_enter Try.func72, Try.ntmps72
  go_wp2_with (go_at_call 62; go_must (refine (want_yes _).mono ?_); rintro e w1 ⟨rfl, rfl⟩)
  go_ret
  exact ⟨rfl, rfl⟩
set_option maxHeartbeats 2000000 in
theorem number_con (p : Option Addr) (w : World) : Calls Try.prog 72 #[.iface 79 (.pointer p)] w fun e w' => e = .panicked [stopV (-1)] ∧ w' = w := by
  have h1 := as_int_con p w
  go_enter Try.func72, Try.ntmps72
  go_wp2_with (go_at_call 62; go_must (refine (want_no _).mono ?_); rintro e w1 ⟨rfl, rfl⟩)
  exact ⟨rfl, rfl, rfl⟩
set_option maxHeartbeats 2000000 in
theorem number_fun (p : Option Addr) (w : World) : Calls Try.prog 72 #[.iface 103 (.pointer p)] w fun e w' => e = .panicked [stopV (-1)] ∧ w' = w := by
  have h1 := as_int_fun p w
  go_enter Try.func72, Try.ntmps72
  go_wp2_with (go_at_call 62; go_must (refine (want_no _).mono ?_); rintro e w1 ⟨rfl, rfl⟩)
  exact ⟨rfl, rfl, rfl⟩
/-- What a value that is no number does to number. -/
theorem number_bad {w : World} {S : Nat → Prop} {u : Va} {v : Value} (h : VAt w S u v) (hu : ∀ n, u ≠ .num n) : Calls Try.prog 72 #[v] w fun e w' => e = .panicked [stopV (-1)] ∧ w' = w := by
  cases u with
  | num n => exact absurd rfl (hu n)
  | con t us => rw [VAt] at h; obtain ⟨⟨p, A, c, rfl, _⟩, _⟩ := h; exact number_con _ w
  | clo x self b e => rw [VAt] at h; obtain ⟨p, bp, ep, rfl, _⟩ := h; exact number_fun _ w
theorem mkI_int (n : Int) (w : World) : True := trivial
set_option maxHeartbeats 2000000 in
theorem prim_div (op a b : Int) (w : World) (h : dok op b = false) : Calls Try.prog 71 #[.int .i64 op, .int .i64 a, .int .i64 b] w fun e w' => e = .panicked [stopV 2] ∧ w' = w := by
  have HK := hid h
  clear h
  go_enter Try.func71, Try.ntmps71
  go_wp2_with (go_at_call 73; go_must (refine (ints_Do op a b _).mono ?_); rw [HK.out]; rintro e w1 ⟨rfl, rfl⟩)
  exact ⟨rfl, rfl, rfl⟩
set_option maxHeartbeats 2000000 in
theorem prim_ok (op a b : Int) (w : World) (hop : 1 ≤ op ∧ op ≤ 7) (h : dok op b = true) : Calls Try.prog 71 #[.int .i64 op, .int .i64 a, .int .i64 b] w fun e w' => (∃ v, e = .returned v ∧ VAt w' (fun b => w.heap.size ≤ b) (if op < 6 then .num (dov op a b) else .con (dov op a b) []) v) ∧ Below w.heap.size w w' := by
  have HK := hid h
  obtain ⟨r, hr⟩ : ∃ r, dov op a b = r := ⟨_, rfl⟩
  have HR := hid hr
  have HW := hid (show (Lit.int .i64 r).wf = true by rw [← hr]; exact dov_wf op a b)
  rw [hr]
  clear h hr
  by_cases h6 : op < 6
  · have e6 : (op == 6) = false := by simp; omega
    have e7 : (op == 7) = false := by simp; omega
    have H6 := hid h6
    go_enter Try.func71, Try.ntmps71
    go_wp2_with (go_at_call 73; go_must (refine (ints_Do op a b _).mono ?_); rw [HK.out, HR.out]; rintro e w1 ⟨rfl, rfl⟩)
    go_ret
    exact ⟨⟨_, rfl, by rw [VAt]; exact ⟨rfl, HW.out⟩⟩, Below.refl _ _⟩
  · have H6 := hid h6
    rcases (show op = 6 ∨ op = 7 by omega) with rfl | rfl
    all_goals
      clear h6
      go_enter Try.func71, Try.ntmps71
      go_wp2_with (go_at_call 73; go_must (refine (ints_Do _ a b _).mono ?_); rw [HK.out, HR.out]; rintro e w1 ⟨rfl, rfl⟩)
      go_ret
      exact ⟨⟨_, rfl, by rw [VAt]; exact ⟨⟨_, none, 0, rfl, Nat.le_refl _, Blk.new _ _ _, by rw [VRow]; trivial⟩, HW.out, by simp⟩⟩, al1 _ _⟩
end Go.Proofs.Ytohdaclbgedeiaa
