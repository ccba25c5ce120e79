/-
  THE WALKS OF ints AND OF ITS REFERENCE: what each function of the two returns, for every number; the world stays as it is.
-/
import Derived.Test.YtdmkjndlobichaaRows
import Derived.Test.YtdmkjndlobichaaEPlain
import Derived.OpenShut
import Derived.WalkLawsBesides
namespace Go.Proofs.Ytdmkjndlobichaa
set_option linter.all false
open Go.ChangeShapes Go.WideShapes Go.ChangeAt Go.RowKit

theorem ints_told (b : Bool) (w : World) : Calls Try.prog 130 #[.bool b] w fun e w' => e = .returned (.int .i64 (if b then 1 else 0)) ∧ w = w' := by
  cases b
  all_goals
    go_enter Try.func130, Try.ntmps130
    go_wp2
    go_ret
    exact ⟨rfl, rfl⟩

theorem ints_Wrap (n : Int) (w : World) : Calls Try.prog 53 #[.int .i64 n] w fun e w' => e = .returned (.int .i64 (w31 n)) ∧ w = w' := by
  go_enter Try.func53, Try.ntmps53
  go_wp2
  go_ret
  exact ⟨ret_int (wrap_eq n), rfl⟩

theorem ref10_Wrap (n : Int) (w : World) : Calls Try.prog 57 #[.int .i64 n] w fun e w' => e = .returned (.int .i64 (w31 n)) ∧ w = w' := by
  go_enter Try.func57, Try.ntmps57
  go_wp2
  all_goals
    go_ret
    exact ⟨ret_int (by have h := rwrap_eq n; generalize n.tmod 2147483648 = m at *; unfold w31; (try simp only [wrap64] at *); split at h <;> omega), rfl⟩

theorem ints_In (n : Int) (w : World) : Calls Try.prog 95 #[.int .i64 n] w fun e w' => e = .returned (.bool (in31 n)) ∧ w = w' := by
  by_cases h : n < -1073741824
  all_goals
    go_enter Try.func95, Try.ntmps95
    go_wp2
    go_ret
    exact ⟨ret_bool (by unfold in31; rw [Bool.eq_iff_iff]; simp; omega), rfl⟩
theorem ref10_In (n : Int) (w : World) : Calls Try.prog 99 #[.int .i64 n] w fun e w' => e = .returned (.bool (in31 n)) ∧ w = w' := by
  by_cases h : n < -1073741824
  all_goals
    go_enter Try.func99, Try.ntmps99
    go_wp2
    go_ret
    exact ⟨ret_bool (by unfold in31; rw [Bool.eq_iff_iff]; simp; omega), rfl⟩

theorem ints_Do (op a b : Int) (w : World) : Calls Try.prog 128 #[.int .i64 op, .int .i64 a, .int .i64 b] w fun e w' => e = .returned (.tuple #[.int .i64 (dov op a b), .bool (dok op b)]) ∧ w = w' := by
  have h1 := w31_in a
  have h2 := w31_in b
  have cs : op = 1 ∨ op = 2 ∨ op = 3 ∨ op = 6 ∨ op = 7 ∨ op = 4 ∨ op = 5 ∨ ((op == 1) = false ∧ (op == 2) = false ∧ (op == 3) = false ∧ (op == 6) = false ∧ (op == 7) = false ∧ (op == 4) = false ∧ (op == 5) = false ∧ (op != 4) = true ∧ (op != 5) = true) := by
    simp only [beq_eq_false_iff_ne, bne_iff_ne]; omega
  have hc : (w31 b == 0) = true ∨ (w31 b == 0) = false := by cases (w31 b == 0) <;> simp
  rcases hc with hc | hc
  all_goals
    have hc' := hc
    simp only [beq_iff_eq, beq_eq_false_iff_ne] at hc'
    have Hc := hid hc'
    clear hc'
    rcases cs with rfl | rfl | rfl | rfl | rfl | rfl | rfl | cs
    all_goals
      try simp only [] at cs
      go_enter Try.func128, Try.ntmps128
      go_wp2_with (first | (go_at_call 53; refine (ints_Wrap _ _).mono ?_; rintro e w' ⟨rfl, rfl⟩) | (go_at_call 130; refine (ints_told _ _).mono ?_; rintro e w' ⟨rfl, rfl⟩))
      all_goals go_ret2
      all_goals exact ⟨ret_ib (by first | (simp [dov, w31_wrap, *]; done) | (have := Hc.out; simp [dov, w31_wrap, *]; done) | (simp only [beq_eq_false_iff_ne, ne_eq] at cs; simp [dov, cs]))
        (by first | (simp [dok]; done) | (have := Hc.out; simp [dok, *]; done) | (simp only [beq_eq_false_iff_ne, ne_eq] at cs; simp [dok, cs])), rfl⟩

theorem rdo_123 (op a b : Int) (hop : op = 1 ∨ op = 2 ∨ op = 3) (w : World) : Calls Try.prog 59 #[.int .i64 op, .int .i64 a, .int .i64 b] w fun e w' => e = .returned (.tuple #[.int .i64 (dov op a b), .bool (dok op b)]) ∧ w = w' := by
  have h1 := w31_in a
  have h2 := w31_in b
  rcases hop with rfl | rfl | rfl
  all_goals
    go_enter Try.func59, Try.ntmps59
    go_wp2_with (first | (go_at_call 57; refine (ref10_Wrap _ _).mono ?_; rintro e w' ⟨rfl, rfl⟩))
    go_ret2
    exact ⟨ret_ib (by simp [dov, w31_wrap]) (by simp [dok]), rfl⟩

theorem rdo_45 (op a b : Int) (hop : op = 4 ∨ op = 5) (w : World) : Calls Try.prog 59 #[.int .i64 op, .int .i64 a, .int .i64 b] w fun e w' => e = .returned (.tuple #[.int .i64 (dov op a b), .bool (dok op b)]) ∧ w = w' := by
  have h1 := w31_in a
  have h2 := w31_in b
  have hc : w31 b = 0 ∧ (w31 b == 0) = true ∧ (w31 b != 0) = false ∨ w31 b ≠ 0 ∧ (w31 b == 0) = false ∧ (w31 b != 0) = true := by by_cases h : w31 b = 0 <;> simp [h]
  rcases hop with rfl | rfl
  all_goals
    rcases hc with ⟨hc, hd⟩ | ⟨hc, hd⟩
    all_goals
      have Hc := hid hc
      clear hc
      go_enter Try.func59, Try.ntmps59
      go_wp2_with (first | (go_at_call 57; refine (ref10_Wrap _ _).mono ?_; rintro e w' ⟨rfl, rfl⟩))
      go_ret2
      exact ⟨ret_ib (by have := Hc.out; (try simp only [w31_wrap]); first | (simp [dov, this]; done) | (rw [← w31_sub, w31_wrap, w31_sub, rem_eq _ _ h1]; simp [dov, this])) (by have := Hc.out; simp [dok, this]), rfl⟩

theorem rdo_67 (op a b : Int) (hop : op = 6 ∨ op = 7) (w : World) : Calls Try.prog 59 #[.int .i64 op, .int .i64 a, .int .i64 b] w fun e w' => e = .returned (.tuple #[.int .i64 (dov op a b), .bool (dok op b)]) ∧ w = w' := by
  have h1 := w31_in a
  have h2 := w31_in b
  rcases hop with rfl | rfl
  · by_cases he : w31 a < w31 b
    all_goals
      go_enter Try.func59, Try.ntmps59
      go_wp2_with (first | (go_at_call 57; refine (ref10_Wrap _ _).mono ?_; rintro e w' ⟨rfl, rfl⟩))
      go_ret2
      exact ⟨ret_ib (by simp [dov, he]) (by simp [dok]), rfl⟩
  · have hd : w31 a = w31 b ∧ (w31 a == w31 b) = true ∨ w31 a ≠ w31 b ∧ (w31 a == w31 b) = false := by by_cases h : w31 a = w31 b <;> simp [h]
    rcases hd with ⟨hc, hd⟩ | ⟨hc, hd⟩
    all_goals
      have Hc := hid hc
      clear hc
      go_enter Try.func59, Try.ntmps59
      go_wp2_with (first | (go_at_call 57; refine (ref10_Wrap _ _).mono ?_; rintro e w' ⟨rfl, rfl⟩))
      go_ret2
      exact ⟨ret_ib (by have := Hc.out; simp [dov, this]) (by have := Hc.out; simp [dok, this]), rfl⟩

theorem rdo_no (op a b : Int) (hop : (op == 1) = false ∧ (op == 2) = false ∧ (op == 3) = false ∧ (op == 6) = false ∧ (op == 7) = false ∧ (op == 4) = false ∧ (op == 5) = false) (w : World) : Calls Try.prog 59 #[.int .i64 op, .int .i64 a, .int .i64 b] w fun e w' => e = .returned (.tuple #[.int .i64 (dov op a b), .bool (dok op b)]) ∧ w = w' := by
  go_enter Try.func59, Try.ntmps59
  go_wp2_with (first | (go_at_call 57; refine (ref10_Wrap _ _).mono ?_; rintro e w' ⟨rfl, rfl⟩))
  go_ret2
  simp only [beq_eq_false_iff_ne, ne_eq] at hop
  exact ⟨ret_ib (by simp [dov, hop]) (by simp [dok, hop]), rfl⟩

theorem ref10_Do (op a b : Int) (w : World) : Calls Try.prog 59 #[.int .i64 op, .int .i64 a, .int .i64 b] w fun e w' => e = .returned (.tuple #[.int .i64 (dov op a b), .bool (dok op b)]) ∧ w = w' := by
  have cs : (op = 1 ∨ op = 2 ∨ op = 3) ∨ (op = 4 ∨ op = 5) ∨ (op = 6 ∨ op = 7) ∨ ((op == 1) = false ∧ (op == 2) = false ∧ (op == 3) = false ∧ (op == 6) = false ∧ (op == 7) = false ∧ (op == 4) = false ∧ (op == 5) = false) := by
    simp only [beq_eq_false_iff_ne]; omega
  rcases cs with h | h | h | h
  · exact rdo_123 op a b h w
  · exact rdo_45 op a b h w
  · exact rdo_67 op a b h w
  · exact rdo_no op a b h w
end Go.Proofs.Ytdmkjndlobichaa
