/-
  THE WALK OF cps.formed: KINDS 2, 4, 5, none.
-/
import Derived.Test.YtdmkjndlobichaaKForm1
import Derived.BigRegion
namespace Go.Proofs.Ytdmkjndlobichaa
set_option linter.all false
open Go.ChangeShapes Go.WideShapes Go.ChangeAt Go.RowKit
open Tm (formN plainT)
set_option maxHeartbeats 16000000 in
set_option maxRecDepth 100000 in
theorem formt2 (x m : Int) (b : Bool) (T A F U : Option Addr) (tc ac fc uc tl al fl ul : Nat) (q : Bool) (w : World) (ht : tl ≤ 17592186044416) (ha : al ≤ 17592186044416) (hf : fl ≤ 17592186044416) (hu : ul ≤ 17592186044416) :
    Calls Try.prog 62 #[.agg #[.int .i64 2, .int .i64 x, .int .i64 m, .bool b, .slice T tl tc, .slice A al ac, .slice F fl fc, .slice U ul uc]] w (FormTP (formN 2 x m b tl al fl ul q) w) := by
  have hm9 : m < 0 ∨ (0 ≤ m ∧ m < 32 ∧ al ≤ 8) ∨ (0 ≤ m ∧ m < 32 ∧ ¬ al ≤ 8) ∨ 32 ≤ m := by omega
  rcases hm9 with h1 | ⟨h1, h2, h3⟩ | ⟨h1, h2, h3⟩ | h2
  · have d1 : decide (0 ≤ m) = false := by simp; omega
    cases b
    all_goals
      go_enter Try.func62, Try.ntmps62
      go_wp2
      go_region
      go_wp2
      all_goals (go_ret; refine formt_ret ?_ (by go_grown); unfold formN plainT; simp_all <;> (try omega) <;> (try (rw [Bool.eq_iff_iff]; simp <;> omega)))
  · have d1 : decide (0 ≤ m) = true := by simp; omega
    have d2 : decide (m < 32) = true := by simp; omega
    have d3 : decide ((al : Int) ≤ 8) = true := by simp; omega
    cases b
    all_goals
      go_enter Try.func62, Try.ntmps62
      go_wp2
      go_region
      go_wp2
      all_goals (go_ret; refine formt_ret ?_ (by go_grown); unfold formN plainT; simp_all <;> (try omega) <;> (try (rw [Bool.eq_iff_iff]; simp <;> omega)))
  · have d1 : decide (0 ≤ m) = true := by simp; omega
    have d2 : decide (m < 32) = true := by simp; omega
    have d3 : decide ((al : Int) ≤ 8) = false := by simp; omega
    cases b
    all_goals
      go_enter Try.func62, Try.ntmps62
      go_wp2
      go_region
      go_wp2
      all_goals (go_ret; refine formt_ret ?_ (by go_grown); unfold formN plainT; simp_all <;> (try omega) <;> (try (rw [Bool.eq_iff_iff]; simp <;> omega)))
  · have d1 : decide (0 ≤ m) = true := by simp; omega
    have d2 : decide (m < 32) = false := by simp; omega
    cases b
    all_goals
      go_enter Try.func62, Try.ntmps62
      go_wp2
      go_region
      go_wp2
      all_goals (go_ret; refine formt_ret ?_ (by go_grown); unfold formN plainT; simp_all <;> (try omega) <;> (try (rw [Bool.eq_iff_iff]; simp <;> omega)))
set_option maxHeartbeats 16000000 in
set_option maxRecDepth 100000 in
theorem formt4 (x m : Int) (b : Bool) (T A F U : Option Addr) (tc ac fc uc tl al fl ul : Nat) (q : Bool) (w : World) (ht : tl ≤ 17592186044416) (ha : al ≤ 17592186044416) (hf : fl ≤ 17592186044416) (hu : ul ≤ 17592186044416) :
    Calls Try.prog 62 #[.agg #[.int .i64 4, .int .i64 x, .int .i64 m, .bool b, .slice T tl tc, .slice A al ac, .slice F fl fc, .slice U ul uc]] w (FormTP (formN 4 x m b tl al fl ul q) w) := by
  cases b
  all_goals
    go_enter Try.func62, Try.ntmps62
    go_wp2
    go_region
    go_wp2
    all_goals (go_ret; refine formt_ret ?_ (by go_grown); unfold formN plainT; simp_all <;> (try omega) <;> (try (rw [Bool.eq_iff_iff]; simp <;> omega)))
set_option maxHeartbeats 16000000 in
set_option maxRecDepth 100000 in
theorem formt5 (x m : Int) (b : Bool) (T A F U : Option Addr) (tc ac fc uc tl al fl ul : Nat) (q : Bool) (w : World) (ht : tl ≤ 17592186044416) (ha : al ≤ 17592186044416) (hf : fl ≤ 17592186044416) (hu : ul ≤ 17592186044416) :
    Calls Try.prog 62 #[.agg #[.int .i64 5, .int .i64 x, .int .i64 m, .bool b, .slice T tl tc, .slice A al ac, .slice F fl fc, .slice U ul uc]] w (FormTP (formN 5 x m b tl al fl ul q) w) := by
  have hm9 : al < 1 ∨ (1 ≤ al ∧ al ≤ 16) ∨ 17 ≤ al := by omega
  rcases hm9 with h1 | ⟨h1, h2⟩ | h2
  · have d1 : decide (1 ≤ (al : Int)) = false := by simp; omega
    cases b
    all_goals
      go_enter Try.func62, Try.ntmps62
      go_wp2
      go_region
      go_wp2
      all_goals (go_ret; refine formt_ret ?_ (by go_grown); unfold formN plainT; simp_all <;> (try omega) <;> (try (rw [Bool.eq_iff_iff]; simp <;> omega)))
  · have d1 : decide (1 ≤ (al : Int)) = true := by simp; omega
    have d2 : decide ((al : Int) ≤ 16) = true := by simp; omega
    cases b
    all_goals
      go_enter Try.func62, Try.ntmps62
      go_wp2
      go_region
      go_wp2
      all_goals (go_ret; refine formt_ret ?_ (by go_grown); unfold formN plainT; simp_all <;> (try omega) <;> (try (rw [Bool.eq_iff_iff]; simp <;> omega)))
  · have d1 : decide (1 ≤ (al : Int)) = true := by simp; omega
    have d2 : decide ((al : Int) ≤ 16) = false := by simp; omega
    cases b
    all_goals
      go_enter Try.func62, Try.ntmps62
      go_wp2
      go_region
      go_wp2
      all_goals (go_ret; refine formt_ret ?_ (by go_grown); unfold formN plainT; simp_all <;> (try omega) <;> (try (rw [Bool.eq_iff_iff]; simp <;> omega)))
set_option maxHeartbeats 16000000 in
set_option maxRecDepth 100000 in
theorem formt0 (k x m : Int) (b : Bool) (T A F U : Option Addr) (tc ac fc uc tl al fl ul : Nat) (w : World) (h1 : (k == 1) = false) (h2 : (k == 2) = false) (h3 : (k == 3) = false) (h4 : (k == 4) = false) (h5 : (k == 5) = false) (h6 : (k == 6) = false) (h7 : (k == 7) = false) (h8 : (k == 8) = false) :
    Calls Try.prog 62 #[.agg #[.int .i64 k, .int .i64 x, .int .i64 m, .bool b, .slice T tl tc, .slice A al ac, .slice F fl fc, .slice U ul uc]] w (FormTP false w) := by
  go_enter Try.func62, Try.ntmps62
  go_wp2
  go_ret
  exact formt_ret rfl (by go_grown)
end Go.Proofs.Ytdmkjndlobichaa
