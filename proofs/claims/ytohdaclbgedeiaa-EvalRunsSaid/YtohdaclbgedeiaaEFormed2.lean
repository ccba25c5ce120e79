/-
  THE WALK OF core.formed: kinds 6, 8, 10.
-/
import Derived.Test.YtohdaclbgedeiaaEFormed
namespace Go.Proofs.Ytohdaclbgedeiaa
set_option linter.all false
open Go.ChangeShapes Go.WideShapes Go.ChangeAt Go.RowKit
open Ev (Co nodes nodesL cnt taggedB tagsB tagIn formB plainB)

set_option maxHeartbeats 16000000 in
set_option maxRecDepth 100000 in
theorem formed6 (x y m : Int) (b : Bool) (T A : Option Addr) (tc : Nat) (ts : List Int) (l c : Nat) (w : World) (hl : l ≤ 17592186044416) (ht : ts.length ≤ 17592186044416) :
    Calls Try.prog 57 #[.agg #[.int .i64 6, .int .i64 x, .int .i64 y, .int .i64 m, .bool b, .slice T ts.length tc, .slice A l c]] w (FormP (formB 6 x y m b ts l) w) := by
  rcases ts_cases ts with rfl | ⟨he, hn⟩
  all_goals
    cases b
    all_goals
      go_enter Try.func57, Try.ntmps57
      go_wp2
      go_region
      go_wp2
      all_goals (go_ret; refine form_ret ?_ (by go_grown); unfold formB plainB; simp_all <;> (try omega) <;> (try first | exact emp_eq _ | exact emp_and (by omega)))
set_option maxHeartbeats 16000000 in
set_option maxRecDepth 100000 in
theorem formed8 (x y m : Int) (b : Bool) (T A : Option Addr) (tc : Nat) (ts : List Int) (l c : Nat) (w : World) (hl : l ≤ 17592186044416) (ht : ts.length ≤ 17592186044416) :
    Calls Try.prog 57 #[.agg #[.int .i64 8, .int .i64 x, .int .i64 y, .int .i64 m, .bool b, .slice T ts.length tc, .slice A l c]] w (FormP (formB 8 x y m b ts l) w) := by
  rcases ts_cases ts with rfl | ⟨he, hn⟩
  all_goals
    have hm9 : m < 0 ∨ (0 ≤ m ∧ m < 8) ∨ 8 ≤ m := by omega
    rcases hm9 with h1 | ⟨h1, h2⟩ | h2
    · have d1 : decide (0 ≤ m) = false := by simp; omega
      cases b
      all_goals
        go_enter Try.func57, Try.ntmps57
        go_wp2
        go_region
        go_wp2
        all_goals (go_ret; refine form_ret ?_ (by go_grown); unfold formB plainB; simp_all <;> (try omega) <;> (try first | exact emp_eq _ | exact emp_and (by omega)))
    · have d1 : decide (0 ≤ m) = true := by simp; omega
      have d2 : decide (m < 8) = true := by simp; omega
      have d3 : decide (m ≤ 7) = true := by simp; omega
      cases b
      all_goals
        go_enter Try.func57, Try.ntmps57
        go_wp2
        go_region
        go_wp2
        all_goals (go_ret; refine form_ret ?_ (by go_grown); unfold formB plainB; simp_all <;> (try omega) <;> (try first | exact emp_eq _ | exact emp_and (by omega)))
    · have d1 : decide (0 ≤ m) = true := by simp; omega
      have d2 : decide (m < 8) = false := by simp; omega
      have d3 : decide (m ≤ 7) = false := by simp; omega
      cases b
      all_goals
        go_enter Try.func57, Try.ntmps57
        go_wp2
        go_region
        go_wp2
        all_goals (go_ret; refine form_ret ?_ (by go_grown); unfold formB plainB; simp_all <;> (try omega) <;> (try first | exact emp_eq _ | exact emp_and (by omega)))
set_option maxHeartbeats 16000000 in
set_option maxRecDepth 100000 in
theorem formed10 (x y m : Int) (b : Bool) (T A : Option Addr) (tc : Nat) (ts : List Int) (l c : Nat) (w : World) (hl : l ≤ 17592186044416) (ht : ts.length ≤ 17592186044416) :
    Calls Try.prog 57 #[.agg #[.int .i64 10, .int .i64 x, .int .i64 y, .int .i64 m, .bool b, .slice T ts.length tc, .slice A l c]] w (FormP (formB 10 x y m b ts l) w) := by
  rcases ts_cases ts with rfl | ⟨he, hn⟩
  all_goals
    have hm9 : m < 1 ∨ (1 ≤ m ∧ m < 8) ∨ 8 ≤ m := by omega
    rcases hm9 with h1 | ⟨h1, h2⟩ | h2
    · have d1 : decide (1 ≤ m) = false := by simp; omega
      cases b
      all_goals
        go_enter Try.func57, Try.ntmps57
        go_wp2
        go_region
        go_wp2
        all_goals (go_ret; refine form_ret ?_ (by go_grown); unfold formB plainB; simp_all <;> (try omega) <;> (try first | exact emp_eq _ | exact emp_and (by omega)))
    · have d1 : decide (1 ≤ m) = true := by simp; omega
      have d2 : decide (m < 8) = true := by simp; omega
      have d3 : decide (m ≤ 7) = true := by simp; omega
      cases b
      all_goals
        go_enter Try.func57, Try.ntmps57
        go_wp2
        go_region
        go_wp2
        all_goals (go_ret; refine form_ret ?_ (by go_grown); unfold formB plainB; simp_all <;> (try omega) <;> (try first | exact emp_eq _ | exact emp_and (by omega)))
    · have d1 : decide (1 ≤ m) = true := by simp; omega
      have d2 : decide (m < 8) = false := by simp; omega
      have d3 : decide (m ≤ 7) = false := by simp; omega
      cases b
      all_goals
        go_enter Try.func57, Try.ntmps57
        go_wp2
        go_region
        go_wp2
        all_goals (go_ret; refine form_ret ?_ (by go_grown); unfold formB plainB; simp_all <;> (try omega) <;> (try first | exact emp_eq _ | exact emp_and (by omega)))
end Go.Proofs.Ytohdaclbgedeiaa
