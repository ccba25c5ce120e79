/-
  THE WALK OF core.formed: kinds 7, 2, and none.
-/
import Derived.Test.YtohdaclbgedeiaaEFormed
namespace Go.Proofs.Ytohdaclbgedeiaa
set_option linter.all false
open Go.ChangeShapes Go.WideShapes Go.ChangeAt Go.RowKit
open Ev (Co nodes nodesL cnt taggedB tagsB tagIn formB plainB)

set_option maxHeartbeats 16000000 in
set_option maxRecDepth 100000 in
theorem formed7 (x y m : Int) (b : Bool) (T A : Option Addr) (tc : Nat) (ts : List Int) (l c : Nat) (w : World) (hl : l ≤ 17592186044416) (ht : ts.length ≤ 17592186044416) :
    Calls Try.prog 57 #[.agg #[.int .i64 7, .int .i64 x, .int .i64 y, .int .i64 m, .bool b, .slice T ts.length tc, .slice A l c]] w (FormP (formB 7 x y m b ts l) w) := by
  rcases ts_cases ts with rfl | ⟨he, hn⟩
  all_goals
    have hm9 : m < 0 ∨ (0 ≤ m ∧ m < 32 ∧ l ≤ 8) ∨ (0 ≤ m ∧ m < 32 ∧ ¬ l ≤ 8) ∨ 32 ≤ m := by omega
    rcases hm9 with h1 | ⟨h1, h2, h3⟩ | ⟨h1, h2, h3⟩ | h2
    · have d1 : decide (0 ≤ m) = false := by simp; omega
      cases b
      all_goals
        go_enter Try.func57, Try.ntmps57
        go_wp2
        go_region
        go_wp2
        all_goals (go_ret; refine form_ret ?_ (by go_grown); unfold formB plainB; simp_all <;> (try omega) <;> (try first | exact emp_eq _ | exact emp_and (by omega)))
    · have d1 : decide (0 ≤ m) = true := by simp; omega
      have d2 : decide (m < 32) = true := by simp; omega
      have d3 : decide ((l : Int) ≤ 8) = true := by simp; omega
      cases b
      all_goals
        go_enter Try.func57, Try.ntmps57
        go_wp2
        go_region
        go_wp2
        all_goals (go_ret; refine form_ret ?_ (by go_grown); unfold formB plainB; simp_all <;> (try omega) <;> (try first | exact emp_eq _ | exact emp_and (by omega)))
    · have d1 : decide (0 ≤ m) = true := by simp; omega
      have d2 : decide (m < 32) = true := by simp; omega
      have d3 : decide ((l : Int) ≤ 8) = false := by simp; omega
      cases b
      all_goals
        go_enter Try.func57, Try.ntmps57
        go_wp2
        go_region
        go_wp2
        all_goals (go_ret; refine form_ret ?_ (by go_grown); unfold formB plainB; simp_all <;> (try omega) <;> (try first | exact emp_eq _ | exact emp_and (by omega)))
    · have d1 : decide (0 ≤ m) = true := by simp; omega
      have d2 : decide (m < 32) = false := by simp; omega
      cases b
      all_goals
        go_enter Try.func57, Try.ntmps57
        go_wp2
        go_region
        go_wp2
        all_goals (go_ret; refine form_ret ?_ (by go_grown); unfold formB plainB; simp_all <;> (try omega) <;> (try first | exact emp_eq _ | exact emp_and (by omega)))
set_option maxHeartbeats 16000000 in
set_option maxRecDepth 100000 in
theorem formed2 (x y m : Int) (b : Bool) (T A : Option Addr) (tc : Nat) (ts : List Int) (l c : Nat) (w : World) (hl : l ≤ 17592186044416) (ht : ts.length ≤ 17592186044416) :
    Calls Try.prog 57 #[.agg #[.int .i64 2, .int .i64 x, .int .i64 y, .int .i64 m, .bool b, .slice T ts.length tc, .slice A l c]] w (FormP (formB 2 x y m b ts l) w) := by
  rcases ts_cases ts with rfl | ⟨he, hn⟩
  all_goals
    obtain ⟨q, hq⟩ : ∃ q, in31 m = q := ⟨_, rfl⟩
    have HQ := hid hq
    cases q
    all_goals
      cases b
      all_goals
        go_enter Try.func57, Try.ntmps57
        go_wp2
        go_region_held3 (fun w' => w'.cell? ⟨w.heap.size, 3, none⟩ = some (.int .i64 m)) (go_keep) (first | (go_at_call 66; (with_reducible refine (ints_In _ _).mono ?_); rw [HQ.out]; rintro e w' ⟨rfl, h9⟩; subst h9))
        all_goals
          go_wp2
          all_goals (go_ret; refine form_ret ?_ (by go_grown); unfold formB plainB; simp_all <;> (try omega) <;> (try first | exact emp_eq _ | exact emp_and (by omega)))
set_option maxHeartbeats 16000000 in
set_option maxRecDepth 100000 in
theorem formed0 (k x y m : Int) (b : Bool) (T A : Option Addr) (tl tc : Nat) (l c : Nat) (w : World) (h1 : (k == 1) = false) (h2 : (k == 2) = false) (h3 : (k == 3) = false) (h4 : (k == 4) = false) (h5 : (k == 5) = false) (h6 : (k == 6) = false) (h7 : (k == 7) = false) (h8 : (k == 8) = false) (h9 : (k == 9) = false) (h10 : (k == 10) = false) (h11 : (k == 11) = false) :
    Calls Try.prog 57 #[.agg #[.int .i64 k, .int .i64 x, .int .i64 y, .int .i64 m, .bool b, .slice T tl tc, .slice A l c]] w (FormP false w) := by
  go_enter Try.func57, Try.ntmps57
  go_wp2
  go_ret
  exact form_ret rfl (by go_grown)
end Go.Proofs.Ytohdaclbgedeiaa
