/-
  THE WALK OF core.formed.
-/
import Derived.Test.YtohdaclbgedeiaaETagged
import Derived.BigRegion
namespace Go.Proofs.Ytohdaclbgedeiaa
set_option linter.all false
open Go.ChangeShapes Go.WideShapes Go.ChangeAt Go.RowKit
open Ev (Co nodes nodesL cnt taggedB tagsB tagIn formB plainB)

def FormP (b : Bool) (w : World) (e : Ending) (w' : World) : Prop := e = .returned (.bool b) ∧ Below w.heap.size w w'
theorem form_ret {b c : Bool} {w w' : World} (h : c = b) (hb : Below w.heap.size w w') : FormP b w (.returned (.bool c)) w' := ⟨by rw [h], hb⟩
theorem ts_cases (ts : List Int) : ts = [] ∨ (ts.isEmpty = false ∧ ¬ (ts.length : Int) = 0) := by
  cases ts with
  | nil => exact .inl rfl
  | cons a ts => exact .inr ⟨rfl, by simp; omega⟩
theorem emp_eq (ts : List Int) : ((ts.length : Int) == 0) = ts.isEmpty := by
  cases ts with
  | nil => rfl
  | cons a ts => simp; omega
theorem emp_and {l k : Nat} {ts : List Int} (h : l = k) : ((ts.length : Int) == 0) = (decide (l = k) && ts.isEmpty) := by rw [emp_eq]; simp [h]
set_option maxHeartbeats 16000000 in
set_option maxRecDepth 100000 in
theorem formed1 (x y m : Int) (b : Bool) (T A : Option Addr) (tc : Nat) (ts : List Int) (l c : Nat) (w : World) (hl : l ≤ 17592186044416) (ht : ts.length ≤ 17592186044416) :
    Calls Try.prog 57 #[.agg #[.int .i64 1, .int .i64 x, .int .i64 y, .int .i64 m, .bool b, .slice T ts.length tc, .slice A l c]] w (FormP (formB 1 x y m b ts l) w) := by
  rcases ts_cases ts with rfl | ⟨he, hn⟩
  all_goals
    cases b
    all_goals
      go_enter Try.func57, Try.ntmps57
      go_wp2
      all_goals (go_ret; refine form_ret ?_ (by go_grown); unfold formB plainB; simp_all <;> (try omega) <;> (try first | exact emp_eq _ | exact emp_and (by omega)))
set_option maxHeartbeats 16000000 in
set_option maxRecDepth 100000 in
theorem formed3 (x y m : Int) (b : Bool) (T A : Option Addr) (tc : Nat) (ts : List Int) (l c : Nat) (w : World) (hl : l ≤ 17592186044416) (ht : ts.length ≤ 17592186044416) :
    Calls Try.prog 57 #[.agg #[.int .i64 3, .int .i64 x, .int .i64 y, .int .i64 m, .bool b, .slice T ts.length tc, .slice A l c]] w (FormP (formB 3 x y m b ts l) w) := by
  rcases ts_cases ts with rfl | ⟨he, hn⟩
  all_goals
    cases b
    all_goals
      go_enter Try.func57, Try.ntmps57
      go_wp2
      all_goals (go_ret; refine form_ret ?_ (by go_grown); unfold formB plainB; simp_all <;> (try omega) <;> (try first | exact emp_eq _ | exact emp_and (by omega)))
set_option maxHeartbeats 16000000 in
set_option maxRecDepth 100000 in
theorem formed4 (x y m : Int) (b : Bool) (T A : Option Addr) (tc : Nat) (ts : List Int) (l c : Nat) (w : World) (hl : l ≤ 17592186044416) (ht : ts.length ≤ 17592186044416) :
    Calls Try.prog 57 #[.agg #[.int .i64 4, .int .i64 x, .int .i64 y, .int .i64 m, .bool b, .slice T ts.length tc, .slice A l c]] w (FormP (formB 4 x y m b ts l) w) := by
  rcases ts_cases ts with rfl | ⟨he, hn⟩
  all_goals
    cases b
    all_goals
      go_enter Try.func57, Try.ntmps57
      go_wp2
      all_goals (go_ret; refine form_ret ?_ (by go_grown); unfold formB plainB; simp_all <;> (try omega) <;> (try first | exact emp_eq _ | exact emp_and (by omega)))
set_option maxHeartbeats 16000000 in
set_option maxRecDepth 100000 in
theorem formed5 (x y m : Int) (b : Bool) (T A : Option Addr) (tc : Nat) (ts : List Int) (l c : Nat) (w : World) (hl : l ≤ 17592186044416) (ht : ts.length ≤ 17592186044416) :
    Calls Try.prog 57 #[.agg #[.int .i64 5, .int .i64 x, .int .i64 y, .int .i64 m, .bool b, .slice T ts.length tc, .slice A l c]] w (FormP (formB 5 x y m b ts l) w) := by
  rcases ts_cases ts with rfl | ⟨he, hn⟩
  all_goals
    cases b
    all_goals
      go_enter Try.func57, Try.ntmps57
      go_wp2
      all_goals (go_ret; refine form_ret ?_ (by go_grown); unfold formB plainB; simp_all <;> (try omega) <;> (try first | exact emp_eq _ | exact emp_and (by omega)))
set_option maxHeartbeats 16000000 in
set_option maxRecDepth 100000 in
theorem formed11 (x y m : Int) (b : Bool) (T A : Option Addr) (tc : Nat) (ts : List Int) (l c : Nat) (w : World) (hl : l ≤ 17592186044416) (ht : ts.length ≤ 17592186044416) :
    Calls Try.prog 57 #[.agg #[.int .i64 11, .int .i64 x, .int .i64 y, .int .i64 m, .bool b, .slice T ts.length tc, .slice A l c]] w (FormP (formB 11 x y m b ts l) w) := by
  rcases ts_cases ts with rfl | ⟨he, hn⟩
  all_goals
    cases b
    all_goals
      go_enter Try.func57, Try.ntmps57
      go_wp2
      all_goals (go_ret; refine form_ret ?_ (by go_grown); unfold formB plainB; simp_all <;> (try omega) <;> (try first | exact emp_eq _ | exact emp_and (by omega)))
end Go.Proofs.Ytohdaclbgedeiaa
