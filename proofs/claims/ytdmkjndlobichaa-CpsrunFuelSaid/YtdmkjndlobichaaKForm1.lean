/-
  THE WALK OF cps.formed: KINDS 1, 3, 7, 8.
-/
import Derived.Test.YtdmkjndlobichaaKTagged
import Derived.BigRegion
namespace Go.Proofs.Ytdmkjndlobichaa
set_option linter.all false
open Go.ChangeShapes Go.WideShapes Go.ChangeAt Go.RowKit
open Tm (formN plainT)
def FormTP (b : Bool) (w : World) (e : Ending) (w' : World) : Prop := e = .returned (.bool b) ∧ Below w.heap.size w w'
theorem formt_ret {b c : Bool} {w w' : World} (h : c = b) (hb : Below w.heap.size w w') : FormTP b w (.returned (.bool c)) w' := ⟨by rw [h], hb⟩
set_option maxHeartbeats 16000000 in
set_option maxRecDepth 100000 in
theorem formt7 (x m : Int) (b : Bool) (T A F U : Option Addr) (tc ac fc uc tl al fl ul : Nat) (q : Bool) (w : World) (ht : tl ≤ 17592186044416) (ha : al ≤ 17592186044416) (hf : fl ≤ 17592186044416) (hu : ul ≤ 17592186044416) :
    Calls Try.prog 62 #[.agg #[.int .i64 7, .int .i64 x, .int .i64 m, .bool b, .slice T tl tc, .slice A al ac, .slice F fl fc, .slice U ul uc]] w (FormTP (formN 7 x m b tl al fl ul q) w) := by
  cases b
  all_goals
    go_enter Try.func62, Try.ntmps62
    go_wp2
    all_goals (go_ret; refine formt_ret ?_ (by go_grown); unfold formN plainT; simp_all <;> (try omega) <;> (try (rw [Bool.eq_iff_iff]; simp; omega)))
set_option maxHeartbeats 16000000 in
set_option maxRecDepth 100000 in
theorem formt8 (x m : Int) (b : Bool) (T A F U : Option Addr) (tc ac fc uc tl al fl ul : Nat) (q : Bool) (w : World) (ht : tl ≤ 17592186044416) (ha : al ≤ 17592186044416) (hf : fl ≤ 17592186044416) (hu : ul ≤ 17592186044416) :
    Calls Try.prog 62 #[.agg #[.int .i64 8, .int .i64 x, .int .i64 m, .bool b, .slice T tl tc, .slice A al ac, .slice F fl fc, .slice U ul uc]] w (FormTP (formN 8 x m b tl al fl ul q) w) := by
  cases b
  all_goals
    go_enter Try.func62, Try.ntmps62
    go_wp2
    all_goals (go_ret; refine formt_ret ?_ (by go_grown); unfold formN plainT; simp_all <;> (try omega) <;> (try (rw [Bool.eq_iff_iff]; simp; omega)))
set_option maxHeartbeats 16000000 in
set_option maxRecDepth 100000 in
theorem formt1 (x m : Int) (b : Bool) (T A F U : Option Addr) (tc ac fc uc tl al fl ul : Nat) (q : Bool) (w : World) (ht : tl ≤ 17592186044416) (ha : al ≤ 17592186044416) (hf : fl ≤ 17592186044416) (hu : ul ≤ 17592186044416) :
    Calls Try.prog 62 #[.agg #[.int .i64 1, .int .i64 x, .int .i64 m, .bool b, .slice T tl tc, .slice A al ac, .slice F fl fc, .slice U ul uc]] w (FormTP (formN 1 x m b tl al fl ul q) w) := by
  have hm9 : m < 1 ∨ (1 ≤ m ∧ m < 8) ∨ 8 ≤ m := by omega
  rcases hm9 with h1 | ⟨h1, h2⟩ | h2
  · have d1 : decide (1 ≤ m) = false := by simp; omega
    cases b
    all_goals
      go_enter Try.func62, Try.ntmps62
      go_wp2
      go_region
      go_wp2
      all_goals (go_ret; refine formt_ret ?_ (by go_grown); unfold formN plainT; simp_all <;> (try omega) <;> (try (rw [Bool.eq_iff_iff]; simp; omega)))
  · have d1 : decide (1 ≤ m) = true := by simp; omega
    have d2 : decide (m < 8) = true := by simp; omega
    have d3 : decide (m ≤ 7) = true := by simp; omega
    cases b
    all_goals
      go_enter Try.func62, Try.ntmps62
      go_wp2
      go_region
      go_wp2
      all_goals (go_ret; refine formt_ret ?_ (by go_grown); unfold formN plainT; simp_all <;> (try omega) <;> (try (rw [Bool.eq_iff_iff]; simp; omega)))
  · have d1 : decide (1 ≤ m) = true := by simp; omega
    have d2 : decide (m < 8) = false := by simp; omega
    have d3 : decide (m ≤ 7) = false := by simp; omega
    cases b
    all_goals
      go_enter Try.func62, Try.ntmps62
      go_wp2
      go_region
      go_wp2
      all_goals (go_ret; refine formt_ret ?_ (by go_grown); unfold formN plainT; simp_all <;> (try omega) <;> (try (rw [Bool.eq_iff_iff]; simp; omega)))
set_option maxHeartbeats 16000000 in
set_option maxRecDepth 100000 in
theorem formt3 (x m : Int) (b : Bool) (T A F U : Option Addr) (tc ac fc uc tl al fl ul : Nat) (q : Bool) (w : World) (ht : tl ≤ 17592186044416) (ha : al ≤ 17592186044416) (hf : fl ≤ 17592186044416) (hu : ul ≤ 17592186044416) :
    Calls Try.prog 62 #[.agg #[.int .i64 3, .int .i64 x, .int .i64 m, .bool b, .slice T tl tc, .slice A al ac, .slice F fl fc, .slice U ul uc]] w (FormTP (formN 3 x m b tl al fl ul q) w) := by
  have hm9 : m < 0 ∨ (0 ≤ m ∧ m < 8) ∨ 8 ≤ m := by omega
  rcases hm9 with h1 | ⟨h1, h2⟩ | h2
  · have d1 : decide (0 ≤ m) = false := by simp; omega
    cases b
    all_goals
      go_enter Try.func62, Try.ntmps62
      go_wp2
      go_region
      go_wp2
      all_goals (go_ret; refine formt_ret ?_ (by go_grown); unfold formN plainT; simp_all <;> (try omega) <;> (try (rw [Bool.eq_iff_iff]; simp; omega)))
  · have d1 : decide (0 ≤ m) = true := by simp; omega
    have d2 : decide (m < 8) = true := by simp; omega
    have d3 : decide (m ≤ 7) = true := by simp; omega
    cases b
    all_goals
      go_enter Try.func62, Try.ntmps62
      go_wp2
      go_region
      go_wp2
      all_goals (go_ret; refine formt_ret ?_ (by go_grown); unfold formN plainT; simp_all <;> (try omega) <;> (try (rw [Bool.eq_iff_iff]; simp; omega)))
  · have d1 : decide (0 ≤ m) = true := by simp; omega
    have d2 : decide (m < 8) = false := by simp; omega
    have d3 : decide (m ≤ 7) = false := by simp; omega
    cases b
    all_goals
      go_enter Try.func62, Try.ntmps62
      go_wp2
      go_region
      go_wp2
      all_goals (go_ret; refine formt_ret ?_ (by go_grown); unfold formN plainT; simp_all <;> (try omega) <;> (try (rw [Bool.eq_iff_iff]; simp; omega)))
end Go.Proofs.Ytdmkjndlobichaa
