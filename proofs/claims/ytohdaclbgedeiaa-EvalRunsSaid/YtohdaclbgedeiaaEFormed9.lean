/-
  THE WALK OF core.formed: a switch.
-/
import Derived.Test.YtohdaclbgedeiaaEFormed
namespace Go.Proofs.Ytohdaclbgedeiaa
set_option linter.all false
open Go.ChangeShapes Go.WideShapes Go.ChangeAt Go.RowKit
open Ev (Co nodes nodesL cnt taggedB tagsB tagIn formB plainB)

theorem core_tagged (k x y m : Int) (b : Bool) (T A : Option Addr) (tc : Nat) (ts : List Int) (l c : Nat) (S : Nat → Prop) (w : World) (hI : IAt w S ts T tc) (hl : l ≤ 17592186044416) :
    Calls Try.prog 67 #[.agg #[.int .i64 k, .int .i64 x, .int .i64 y, .int .i64 m, .bool b, .slice T ts.length tc, .slice A l c]] w (FormP (taggedB b ts l) w) := by
  by_cases h : 2 ≤ l ∧ (l = ts.length + 1 ∨ l = ts.length + 2)
  · have e : taggedB b ts l = tagsB b [] ts := by unfold taggedB; rw [decide_eq_true h, Bool.true_and]
    rw [e]
    exact core_tagged_yes k x y m b T A tc ts l c S w hI hl h
  · have e : taggedB b ts l = false := by unfold taggedB; rw [decide_eq_false h, Bool.false_and]
    rw [e]
    exact core_tagged_no k x y m b T A tc ts l c w hl hI.1.2.2.2 h
theorem core_tagged' (k x y m : Int) (b : Bool) (T A : Option Addr) (tl tc : Nat) (ts : List Int) (l c : Nat) (S : Nat → Prop) (w : World) (htl : tl = ts.length) (hI : IAt w S ts T tc) (hl : l ≤ 17592186044416) :
    Calls Try.prog 67 #[.agg #[.int .i64 k, .int .i64 x, .int .i64 y, .int .i64 m, .bool b, .slice T tl tc, .slice A l c]] w (FormP (taggedB b ts l) w) := by
  subst htl
  exact core_tagged k x y m b T A tc ts l c S w hI hl
theorem fm_box {w w1 : World} {t1 t2 : TypeId} {c1 c2 : Array Value} (hb : Below ((w.alloc (.cells c1 t1)).alloc (.cells c2 t2)).drew.heap.size ((w.alloc (.cells c1 t1)).alloc (.cells c2 t2)).drew w1) : Blk w1 w.heap.size t1 c1 ∧ Blk w1 (w.heap.size + 1) t2 c2 ∧ Below w.heap.size w w1 :=
  ⟨Blk.below (w := ((w.alloc (.cells c1 t1)).alloc (.cells c2 t2)).drew) ((Blk.new w t1 c1).alloc _) hb (by simp; omega), Blk.below (w := ((w.alloc (.cells c1 t1)).alloc (.cells c2 t2)).drew) (Blk.new' (w := w.alloc (.cells c1 t1)) (by simp) t2 c2) hb (by simp), below_hop hb (al2 w _ _).drew⟩
set_option maxHeartbeats 16000000 in
set_option maxRecDepth 100000 in
theorem formed9 (x y m : Int) (b : Bool) (T A : Option Addr) (tc : Nat) (ts : List Int) (l c : Nat) (S : Nat → Prop) (w : World) (hl : l ≤ 17592186044416) (hI : IAt w S ts T tc) :
    Calls Try.prog 57 #[.agg #[.int .i64 9, .int .i64 x, .int .i64 y, .int .i64 m, .bool b, .slice T ts.length tc, .slice A l c]] w (FormP (formB 9 x y m b ts l) w) := by
  have ht := hI.1.2.2.2
  obtain ⟨q, hq⟩ : ∃ q, taggedB b ts l = q := ⟨_, rfl⟩
  have HQ := hid hq
  have HI := hid hI
  have HL := hid hl
  obtain ⟨tl, htl⟩ : ∃ tl, tl = ts.length := ⟨_, rfl⟩
  rw [← htl]
  have HTL := hid htl
  have htm : tl ≤ 17592186044416 := by omega
  clear hq hI ht htl
  cases q
  all_goals
    go_enter Try.func57, Try.ntmps57
    go_wp2
    go_region_held3 (fun w' => (w').cell? ⟨w.heap.size, 0, none⟩ = some (.int .i64 9) ∧ (w').cell? ⟨w.heap.size, 1, none⟩ = some (.int .i64 x) ∧ (w').cell? ⟨w.heap.size, 2, none⟩ = some (.int .i64 y) ∧ (w').cell? ⟨w.heap.size, 3, none⟩ = some (.int .i64 m) ∧ (w').cell? ⟨w.heap.size, 4, none⟩ = some (.bool b) ∧ (w').cell? ⟨w.heap.size, 5, none⟩ = some (.slice T tl tc) ∧ (w').cell? ⟨w.heap.size, 6, none⟩ = some (.slice A l c)) (first | with_reducible exact ⟨x0, x1, x2, x3, x4, x5, x6⟩ | go_keep)
      (first | (go_at_call 67; (refine (core_tagged' 9 x y m b T A tl tc ts l c S _ HTL.out (HI.out.keep (fun b hb hl => ⟨(al2 w _ _).drew.block b hl, hb⟩)) HL.out).mono ?_); rw [HQ.out]; rintro e w1 ⟨rfl, b1⟩; have FB := hid (fm_box b1); obtain ⟨x0, x1, x2, x3, x4, x5, x6⟩ := FB.out.1.seven; obtain ⟨o0, o1, o2, o3, o4, o5, o6⟩ := FB.out.2.1.seven; have g4 := FB.out.2.1.frozen 4; have g5 := FB.out.2.1.frozen 5; clear b1))
    all_goals
      go_wp2
      all_goals (go_ret; refine form_ret ?_ (by have B := FB.out.2.2; go_grown))
      all_goals (have hq := HQ.out; unfold formB; simp_all <;> (try omega))
end Go.Proofs.Ytohdaclbgedeiaa
