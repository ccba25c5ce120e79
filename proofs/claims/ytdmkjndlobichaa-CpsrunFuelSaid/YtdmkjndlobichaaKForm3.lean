/-
  THE WALK OF cps.formed: KINDS 6; ALL.
-/
import Derived.Test.YtdmkjndlobichaaKForm2
import Derived.BigRegion
namespace Go.Proofs.Ytdmkjndlobichaa
set_option linter.all false
open Go.ChangeShapes Go.WideShapes Go.ChangeAt Go.RowKit
open Tm (formN plainT formT taggedT)
open Ev (tagsB)
theorem cps_tagged (k x m : Int) (b : Bool) (T A F U : Option Addr) (tc al ac fl fc tl : Nat) (ts : List Int) (l uc : Nat) (S : Nat → Prop) (w : World) (htl : tl = ts.length) (hI : IAt w S ts T tc) (hl : l ≤ 17592186044416) :
    Calls Try.prog 92 #[.agg #[.int .i64 k, .int .i64 x, .int .i64 m, .bool b, .slice T tl tc, .slice A al ac, .slice F fl fc, .slice U l uc]] w (FormTP (taggedT b ts l) w) := by
  subst htl
  by_cases h : 0 < l ∧ (l = ts.length ∨ l = ts.length + 1)
  · have e : taggedT b ts l = tagsB b [] ts := by unfold taggedT; rw [decide_eq_true h, Bool.true_and]
    rw [e]
    exact cps_tagged_yes k x m b T A F U tc al ac fl fc ts l uc S w hI hl h
  · have e : taggedT b ts l = false := by unfold taggedT; rw [decide_eq_false h, Bool.false_and]
    rw [e]
    exact cps_tagged_no k x m b T A F U tc al ac fl fc ts l uc w hl hI.1.2.2.2 h
theorem fm_box8 {w w1 : World} {t1 t2 : TypeId} {c1 c2 : Array Value} (hb : Below ((w.alloc (.cells c1 t1)).alloc (.cells c2 t2)).drew.heap.size ((w.alloc (.cells c1 t1)).alloc (.cells c2 t2)).drew w1) : Blk w1 w.heap.size t1 c1 ∧ Blk w1 (w.heap.size + 1) t2 c2 ∧ Below w.heap.size w w1 :=
  ⟨Blk.below (w := ((w.alloc (.cells c1 t1)).alloc (.cells c2 t2)).drew) ((Blk.new w t1 c1).alloc _) hb (by simp; omega), Blk.below (w := ((w.alloc (.cells c1 t1)).alloc (.cells c2 t2)).drew) (Blk.new' (w := w.alloc (.cells c1 t1)) (by simp) t2 c2) hb (by simp), below_hop hb (al2 w _ _).drew⟩
set_option maxHeartbeats 16000000 in
set_option maxRecDepth 100000 in
theorem formt6 (x m : Int) (b : Bool) (T A F U : Option Addr) (tc ac fc uc al fl ul : Nat) (ts : List Int) (S : Nat → Prop) (w : World) (ha : al ≤ 17592186044416) (hf : fl ≤ 17592186044416) (hu : ul ≤ 17592186044416) (hI : IAt w S ts T tc) :
    Calls Try.prog 62 #[.agg #[.int .i64 6, .int .i64 x, .int .i64 m, .bool b, .slice T ts.length tc, .slice A al ac, .slice F fl fc, .slice U ul uc]] w (FormTP (formN 6 x m b ts.length al fl ul (taggedT b ts ul)) w) := by
  have ht := hI.1.2.2.2
  obtain ⟨q, hq⟩ : ∃ q, taggedT b ts ul = q := ⟨_, rfl⟩
  have HQ := hid hq
  have HI := hid hI
  have HL := hid hu
  obtain ⟨tl, htl⟩ : ∃ tl, tl = ts.length := ⟨_, rfl⟩
  rw [← htl]
  have HTL := hid htl
  have htm : tl ≤ 17592186044416 := by omega
  rw [hq]
  clear hq hI ht htl
  cases q
  all_goals
    go_enter Try.func62, Try.ntmps62
    go_wp2
    go_region_held3 (fun w' => (w').cell? ⟨w.heap.size, 0, none⟩ = some (.int .i64 6) ∧ (w').cell? ⟨w.heap.size, 1, none⟩ = some (.int .i64 x) ∧ (w').cell? ⟨w.heap.size, 2, none⟩ = some (.int .i64 m) ∧ (w').cell? ⟨w.heap.size, 3, none⟩ = some (.bool b) ∧ (w').cell? ⟨w.heap.size, 4, none⟩ = some (.slice T tl tc) ∧ (w').cell? ⟨w.heap.size, 5, none⟩ = some (.slice A al ac) ∧ (w').cell? ⟨w.heap.size, 6, none⟩ = some (.slice F fl fc) ∧ (w').cell? ⟨w.heap.size, 7, none⟩ = some (.slice U ul uc)) (first | with_reducible exact ⟨x0, x1, x2, x3, x4, x5, x6, x7⟩ | go_keep)
      (first | (go_at_call 92; (refine (cps_tagged 6 x m b T A F U tc al ac fl fc tl ts ul uc S _ HTL.out (HI.out.keep (fun b hb hl => ⟨(al2 w _ _).drew.block b hl, hb⟩)) HL.out).mono ?_); rw [HQ.out]; rintro e w1 ⟨rfl, b1⟩; have FB := hid (fm_box8 b1); obtain ⟨x0, x1, x2, x3, x4, x5, x6, x7⟩ := FB.out.1.eight; obtain ⟨o0, o1, o2, o3, o4, o5, o6, o7⟩ := FB.out.2.1.eight; have g3 := FB.out.2.1.frozen 3; have g4 := FB.out.2.1.frozen 4; clear b1))
    all_goals
      go_wp2
      all_goals (go_ret; refine formt_ret ?_ (by have B := FB.out.2.2; go_grown))
      all_goals (unfold formN plainT; simp_all <;> (try omega) <;> (try (rw [Bool.eq_iff_iff]; simp <;> omega)))
theorem formN_none (k x m : Int) (b q : Bool) (tl al fl ul : Nat) (h1 : k ≠ 1) (h2 : k ≠ 2) (h3 : k ≠ 3) (h4 : k ≠ 4) (h5 : k ≠ 5) (h6 : k ≠ 6) (h7 : k ≠ 7) (h8 : k ≠ 8) : formN k x m b tl al fl ul q = false := by
  unfold formN
  rw [if_neg h1, if_neg h2, if_neg h3, if_neg h4, if_neg h5, if_neg h6, if_neg h7, if_neg h8]
theorem cps_formed (k x m : Int) (b : Bool) (T A F U : Option Addr) (tc ac fc uc al fl ul : Nat) (ts : List Int) (S : Nat → Prop) (w : World) (ha : al ≤ 17592186044416) (hf : fl ≤ 17592186044416) (hu : ul ≤ 17592186044416) (hI : IAt w S ts T tc) :
    Calls Try.prog 62 #[.agg #[.int .i64 k, .int .i64 x, .int .i64 m, .bool b, .slice T ts.length tc, .slice A al ac, .slice F fl fc, .slice U ul uc]] w (FormTP (formT k x m b ts al fl ul) w) := by
  have ht := hI.1.2.2.2
  unfold formT
  by_cases h1 : k = 1
  · subst h1; exact formt1 x m b T A F U tc ac fc uc _ al fl ul _ w ht ha hf hu
  by_cases h2 : k = 2
  · subst h2; exact formt2 x m b T A F U tc ac fc uc _ al fl ul _ w ht ha hf hu
  by_cases h3 : k = 3
  · subst h3; exact formt3 x m b T A F U tc ac fc uc _ al fl ul _ w ht ha hf hu
  by_cases h4 : k = 4
  · subst h4; exact formt4 x m b T A F U tc ac fc uc _ al fl ul _ w ht ha hf hu
  by_cases h5 : k = 5
  · subst h5; exact formt5 x m b T A F U tc ac fc uc _ al fl ul _ w ht ha hf hu
  by_cases h6 : k = 6
  · subst h6; exact formt6 x m b T A F U tc ac fc uc al fl ul ts S w ha hf hu hI
  by_cases h7 : k = 7
  · subst h7; exact formt7 x m b T A F U tc ac fc uc _ al fl ul _ w ht ha hf hu
  by_cases h8 : k = 8
  · subst h8; exact formt8 x m b T A F U tc ac fc uc _ al fl ul _ w ht ha hf hu
  rw [formN_none k x m b _ _ al fl ul h1 h2 h3 h4 h5 h6 h7 h8]
  have e : ∀ {a b : Int}, a ≠ b → (a == b) = false := fun h => by simpa using h
  exact formt0 k x m b T A F U tc ac fc uc _ al fl ul w (e h1) (e h2) (e h3) (e h4) (e h5) (e h6) (e h7) (e h8)
end Go.Proofs.Ytdmkjndlobichaa
