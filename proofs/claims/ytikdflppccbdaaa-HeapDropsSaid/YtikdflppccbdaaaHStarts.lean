/-
  THE WALKS OF ref28.starts AND ref28.word.
-/
import Derived.Test.YtikdflppccbdaaaHBase
import Derived.Test.YtikdflppccbdaaaHCells
namespace Go.Proofs.Ytikdflppccbdaaa
open Go.ChangeShapes Go.WideShapes Go.ChangeAt Go.RowKit

/-- What starts answers. -/
def StartsAns (L : Nat) (r : Option (List Nat)) (e : Ending) (w' : World) : Prop :=
  match r with
  | none => e = .returned (.tuple #[.slice none 0 0, .bool false])
  | some sts => ∃ v, e = .returned (.tuple #[v, .bool true]) ∧ IsInts w' w'.heap.size v (marks L sts)

set_option maxRecDepth 100000 in
theorem ref28_starts (B : Nat) (A : Option Addr) (n c : Nat) (ws : List Int) (room : Int) (base top : Nat) (w : World) (hBw : B ≤ w.heap.size) (hi : Ints w B A n c ws) (hn : n ≤ 6000) (htop : top ≤ n) :
    Calls Try.prog 35 #[.agg #[.slice A n c, .int .i64 room, .int .i64 base, .int .i64 top]] w fun e w' => StartsAns n (stl (gw ws) top base) e w' ∧ Below w.heap.size w w' := by
  have hmk := make_ints n (by omega)
  have G := hid hi
  have HN := hid (And.intro hn htop)
  clear hi hn htop
  go_enter Try.func35, Try.ntmps35
  go_wp2
  go_loopg [5] (top - base) (fun g x wr => ∃ (k : Nat) (pre : List Nat), k + g = top - base + base ∧ x = .int .i64 k ∧ Hid (stl (gw ws) top base = (stl (gw ws) top k).map (pre ++ ·)) ∧ Hid (Below w.heap.size w wr) ∧ Hid (Blk wr w.heap.size 24 #[.slice A n c, .int .i64 room, .int .i64 base, .int .i64 top]) ∧ Hid (Blk wr (w.heap.size + 1) 3 (cellsOf (marks n pre))))
  case atStart =>
    refine ⟨base, [], by omega, rfl, hid ?_, hid (by go_grown), hid ((Blk.new _ _ _).alloc _), hid ?_⟩
    · cases stl (gw ws) top base <;> simp
    · rw [marks_nil]; exact Blk.new' (by simp) _ _
  case round =>
    obtain ⟨k, pre, hk, rfl, hs, hB, hX, hI⟩ := hrel
    obtain ⟨x0, x1, x2, x3, f0, f1, f2, f3⟩ := hX.out.four
    have Hk := hid hk
    by_cases hlt : k < top
    · have hkn : k < n := by have := HN.out; omega
      obtain ⟨ad, rfl⟩ := G.out.some_ hkn
      have q1 := (G.out.below (hB.out.mono hBw) (Nat.le_refl _)).cell hkn
      have hw := hid (G.out.wf_at hkn)
      have y1 := hI.out.cell k
      rw [cellsOf_get _ (by rw [marks_length]; exact hkn)] at y1
      have y2 := hI.out.frozen k
      clear hk
      have hk6 : k < 6000 := by have := HN.out; omega
      by_cases hok : OfOk (gw ws k)
      · have hV := hid (ofV_yes hok)
        have hsz := ofS_le hok
        by_cases hle : k + ofS (gw ws k) < top
        · have Hs := hid (stl_step hlt ⟨hok, hle⟩)
          clear hok
          generalize ofS (gw ws k) = s at hV hsz hle Hs
          go_wp2_with (go_at_call 45; go_must (refine (ref27_Of _ hw.out _).mono ?_); rw [hV.out]; rintro e w1 ⟨rfl, rfl⟩)
          have hgk := Hk.out
          go_roundg (gk - (s + 1))
          case rel =>
            refine ⟨k + s + 1, pre ++ [k], by omega, by go_num, hid ?_, hid (below_set hB.out (by omega) _), hid (hX.out.far (by dsimp only; omega) _), hid ?_⟩
            · rw [hs.out, Hs.out, Option.map_map]
              congr 1
              funext l
              simp
            · have := hI.out.set_ k (.int .i64 1)
              rwa [cellsOf_set, marks_set] at this
          case measure => omega
        · have Hs := hid (stl_bad hlt (fun h => hle h.2))
          clear hok
          generalize ofS (gw ws k) = s at hV hsz hle
          go_wp2_with (go_at_call 45; go_must (refine (ref27_Of _ hw.out _).mono ?_); rw [hV.out]; rintro e w1 ⟨rfl, rfl⟩)
          refine bodyPost_ret (results_tmp2 rfl _ _ _) rfl ?_
          refine ⟨?_, hB.out⟩
          rw [hs.out, Hs.out]
          rfl
      · have hV := hid (ofV_no hok)
        have Hs := hid (stl_bad hlt (fun h => hok h.1))
        go_wp2_with (go_at_call 45; go_must (refine (ref27_Of _ hw.out _).mono ?_); rw [hV.out]; rintro e w1 ⟨rfl, rfl⟩)
        refine bodyPost_ret (results_tmp2 rfl _ _ _) rfl ?_
        refine ⟨?_, hB.out⟩
        rw [hs.out, Hs.out]
        rfl
    · have Hs := hid (stl_end hlt (f := gw ws))
      clear hk
      go_wp2
      refine bodyPost_ret (results_tmp2 rfl _ _ _) rfl ?_
      refine ⟨?_, hB.out⟩
      rw [hs.out, Hs.out]
      refine ⟨_, rfl, _, _, _, rfl, ?_⟩
      have := ints_of_blk hI.out hI.out.lt (by rw [marks_length]; have := HN.out; omega) (marks_wf _ _)
      rw [marks_length] at this
      simpa using this

theorem ref28_word (B : Nat) (A : Option Addr) (n c : Nat) (sts : List Nat) (x : Int) (hx : (Lit.int .i64 x).wf = true) (w : World) (hi : Ints w B A n c (marks n sts)) :
    Calls Try.prog 36 #[.int .i64 x, .slice A n c] w fun e w' => e = .returned (.bool (wordB n sts x)) ∧ w = w' := by
  have HX := hid hx
  clear hx
  by_cases h1 : IntOk x
  · have hI := hid (decide_eq_true h1)
    clear h1 hi
    have hP := hid (rfl : plV x = plV x)
    go_enter Try.func36, Try.ntmps36
    go_wp2_with (first | (go_at_call 50; go_must (refine (ref27_ToInt x _).mono ?_); rintro e w1 ⟨⟨m, rfl⟩, rfl⟩; rw [hI.out]) | (go_at_call 51; go_must (refine (ref27_Place x HX.out _).mono ?_); rw [hP.out]; rintro e w1 ⟨rfl, rfl⟩))
    go_ret
    exact ⟨ret_bool (by unfold wordB; rw [hI.out]; rfl), rfl⟩
  · have hI := hid (decide_eq_false h1)
    clear h1
    by_cases h2 : PlOk x
    · have hP := hid (plV_yes h2)
      by_cases h3 : plN x < n
      · obtain ⟨ad, rfl⟩ := hi.some_ h3
        have q1 := hi.cell h3
        have HG := hid (marks_get h3 (sts := sts))
        have HQ := hid (And.intro h2 h3)
        clear hi h2
        by_cases h4 : sts.contains (plN x) = true
        · have e1 : gw (marks n sts) (plN x) = 1 := by have := HG.out; rw [if_pos h4] at this; exact this
          rw [e1] at q1
          have H4 := hid h4
          clear h4 e1
          go_enter Try.func36, Try.ntmps36
          go_wp2_with (first | (go_at_call 50; go_must (refine (ref27_ToInt x _).mono ?_); rintro e w1 ⟨⟨m, rfl⟩, rfl⟩; rw [hI.out]) | (go_at_call 51; go_must (refine (ref27_Place x HX.out _).mono ?_); rw [hP.out]; rintro e w1 ⟨rfl, rfl⟩))
          go_ret
          exact ⟨ret_bool (by unfold wordB; rw [hI.out, decide_eq_true HQ.out.1, decide_eq_true HQ.out.2, H4.out]; rfl), rfl⟩
        · have e1 : gw (marks n sts) (plN x) = 0 := by have := HG.out; rw [if_neg h4] at this; exact this
          rw [e1] at q1
          have H4 := hid (Bool.eq_false_iff.2 h4)
          clear h4 e1
          go_enter Try.func36, Try.ntmps36
          go_wp2_with (first | (go_at_call 50; go_must (refine (ref27_ToInt x _).mono ?_); rintro e w1 ⟨⟨m, rfl⟩, rfl⟩; rw [hI.out]) | (go_at_call 51; go_must (refine (ref27_Place x HX.out _).mono ?_); rw [hP.out]; rintro e w1 ⟨rfl, rfl⟩))
          go_ret
          exact ⟨ret_bool (by unfold wordB; rw [hI.out, decide_eq_true HQ.out.1, decide_eq_true HQ.out.2, H4.out]; rfl), rfl⟩
      · have HQ := hid (And.intro h2 h3)
        clear hi h2
        go_enter Try.func36, Try.ntmps36
        go_wp2_with (first | (go_at_call 50; go_must (refine (ref27_ToInt x _).mono ?_); rintro e w1 ⟨⟨m, rfl⟩, rfl⟩; rw [hI.out]) | (go_at_call 51; go_must (refine (ref27_Place x HX.out _).mono ?_); rw [hP.out]; rintro e w1 ⟨rfl, rfl⟩))
        go_ret
        exact ⟨ret_bool (by unfold wordB; rw [hI.out, decide_eq_true HQ.out.1, decide_eq_false HQ.out.2]; rfl), rfl⟩
    · have hP := hid (plV_no h2)
      have HQ := hid h2
      clear hi h2
      go_enter Try.func36, Try.ntmps36
      go_wp2_with (first | (go_at_call 50; go_must (refine (ref27_ToInt x _).mono ?_); rintro e w1 ⟨⟨m, rfl⟩, rfl⟩; rw [hI.out]) | (go_at_call 51; go_must (refine (ref27_Place x HX.out _).mono ?_); rw [hP.out]; rintro e w1 ⟨rfl, rfl⟩))
      go_ret
      exact ⟨ret_bool (by unfold wordB; rw [hI.out, decide_eq_false HQ.out]; rfl), rfl⟩
end Go.Proofs.Ytikdflppccbdaaa
