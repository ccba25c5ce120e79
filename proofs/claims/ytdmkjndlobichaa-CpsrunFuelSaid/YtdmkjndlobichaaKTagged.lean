/-
  THE WALK OF cps.Tagged.
-/
import Derived.Test.YtdmkjndlobichaaKMap
import Derived.Test.YtdmkjndlobichaaKGoodP
import Derived.Test.YtdmkjndlobichaaEInts
import Derived.Test.YtdmkjndlobichaaKSize
import Derived.WalkSpells
import Derived.BigQuiet
import Derived.Deep.RegionHeld3
namespace Go.Proofs.Ytdmkjndlobichaa
set_option linter.all false
open Go.ChangeShapes Go.WideShapes Go.ChangeAt Go.RowKit
open Ev (cnt tagsB tagIn)

theorem tagsB_step {i : Bool} {seen ts : List Int} {j : Nat} (hj : j < ts.length) (h : tagsB i seen (ts.drop j) = (!(seen.contains ts[j]) && tagIn i ts[j] && tagsB i (seen ++ [ts[j]]) (ts.drop (j + 1)))) : True := trivial
theorem tagsB_at {i : Bool} {seen ts : List Int} {j : Nat} (hj : j < ts.length) : tagsB i seen (ts.drop j) = (!(seen.contains ts[j]) && tagIn i ts[j] && tagsB i (seen ++ [ts[j]]) (ts.drop (j + 1))) := by
  rw [List.drop_eq_getElem_cons hj, tagsB]
theorem wf_cnt {l : List Int} (hl : l.length ≤ 17592186044416) (a : Int) : (Lit.int .i64 (cnt l a + 1)).wf = true := by
  have h1 : cnt l a ≤ l.length := by unfold Ev.cnt; have := List.length_filter_le (fun y => decide (y = a)) l; omega
  have h2 := Ev.cnt_nonneg l a
  simp [Lit.wf, IntKind.min, IntKind.max, IntKind.signed, IntKind.bits]; omega
theorem MapI.grown {w w' : World} {B B2 k : Nat} {f : Int → Int} (h : MapI w B f k) (hb : Below w.heap.size w w') : MapI w' B f k := h.below hb
set_option maxHeartbeats 8000000 in
set_option maxRecDepth 100000 in
theorem cps_tagged_no (k x m : Int) (b : Bool) (T A F U : Option Addr) (tc al ac fl fc : Nat) (ts : List Int) (l uc : Nat) (w : World) (hl : l ≤ 17592186044416) (ht : ts.length ≤ 17592186044416) (h : ¬ (0 < l ∧ (l = ts.length ∨ l = ts.length + 1))) :
    Calls Try.prog 92 #[.agg #[.int .i64 k, .int .i64 x, .int .i64 m, .bool b, .slice T ts.length tc, .slice A al ac, .slice F fl fc, .slice U l uc]] w fun e w' => e = .returned (.bool false) ∧ Below w.heap.size w w' := by
  obtain ⟨n, hn⟩ : ∃ n : Int, n = (l : Int) - ts.length := ⟨_, rfl⟩
  have q2 : IntKind.i64.wrap ((l : Int) - ts.length) = n := by rw [hn]; exact IntWalk.i64_in _ (by omega)
  by_cases h0 : n = 0
  · have d0 : (n != 0) = false := by simp [h0]
    have hl2 : ((l : Int) == 0) = true := by simp; omega
    clear h hn
    go_enter Try.func92, Try.ntmps92
    go_wp2
    go_ret
    exact ⟨rfl, by go_grown⟩
  · have d0 : (n != 0) = true := by simpa using h0
    by_cases h1 : n = 1
    · have d1 : (n != 1) = false := by simp [h1]
      have hl2 : ((l : Int) == 0) = true := by simp; omega
      clear h hn h0 h1
      go_enter Try.func92, Try.ntmps92
      go_wp2
      go_ret
      exact ⟨rfl, by go_grown⟩
    · have d1 : (n != 1) = true := by simpa using h1
      clear h hn h0 h1
      go_enter Try.func92, Try.ntmps92
      go_wp2
      go_ret
      exact ⟨rfl, by go_grown⟩
theorem tg_grown {w wr w1 : World} {cs : Array Value} {T : TypeId} (hb : Blk wr w.heap.size T cs) (hB : Below w.heap.size w wr) (hg : wr.grownBy w1 (some (w.heap.size + 1))) : Blk w1 w.heap.size T cs ∧ Below w.heap.size w w1 :=
  ⟨hb.grown hg (fun e => by injection e with e; omega), hB.grown hg (by have := hB.size; omega) (fun k hk => by injection hk with hk; omega)⟩
theorem updM_same (f : Int → Int) (s v : Int) : updM f s v s = v := by simp [updM]
set_option maxHeartbeats 8000000 in
set_option maxRecDepth 100000 in
theorem cps_tagged_yes (k x m : Int) (b : Bool) (T A F U : Option Addr) (tc al ac fl fc : Nat) (ts : List Int) (l uc : Nat) (S : Nat → Prop) (w : World) (hI : IAt w S ts T tc) (hl : l ≤ 17592186044416) (h : 0 < l ∧ (l = ts.length ∨ l = ts.length + 1)) :
    Calls Try.prog 92 #[.agg #[.int .i64 k, .int .i64 x, .int .i64 m, .bool b, .slice T ts.length tc, .slice A al ac, .slice F fl fc, .slice U l uc]] w fun e w' => e = .returned (.bool (tagsB b [] ts)) ∧ Below w.heap.size w w' := by
  have ht := hI.1.2.2.2
  obtain ⟨n, hn⟩ : ∃ n : Int, n = (l : Int) - ts.length := ⟨_, rfl⟩
  have q2 : IntKind.i64.wrap ((l : Int) - ts.length) = n := by rw [hn]; exact IntWalk.i64_in _ (by omega)
  have hl2 : ((l : Int) == 0) = false := by simp; omega
  have hn01 : n = 0 ∨ n = 1 := by omega
  have H := hid (And.intro hI ht)
  clear hn h hI
  have htm : (ts.length : Int) ≤ 17592186044416 := by omega
  have key : ∀ d0 d1 : Bool, (n != 0) = d0 → (n != 1) = d1 → (d0 && d1) = false → Calls Try.prog 92 #[.agg #[.int .i64 k, .int .i64 x, .int .i64 m, .bool b, .slice T ts.length tc, .slice A al ac, .slice F fl fc, .slice U l uc]] w fun e w' => e = .returned (.bool (tagsB b [] ts)) ∧ Below w.heap.size w w' := by
    intro d0 d1 e0 e1 e2
    clear hn01
    cases d0 <;> cases d1
    rotate_right
    · cases e2
    all_goals
      clear e2
      have hmm := @run_makeMap Try.prog
      go_enter Try.func92, Try.ntmps92
      go_wp2
      go_loopg [30] ts.length (fun g z wr => ∃ j : Nat, j + g = ts.length ∧ z = .int .i64 j ∧ Hid (MapI wr (w.heap.size + 1) (cnt (ts.take j)) j) ∧ Hid (Blk wr w.heap.size 27 #[.int .i64 k, .int .i64 x, .int .i64 m, .bool b, .slice T ts.length tc, .slice A al ac, .slice F fl fc, .slice U l uc]) ∧ Hid (Below w.heap.size w wr) ∧ Hid (tagsB b [] ts = tagsB b (ts.take j) (ts.drop j)))
      case atStart => exact ⟨0, by omega, rfl, hid (by have := MapI.made (w.alloc (.cells #[.int .i64 k, .int .i64 x, .int .i64 m, .bool b, .slice T ts.length tc, .slice A al ac, .slice F fl fc, .slice U l uc] 27)); rw [List.take_zero, Ev.cnt_nil]; simpa using this), hid ((Blk.new _ _ _).alloc _), hid (al2 w _ _), hid rfl⟩
      case round =>
        obtain ⟨j, hj, rfl, hM, hBX, hB, hE⟩ := hrel
        have HJ := hid hj
        by_cases hlt : j < ts.length
        · have hlt' : (j : Int) < ts.length := by omega
          obtain ⟨ad, rfl, hS9, y0, hwf⟩ := (H.out.1.keep (fun b hb hl => ⟨hB.out.block b hl, hb⟩)).2 j hlt
          obtain ⟨t, htt⟩ : ∃ t, t = ts[j] := ⟨_, rfl⟩
          have HTT := hid htt
          rw [← htt] at y0 hwf
          obtain ⟨v, hv⟩ : ∃ v, v = cnt (ts.take j) t := ⟨_, rfl⟩
          have HV := hid hv
          have hE2 := hE.out
          rw [tagsB_at hlt, ← htt] at hE2
          have HE2 := hid hE2
          have hwv := wf_cnt (l := ts.take j) (by simp; omega) t
          rw [← hv] at hwv
          have HWV := hid hwv
          have HWF := hid hwf
          have hv9 : 0 ≤ v ∧ v ≤ 17592186044416 := by
            have h1 : cnt (ts.take j) t ≤ (ts.take j).length := by unfold Ev.cnt; have := List.length_filter_le (fun y => decide (y = t)) (ts.take j); omega
            have h2 := Ev.cnt_nonneg (ts.take j) t
            simp at h1
            omega
          have q5 : IntKind.i64.wrap (v + 1) = v + 1 := IntWalk.i64_in _ (by omega)
          have HV9 := hid hv9
          clear hj htt hv hwv hwf hv9 hE2
          by_cases hv0 : 1 < v + 1
          · go_wp2_with (first | (have _ := HV; at_lookup; go_must (refine wpList_lookM (by rfl) _ _ (by rfl) hM.out HWF.out (by rfl) (by rfl) ?_); rw [← HV.out]; have HV2 := HV; clear HV) | (at_mapUpdate; go_must (refine wpList_putM (by rfl) _ _ _ (by rfl) hM.out (by unfold maxLen; omega) HWF.out HWV.out (by rfl) (by rfl) (by rfl) ?_); intro w1 hm1 hg1; go_must (have PM := hid hm1; have PB := hid (tg_grown hBX.out hB.out hg1); have x3 : w1.cell? ⟨w.heap.size, 3, none⟩ = _ := PB.out.1.cell 3; clear hm1 hg1)) | (at_lookup; go_must (refine wpList_lookM (by rfl) _ _ (by rfl) PM.out HWF.out (by rfl) (by rfl) ?_); rw [updM_same]))
            go_ret
            exact ⟨ret_bool (by rw [HE2.out]; have : (ts.take j).contains t = true := List.contains_iff_mem.2 (Ev.cnt_pos.1 (by rw [← HV2.out]; omega)); rw [this]; rfl), PB.out.2⟩
          have HNM := hid (show (ts.take j).contains t = false by
            rw [← Bool.not_eq_true, List.contains_iff_mem]
            intro h9
            have := Ev.cnt_pos.2 h9
            rw [← HV.out] at this
            omega)
          cases b
          · by_cases hlo : t < 0
            · go_wp2_with (first | (have _ := HV; at_lookup; go_must (refine wpList_lookM (by rfl) _ _ (by rfl) hM.out HWF.out (by rfl) (by rfl) ?_); rw [← HV.out]; have HV2 := HV; clear HV) | (at_mapUpdate; go_must (refine wpList_putM (by rfl) _ _ _ (by rfl) hM.out (by unfold maxLen; omega) HWF.out HWV.out (by rfl) (by rfl) (by rfl) ?_); intro w1 hm1 hg1; go_must (have PM := hid hm1; have PB := hid (tg_grown hBX.out hB.out hg1); have x3 : w1.cell? ⟨w.heap.size, 3, none⟩ = _ := PB.out.1.cell 3; clear hm1 hg1)) | (at_lookup; go_must (refine wpList_lookM (by rfl) _ _ (by rfl) PM.out HWF.out (by rfl) (by rfl) ?_); rw [updM_same]))
              go_ret
              exact ⟨ret_bool (by rw [HE2.out, HNM.out]; simp [Ev.tagIn]; omega), PB.out.2⟩
            · by_cases hhi : 32 ≤ t
              · go_wp2_with (first | (have _ := HV; at_lookup; go_must (refine wpList_lookM (by rfl) _ _ (by rfl) hM.out HWF.out (by rfl) (by rfl) ?_); rw [← HV.out]; have HV2 := HV; clear HV) | (at_mapUpdate; go_must (refine wpList_putM (by rfl) _ _ _ (by rfl) hM.out (by unfold maxLen; omega) HWF.out HWV.out (by rfl) (by rfl) (by rfl) ?_); intro w1 hm1 hg1; go_must (have PM := hid hm1; have PB := hid (tg_grown hBX.out hB.out hg1); have x3 : w1.cell? ⟨w.heap.size, 3, none⟩ = _ := PB.out.1.cell 3; clear hm1 hg1)) | (at_lookup; go_must (refine wpList_lookM (by rfl) _ _ (by rfl) PM.out HWF.out (by rfl) (by rfl) ?_); rw [updM_same]))
                go_ret
                exact ⟨ret_bool (by rw [HE2.out, HNM.out]; simp [Ev.tagIn]; omega), PB.out.2⟩
              · have HTI := hid (show tagIn false t = true by simp [Ev.tagIn]; omega)
                go_wp2_with (first | (have _ := HV; at_lookup; go_must (refine wpList_lookM (by rfl) _ _ (by rfl) hM.out HWF.out (by rfl) (by rfl) ?_); rw [← HV.out]; have HV2 := HV; clear HV) | (at_mapUpdate; go_must (refine wpList_putM (by rfl) _ _ _ (by rfl) hM.out (by unfold maxLen; omega) HWF.out HWV.out (by rfl) (by rfl) (by rfl) ?_); intro w1 hm1 hg1; go_must (have PM := hid hm1; have PB := hid (tg_grown hBX.out hB.out hg1); have x3 : w1.cell? ⟨w.heap.size, 3, none⟩ = _ := PB.out.1.cell 3; clear hm1 hg1)) | (at_lookup; go_must (refine wpList_lookM (by rfl) _ _ (by rfl) PM.out HWF.out (by rfl) (by rfl) ?_); rw [updM_same]))
                have hjg := HJ.out; go_roundg (gk - 1); (case rel => exact ⟨j + 1, by omega, by go_num, hid (by rw [List.take_succ_eq_append_getElem hlt, ← HTT.out, Ev.cnt_snoc, ← HV2.out]; exact PM.out), hid PB.out.1, hid PB.out.2, hid (by rw [HE2.out, HNM.out, HTI.out, List.take_succ_eq_append_getElem hlt, ← HTT.out]; simp)⟩); (case measure => omega)
          · obtain ⟨q, hq⟩ : ∃ q, in31 t = q := ⟨_, rfl⟩
            have HQ := hid hq
            clear hq
            cases q
            · go_wp2_with (first | (first | (have _ := HV; at_lookup; go_must (refine wpList_lookM (by rfl) _ _ (by rfl) hM.out HWF.out (by rfl) (by rfl) ?_); rw [← HV.out]; have HV2 := HV; clear HV) | (at_mapUpdate; go_must (refine wpList_putM (by rfl) _ _ _ (by rfl) hM.out (by unfold maxLen; omega) HWF.out HWV.out (by rfl) (by rfl) (by rfl) ?_); intro w1 hm1 hg1; go_must (have PM := hid hm1; have PB := hid (tg_grown hBX.out hB.out hg1); have x3 : w1.cell? ⟨w.heap.size, 3, none⟩ = _ := PB.out.1.cell 3; clear hm1 hg1)) | (at_lookup; go_must (refine wpList_lookM (by rfl) _ _ (by rfl) PM.out HWF.out (by rfl) (by rfl) ?_); rw [updM_same])) | (go_at_call 95; go_must (with_reducible refine (ints_In _ _).mono ?_); rw [HQ.out]; rintro e w' ⟨rfl, h9⟩; subst h9))
              go_ret
              exact ⟨ret_bool (by rw [HE2.out, HNM.out]; simp [Ev.tagIn, HQ.out]), PB.out.2⟩
            · have HTI := hid (show tagIn true t = true by simp [Ev.tagIn, HQ.out])
              go_wp2_with (first | (first | (have _ := HV; at_lookup; go_must (refine wpList_lookM (by rfl) _ _ (by rfl) hM.out HWF.out (by rfl) (by rfl) ?_); rw [← HV.out]; have HV2 := HV; clear HV) | (at_mapUpdate; go_must (refine wpList_putM (by rfl) _ _ _ (by rfl) hM.out (by unfold maxLen; omega) HWF.out HWV.out (by rfl) (by rfl) (by rfl) ?_); intro w1 hm1 hg1; go_must (have PM := hid hm1; have PB := hid (tg_grown hBX.out hB.out hg1); have x3 : w1.cell? ⟨w.heap.size, 3, none⟩ = _ := PB.out.1.cell 3; clear hm1 hg1)) | (at_lookup; go_must (refine wpList_lookM (by rfl) _ _ (by rfl) PM.out HWF.out (by rfl) (by rfl) ?_); rw [updM_same])) | (go_at_call 95; go_must (with_reducible refine (ints_In _ _).mono ?_); rw [HQ.out]; rintro e w' ⟨rfl, h9⟩; subst h9))
              have hjg := HJ.out; go_roundg (gk - 1); (case rel => exact ⟨j + 1, by omega, by go_num, hid (by rw [List.take_succ_eq_append_getElem hlt, ← HTT.out, Ev.cnt_snoc, ← HV2.out]; exact PM.out), hid PB.out.1, hid PB.out.2, hid (by rw [HE2.out, HNM.out, HTI.out, List.take_succ_eq_append_getElem hlt, ← HTT.out]; simp)⟩); (case measure => omega)
        · obtain rfl : j = ts.length := by omega
          clear hj
          go_wp2
          go_ret
          exact ⟨ret_bool (by rw [hE.out, List.drop_length]; rfl), hB.out⟩
  exact key _ _ rfl rfl (by rcases hn01 with h | h <;> simp [h])
end Go.Proofs.Ytdmkjndlobichaa
