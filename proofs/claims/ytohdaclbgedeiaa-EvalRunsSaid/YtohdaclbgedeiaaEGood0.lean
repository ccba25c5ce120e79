/-
  THE WALK OF core.good.
-/
import Derived.Test.YtohdaclbgedeiaaEGoodA
namespace Go.Proofs.Ytohdaclbgedeiaa
set_option linter.all false
open Go.ChangeShapes Go.WideShapes Go.ChangeAt Go.RowKit
open Ev (Co nodes nodesL goodM goodML formB bindL addM updI)
theorem gm_box {w w1 : World} {t1 t2 t3 : TypeId} {c1 c2 c3 : Array Value} (hb : Below (((w.alloc (.cells c1 t1)).alloc (.cells c2 t2)).alloc (.cells c3 t3)).heap.size (((w.alloc (.cells c1 t1)).alloc (.cells c2 t2)).alloc (.cells c3 t3)) w1) : Blk w1 w.heap.size t1 c1 ∧ Blk w1 (w.heap.size + 1) t2 c2 ∧ Blk w1 (w.heap.size + 2) t3 c3 ∧ Below w.heap.size w w1 := by
  have e1 : (w.alloc (.cells c1 t1)).heap.size = w.heap.size + 1 := by simp
  have e2 : ((w.alloc (.cells c1 t1)).alloc (.cells c2 t2)).heap.size = w.heap.size + 2 := by simp
  have e3 : (((w.alloc (.cells c1 t1)).alloc (.cells c2 t2)).alloc (.cells c3 t3)).heap.size = w.heap.size + 3 := by simp
  exact ⟨(((Blk.new w t1 c1).alloc _).alloc _).below hb (by omega), ((Blk.new' e1.symm t2 c2).alloc _).below hb (by omega), (Blk.new' e2.symm t3 c3).below hb (by omega), below_hop hb (((al1 w _).alloc (by simp) _).alloc (by simp; omega) _)⟩
set_option maxHeartbeats 8000000 in
set_option maxRecDepth 100000 in
theorem good_deep (v : Value) (S : Nat → Prop) (t : Co) (w : World) (d : Int) (M : Nat) (hv : CAt w S t v) (hd : 1024 < d) : Calls Try.prog 44 #[v, .int .i64 d, .map (some M)] w (fun e w' => e = .returned (.bool false) ∧ Below w.heap.size w w') := by
  obtain ⟨k9, x9, y9, n9, i9, T9, tl9, tc9, A9, m9, c9, rfl⟩ := hv.agg
  have d1 : decide (1024 < d) = true := decide_eq_true hd
  clear hv
  go_enter Try.func44, Try.ntmps44
  go_wp2
  go_ret
  exact ⟨rfl, by go_grown⟩
set_option maxHeartbeats 8000000 in
set_option maxRecDepth 100000 in
theorem good_bad (k x y m : Int) (b : Bool) (T A : Option Addr) (tc : Nat) (ts : List Int) (l c : Nat) (S : Nat → Prop) (w : World) (d : Int) (M : Nat) (hI : IAt w S ts T tc) (hl : l ≤ 17592186044416) (hd : ¬ 1024 < d) (hf : formB k x y m b ts l = false) : Calls Try.prog 44 #[.agg #[.int .i64 k, .int .i64 x, .int .i64 y, .int .i64 m, .bool b, .slice T ts.length tc, .slice A l c], .int .i64 d, .map (some M)] w (fun e w' => e = .returned (.bool false) ∧ Below w.heap.size w w') := by
  have d1 : decide (1024 < d) = false := decide_eq_false hd
  have ht := hI.1.2.2.2
  have HI := hid hI
  have HL := hid hl
  have HF := hid hf
  clear hf hI
  go_enter Try.func44, Try.ntmps44
  go_wp2_with (go_at_call 57; go_must (refine (core_formed _ _ _ _ _ _ _ _ _ _ _ S _ (HI.out.keep (fun b hb hl => ⟨((al2 w _ _).trans ((al1 _ _).mono (by simp; omega))).block b hl, hb⟩)) HL.out).mono ?_); rintro e w1 ⟨e9, b1⟩; go_must (rw [HF.out] at e9; subst e9; have FB := hid (gm_box b1); obtain ⟨x0, x1, x2, x3, x4, x5, x6⟩ := FB.out.1.seven; have p0 : w1.cell? ⟨w.heap.size + 1, 0, none⟩ = some (.int .i64 d) := FB.out.2.1.cell 0; have r0 : w1.cell? ⟨w.heap.size + 2, 0, none⟩ = some (.map (some M)) := FB.out.2.2.1.cell 0; clear b1))
  go_ret
  exact ⟨rfl, FB.out.2.2.2⟩
/-- Where good's loop stands. -/
def GSt (w wr : World) (M : Nat) (cs : Array Value) (d : Int) (R : Nat) (row : Array Value) : Prop := Blk wr w.heap.size 25 cs ∧ Blk wr (w.heap.size + 1) 3 #[.int .i64 d] ∧ Blk wr (w.heap.size + 2) 76 #[.map (some M)] ∧ Blk wr R 3 row ∧ w.grownBy wr (some M)
theorem GSt.grown {w wr w' : World} {M k : Nat} {cs : Array Value} {d : Int} {R : Nat} {row : Array Value} {f : Int → Int} (h : GSt w wr M cs d R row) (hm : MapI wr M f k) (hg : wr.grownBy w' (some M)) : GSt w w' M cs d R row := by
  obtain ⟨h1, h2, h3, h4, h5⟩ := h
  have hne : ∀ {g : Nat} {t : TypeId} {cs : Array Value}, Blk wr g t cs → some g ≠ some M := fun hb e => map_blk_ne hm hb (by injection e)
  exact ⟨h1.grown hg (hne h1), h2.grown hg (hne h2), h3.grown hg (hne h3), h4.grown hg (hne h4), h5.trans hg⟩
theorem below_by {w w' : World} (h : Below w.heap.size w w') (r : Option Nat) : w.grownBy w' r := ⟨h.os, h.tape, h.output, h.size, fun k hk _ => h.block k hk⟩
theorem gm_row {w w1 : World} {M : Nat} {cs : Array Value} {d : Int} {row : Array Value} (h : Blk w1 w.heap.size 25 cs ∧ Blk w1 (w.heap.size + 1) 3 #[.int .i64 d] ∧ Blk w1 (w.heap.size + 2) 76 #[.map (some M)] ∧ Below w.heap.size w w1) : GSt w (w1.alloc (.cells row 3)) M cs d w1.heap.size row :=
  ⟨h.1.alloc _, h.2.1.alloc _, h.2.2.1.alloc _, Blk.new _ _ _, (below_by h.2.2.2 _).trans (World.grownBy_alloc _ _ _)⟩
theorem good_none {k x y m : Int} {b : Bool} {ts : List Int} {us : List Co} {d : Int} {f : Int → Int} {l : List Int} (hb : bindL k x y = l) (h : addM l f = none) : goodM (.mk k x y m b ts us) d f = none := by
  rw [goodM]
  split
  · rfl
  · rw [hb, h]
theorem good_some {k x y m : Int} {b : Bool} {ts : List Int} {us : List Co} {d : Int} {f g : Int → Int} {l : List Int} (hd : ¬ 1024 < d) (hf : formB k x y m b ts us.length = true) (hb : bindL k x y = l) (h : addM l f = some g) : goodM (.mk k x y m b ts us) d f = goodML us (d + 1) g := by
  rw [goodM, if_neg (fun h9 => by rcases h9 with h9 | h9; exact hd h9; rw [hf] at h9; cases h9), hb, h]
theorem good_fail {k x y m : Int} {b : Bool} {ts : List Int} {us : List Co} {d : Int} {f : Int → Int} {l : List Int} {n M : Nat} {w w' : World} (hb : bindL k x y = l) (h : addM l f = none) (hg : w.grownBy w' (some M)) : GoodP (.mk k x y m b ts us) d f n M w (.returned (.bool false)) w' := by
  have e := good_none (m := m) (b := b) (ts := ts) (us := us) (d := d) hb h
  exact ⟨by rw [e]; rfl, fun g h9 => (by rw [e] at h9; cases h9), hg⟩
theorem good_pass {t : Co} {us : List Co} {d : Int} {f g : Int → Int} {n n2 M : Nat} {w wr w' : World} {q : Bool} (hs : goodM t d f = goodML us (d + 1) g) (hq : (goodML us (d + 1) g).isSome = q) (hG : (∀ g9, goodML us (d + 1) g = some g9 → MapI w' M g9 (n2 + 2 * nodesL us)) ∧ wr.grownBy w' (some M)) (hg : w.grownBy wr (some M)) (hn : n2 + 2 * nodesL us ≤ n + 2 * nodes t) : GoodP t d f n M w (.returned (.bool q)) w' :=
  ⟨by rw [hs, hq], fun g9 h9 => (hG.1 g9 (by rw [← hs]; exact h9)).mono hn, hg.trans hG.2⟩
set_option maxHeartbeats 8000000 in
set_option maxRecDepth 100000 in
theorem good_three (k x y m : Int) (b : Bool) (T A : Option Addr) (tc : Nat) (ts : List Int) (us : List Co) (c : Nat) (S : Nat → Prop) (w : World) (d : Int) (f : Int → Int) (n M : Nat) (hk : k = 3 ∨ k = 5) (hI : IAt w S ts T tc) (hl : us.length ≤ 17592186044416) (hrow : CRow w S us A 0) (hS : ∀ b, S b → b ≠ M) (hm : MapI w M f n) (hz : Z01 f) (hn : n + 2 + 2 * nodesL us ≤ 17592186044416) (hwf : Wf4 k x y m) (hd : ¬ 1024 < d) (hd0 : 0 ≤ d) (hf : formB k x y m b ts us.length = true) (H : GoodH us (d + 1) M) : Calls Try.prog 44 #[.agg #[.int .i64 k, .int .i64 x, .int .i64 y, .int .i64 m, .bool b, .slice T ts.length tc, .slice A us.length c], .int .i64 d, .map (some M)] w (GoodP (.mk k x y m b ts us) d f n M w) := by
  have d1 : decide (1024 < d) = false := decide_eq_false hd
  have ht := hI.1.2.2.2
  have HI := hid hI
  have HL := hid hl
  have HF := hid hf
  have Q := hid (And.intro hrow (And.intro hS (And.intro H (And.intro hm (And.intro hz (And.intro hn hwf))))))
  have HD := hid (And.intro hd hd0)
  clear hf hI hrow hS hm hn H hwf hz
  rcases hk with rfl | rfl
  all_goals
    go_enter Try.func44, Try.ntmps44
    go_wp2_with (go_at_call 57; go_must (refine (core_formed _ _ _ _ _ _ _ _ _ _ _ S _ (HI.out.keep (fun b hb hl => ⟨((al2 w _ _).trans ((al1 _ _).mono (by simp; omega))).block b hl, hb⟩)) HL.out).mono ?_); rintro e w1 ⟨e9, b1⟩; go_must (rw [HF.out] at e9; subst e9; have FB := hid (gm_box b1); obtain ⟨x0, x1, x2, x3, x4, x5, x6⟩ := FB.out.1.seven; have p0 : w1.cell? ⟨w.heap.size + 1, 0, none⟩ = some (.int .i64 d) := FB.out.2.1.cell 0; have r0 : w1.cell? ⟨w.heap.size + 2, 0, none⟩ = some (.map (some M)) := FB.out.2.2.1.cell 0; clear b1))
    have GS := hid (gm_row (row := #[.int .i64 x]) FB.out)
    have MS := hid ((Q.out.2.2.2.1.below FB.out.2.2.2).below (al1 w1 (.cells #[.int .i64 x] 3)))
    clear x0 x1 x2 x3 x4 x5 x6 p0 r0
    generalize w1.alloc _ = w2 at GS MS ⊢
    go_loopg [34] 1 (fun gg z wr => ∃ (j : Nat) (g : Int → Int), j + gg = 1 ∧ z = .int .i64 j ∧ Hid (MapI wr M g (n + j) ∧ Z01 g) ∧ Hid (addM ([x].drop j) g = addM [x] f) ∧ Hid (GSt w wr M (#[.int .i64 _, .int .i64 x, .int .i64 y, .int .i64 m, .bool b, .slice T ts.length tc, .slice A us.length c]) d w1.heap.size #[.int .i64 x]))
    case atStart => exact ⟨0, f, by omega, rfl, hid ⟨MS.out, Q.out.2.2.2.2.1⟩, hid rfl, GS⟩
    case round =>
      obtain ⟨j, g, hj, rfl, hM, hE, hG⟩ := hrel
      have Hj := hid hj
      have r0 : wr.cell? ⟨w.heap.size + 2, 0, none⟩ = some (.map (some M)) := hG.out.2.2.1.cell 0
      by_cases hlt : j < 1
      · obtain rfl : j = 0 := by omega
        have y0 : wr.cell? ⟨w1.heap.size, 0, none⟩ = some (.int .i64 x) := hG.out.2.2.2.1.cell 0
        have HWF := hid Q.out.2.2.2.2.2.2.2.1
        obtain ⟨v, hv⟩ : ∃ v, v = g x := ⟨_, rfl⟩
        have HV := hid hv
        have hv9 : 0 ≤ v ∧ v ≤ 1 := by rw [hv]; exact hM.out.2 x
        have HWV := hid (show (Lit.int .i64 (v + 1)).wf = true by simp [Lit.wf, IntKind.min, IntKind.max, IntKind.signed, IntKind.bits]; omega)
        have q5 : IntKind.i64.wrap (v + 1) = v + 1 := IntWalk.i64_in _ (by omega)
        have hE2 : addM (x :: []) g = _ := hE.out
        rw [addM, ← hv] at hE2
        have HE2 := hid hE2
        have HV9 := hid hv9
        clear hv hv9 hE2 hj
        by_cases hv0 : 1 < v + 1
        · go_wp2_with (first | (have _ := HV; at_lookup; go_must (refine wpList_lookM (by rfl) _ _ (by rfl) hM.out.1 HWF.out (by rfl) (by rfl) ?_); rw [← HV.out]; have HV2 := HV; clear HV) | (at_mapUpdate; go_must (refine wpList_putM (by rfl) _ _ _ (by rfl) hM.out.1 (by have := Q.out.2.2.2.2.2.1; unfold maxLen; omega) HWF.out HWV.out (by rfl) (by rfl) (by rfl) ?_); intro w9 hm9 hg9; go_must (have PM := hid hm9; have PB := hid (hG.out.grown hM.out.1 hg9); have r9 : w9.cell? ⟨w.heap.size + 2, 0, none⟩ = some (.map (some M)) := PB.out.2.2.1.cell 0; clear hm9 hg9)) | (at_lookup; go_must (refine wpList_lookM (by rfl) _ _ (by rfl) PM.out HWF.out (by rfl) (by rfl) ?_); rw [updM_same]))
          go_ret
          exact good_fail (l := [x]) (by simp [bindL]) (by rw [← HE2.out, if_pos (.inl hv0)]) PB.out.2.2.2.2
        by_cases h1 : x < 1
        · go_wp2_with (first | (have _ := HV; at_lookup; go_must (refine wpList_lookM (by rfl) _ _ (by rfl) hM.out.1 HWF.out (by rfl) (by rfl) ?_); rw [← HV.out]; have HV2 := HV; clear HV) | (at_mapUpdate; go_must (refine wpList_putM (by rfl) _ _ _ (by rfl) hM.out.1 (by have := Q.out.2.2.2.2.2.1; unfold maxLen; omega) HWF.out HWV.out (by rfl) (by rfl) (by rfl) ?_); intro w9 hm9 hg9; go_must (have PM := hid hm9; have PB := hid (hG.out.grown hM.out.1 hg9); have r9 : w9.cell? ⟨w.heap.size + 2, 0, none⟩ = some (.map (some M)) := PB.out.2.2.1.cell 0; clear hm9 hg9)) | (at_lookup; go_must (refine wpList_lookM (by rfl) _ _ (by rfl) PM.out HWF.out (by rfl) (by rfl) ?_); rw [updM_same]))
          go_ret
          exact good_fail (l := [x]) (by simp [bindL]) (by rw [← HE2.out, if_pos (.inr (.inl h1))]) PB.out.2.2.2.2
        by_cases h2 : 65536 < x
        · go_wp2_with (first | (have _ := HV; at_lookup; go_must (refine wpList_lookM (by rfl) _ _ (by rfl) hM.out.1 HWF.out (by rfl) (by rfl) ?_); rw [← HV.out]; have HV2 := HV; clear HV) | (at_mapUpdate; go_must (refine wpList_putM (by rfl) _ _ _ (by rfl) hM.out.1 (by have := Q.out.2.2.2.2.2.1; unfold maxLen; omega) HWF.out HWV.out (by rfl) (by rfl) (by rfl) ?_); intro w9 hm9 hg9; go_must (have PM := hid hm9; have PB := hid (hG.out.grown hM.out.1 hg9); have r9 : w9.cell? ⟨w.heap.size + 2, 0, none⟩ = some (.map (some M)) := PB.out.2.2.1.cell 0; clear hm9 hg9)) | (at_lookup; go_must (refine wpList_lookM (by rfl) _ _ (by rfl) PM.out HWF.out (by rfl) (by rfl) ?_); rw [updM_same]))
          go_ret
          exact good_fail (l := [x]) (by simp [bindL]) (by rw [← HE2.out, if_pos (.inr (.inr h2))]) PB.out.2.2.2.2
        have HN := hid (show ¬ (1 < v + 1 ∨ x < 1 ∨ 65536 < x) by omega)
        go_wp2_with (first | (have _ := HV; at_lookup; go_must (refine wpList_lookM (by rfl) _ _ (by rfl) hM.out.1 HWF.out (by rfl) (by rfl) ?_); rw [← HV.out]; have HV2 := HV; clear HV) | (at_mapUpdate; go_must (refine wpList_putM (by rfl) _ _ _ (by rfl) hM.out.1 (by have := Q.out.2.2.2.2.2.1; unfold maxLen; omega) HWF.out HWV.out (by rfl) (by rfl) (by rfl) ?_); intro w9 hm9 hg9; go_must (have PM := hid hm9; have PB := hid (hG.out.grown hM.out.1 hg9); have r9 : w9.cell? ⟨w.heap.size + 2, 0, none⟩ = some (.map (some M)) := PB.out.2.2.1.cell 0; clear hm9 hg9)) | (at_lookup; go_must (refine wpList_lookM (by rfl) _ _ (by rfl) PM.out HWF.out (by rfl) (by rfl) ?_); rw [updM_same]))
        have hjg := Hj.out
        go_roundg (gk - 1)
        case rel => exact ⟨0 + 1, updI g x (v + 1), by omega, by go_num, hid ⟨PM.out, fun q9 => by unfold updI; have := HV9.out; split; omega; exact hM.out.2 q9⟩, hid (by rw [← HE2.out, if_neg HN.out]; rfl), PB⟩
        case measure => omega
      · obtain rfl : j = 1 := by omega
        have x6 : wr.cell? ⟨w.heap.size, 6, none⟩ = some (.slice A us.length c) := hG.out.1.cell 6
        have hkeep : ∀ b, S b → b < w.heap.size → wr.heap[b]? = w.heap[b]? ∧ S b := fun b hb hl => ⟨hG.out.2.2.2.2.block b hl (fun e => Q.out.2.1 b hb (by injection e)), hb⟩
        have C := hid (good_has us A c S wr d g (n + 1) M (w.heap.size + 1) (w.heap.size + 2) (by have := HD.out; omega) HL.out (CRow.keep hkeep _ _ _ Q.out.1) Q.out.2.1 hM.out.1 hM.out.2 (by have := Q.out.2.2.2.2.2.1; omega) hG.out.2.1 hG.out.2.2.1 Q.out.2.2.1)
        obtain ⟨q, hq⟩ : ∃ q, (goodML us (d + 1) g).isSome = q := ⟨_, rfl⟩
        have HQ := hid hq
        clear hq hkeep hj
        cases q
        all_goals
          go_wp2_with (go_at_call 58; go_must (refine C.out.mono ?_); rintro e w9 ⟨e9, hG9⟩; go_must (rw [not_isSome HQ.out] at e9; subst e9; have G := hid hG9; clear hG9))
          go_ret
          exact good_pass (good_some (l := [x]) (by have := HD.out.1; omega) HF.out (by simp [bindL]) (by rw [← hE.out]; rfl)) HQ.out G.out hG.out.2.2.2.2 (by rw [nodes]; omega)
set_option maxHeartbeats 8000000 in
set_option maxRecDepth 100000 in
theorem good_six (x y m : Int) (b : Bool) (T A : Option Addr) (tc : Nat) (ts : List Int) (us : List Co) (c : Nat) (S : Nat → Prop) (w : World) (d : Int) (f : Int → Int) (n M : Nat) (hI : IAt w S ts T tc) (hl : us.length ≤ 17592186044416) (hrow : CRow w S us A 0) (hS : ∀ b, S b → b ≠ M) (hm : MapI w M f n) (hz : Z01 f) (hn : n + 2 + 2 * nodesL us ≤ 17592186044416) (hwf : Wf4 6 x y m) (hd : ¬ 1024 < d) (hd0 : 0 ≤ d) (hf : formB 6 x y m b ts us.length = true) (H : GoodH us (d + 1) M) : Calls Try.prog 44 #[.agg #[.int .i64 6, .int .i64 x, .int .i64 y, .int .i64 m, .bool b, .slice T ts.length tc, .slice A us.length c], .int .i64 d, .map (some M)] w (GoodP (.mk 6 x y m b ts us) d f n M w) := by
  have d1 : decide (1024 < d) = false := decide_eq_false hd
  have ht := hI.1.2.2.2
  have HI := hid hI
  have HL := hid hl
  have HF := hid hf
  have Q := hid (And.intro hrow (And.intro hS (And.intro H (And.intro hm (And.intro hz (And.intro hn hwf))))))
  have HD := hid (And.intro hd hd0)
  clear hf hI hrow hS hm hn H hwf hz
  go_enter Try.func44, Try.ntmps44
  go_wp2_with (go_at_call 57; go_must (refine (core_formed _ _ _ _ _ _ _ _ _ _ _ S _ (HI.out.keep (fun b hb hl => ⟨((al2 w _ _).trans ((al1 _ _).mono (by simp; omega))).block b hl, hb⟩)) HL.out).mono ?_); rintro e w1 ⟨e9, b1⟩; go_must (rw [HF.out] at e9; subst e9; have FB := hid (gm_box b1); obtain ⟨x0, x1, x2, x3, x4, x5, x6⟩ := FB.out.1.seven; have p0 : w1.cell? ⟨w.heap.size + 1, 0, none⟩ = some (.int .i64 d) := FB.out.2.1.cell 0; have r0 : w1.cell? ⟨w.heap.size + 2, 0, none⟩ = some (.map (some M)) := FB.out.2.2.1.cell 0; clear b1))
  have GS := hid (gm_row (row := #[.int .i64 x, .int .i64 y]) FB.out)
  have MS := hid ((Q.out.2.2.2.1.below FB.out.2.2.2).below (al1 w1 (.cells #[.int .i64 x, .int .i64 y] 3)))
  clear x0 x1 x2 x3 x4 x5 x6 p0 r0
  generalize w1.alloc _ = w2 at GS MS ⊢
  go_loopg [34] 2 (fun gg z wr => ∃ (j : Nat) (g : Int → Int), j + gg = 2 ∧ z = .int .i64 j ∧ Hid (MapI wr M g (n + j) ∧ Z01 g) ∧ Hid (addM ([x, y].drop j) g = addM [x, y] f) ∧ Hid (GSt w wr M (#[.int .i64 _, .int .i64 x, .int .i64 y, .int .i64 m, .bool b, .slice T ts.length tc, .slice A us.length c]) d w1.heap.size #[.int .i64 x, .int .i64 y]))
  case atStart => exact ⟨0, f, by omega, rfl, hid ⟨MS.out, Q.out.2.2.2.2.1⟩, hid rfl, GS⟩
  case round =>
    obtain ⟨j, g, hj, rfl, hM, hE, hG⟩ := hrel
    have Hj := hid hj
    have r0 : wr.cell? ⟨w.heap.size + 2, 0, none⟩ = some (.map (some M)) := hG.out.2.2.1.cell 0
    by_cases hlt : j < 2
    · rcases (show j = 0 ∨ j = 1 by omega) with rfl | rfl
      · have y0 : wr.cell? ⟨w1.heap.size, 0, none⟩ = some (.int .i64 x) := hG.out.2.2.2.1.cell 0
        have HWF := hid Q.out.2.2.2.2.2.2.2.1
        obtain ⟨v, hv⟩ : ∃ v, v = g x := ⟨_, rfl⟩
        have HV := hid hv
        have hv9 : 0 ≤ v ∧ v ≤ 1 := by rw [hv]; exact hM.out.2 x
        have HWV := hid (show (Lit.int .i64 (v + 1)).wf = true by simp [Lit.wf, IntKind.min, IntKind.max, IntKind.signed, IntKind.bits]; omega)
        have q5 : IntKind.i64.wrap (v + 1) = v + 1 := IntWalk.i64_in _ (by omega)
        have hE2 : addM (x :: [y]) g = _ := hE.out
        rw [addM, ← hv] at hE2
        have HE2 := hid hE2
        have HV9 := hid hv9
        clear hv hv9 hE2 hj
        by_cases hv0 : 1 < v + 1
        · go_wp2_with (first | (have _ := HV; at_lookup; go_must (refine wpList_lookM (by rfl) _ _ (by rfl) hM.out.1 HWF.out (by rfl) (by rfl) ?_); rw [← HV.out]; have HV2 := HV; clear HV) | (at_mapUpdate; go_must (refine wpList_putM (by rfl) _ _ _ (by rfl) hM.out.1 (by have := Q.out.2.2.2.2.2.1; unfold maxLen; omega) HWF.out HWV.out (by rfl) (by rfl) (by rfl) ?_); intro w9 hm9 hg9; go_must (have PM := hid hm9; have PB := hid (hG.out.grown hM.out.1 hg9); have r9 : w9.cell? ⟨w.heap.size + 2, 0, none⟩ = some (.map (some M)) := PB.out.2.2.1.cell 0; clear hm9 hg9)) | (at_lookup; go_must (refine wpList_lookM (by rfl) _ _ (by rfl) PM.out HWF.out (by rfl) (by rfl) ?_); rw [updM_same]))
          go_ret
          exact good_fail (l := [x, y]) (by simp [bindL]) (by rw [← HE2.out, if_pos (.inl hv0)]) PB.out.2.2.2.2
        by_cases h1 : x < 1
        · go_wp2_with (first | (have _ := HV; at_lookup; go_must (refine wpList_lookM (by rfl) _ _ (by rfl) hM.out.1 HWF.out (by rfl) (by rfl) ?_); rw [← HV.out]; have HV2 := HV; clear HV) | (at_mapUpdate; go_must (refine wpList_putM (by rfl) _ _ _ (by rfl) hM.out.1 (by have := Q.out.2.2.2.2.2.1; unfold maxLen; omega) HWF.out HWV.out (by rfl) (by rfl) (by rfl) ?_); intro w9 hm9 hg9; go_must (have PM := hid hm9; have PB := hid (hG.out.grown hM.out.1 hg9); have r9 : w9.cell? ⟨w.heap.size + 2, 0, none⟩ = some (.map (some M)) := PB.out.2.2.1.cell 0; clear hm9 hg9)) | (at_lookup; go_must (refine wpList_lookM (by rfl) _ _ (by rfl) PM.out HWF.out (by rfl) (by rfl) ?_); rw [updM_same]))
          go_ret
          exact good_fail (l := [x, y]) (by simp [bindL]) (by rw [← HE2.out, if_pos (.inr (.inl h1))]) PB.out.2.2.2.2
        by_cases h2 : 65536 < x
        · go_wp2_with (first | (have _ := HV; at_lookup; go_must (refine wpList_lookM (by rfl) _ _ (by rfl) hM.out.1 HWF.out (by rfl) (by rfl) ?_); rw [← HV.out]; have HV2 := HV; clear HV) | (at_mapUpdate; go_must (refine wpList_putM (by rfl) _ _ _ (by rfl) hM.out.1 (by have := Q.out.2.2.2.2.2.1; unfold maxLen; omega) HWF.out HWV.out (by rfl) (by rfl) (by rfl) ?_); intro w9 hm9 hg9; go_must (have PM := hid hm9; have PB := hid (hG.out.grown hM.out.1 hg9); have r9 : w9.cell? ⟨w.heap.size + 2, 0, none⟩ = some (.map (some M)) := PB.out.2.2.1.cell 0; clear hm9 hg9)) | (at_lookup; go_must (refine wpList_lookM (by rfl) _ _ (by rfl) PM.out HWF.out (by rfl) (by rfl) ?_); rw [updM_same]))
          go_ret
          exact good_fail (l := [x, y]) (by simp [bindL]) (by rw [← HE2.out, if_pos (.inr (.inr h2))]) PB.out.2.2.2.2
        have HN := hid (show ¬ (1 < v + 1 ∨ x < 1 ∨ 65536 < x) by omega)
        go_wp2_with (first | (have _ := HV; at_lookup; go_must (refine wpList_lookM (by rfl) _ _ (by rfl) hM.out.1 HWF.out (by rfl) (by rfl) ?_); rw [← HV.out]; have HV2 := HV; clear HV) | (at_mapUpdate; go_must (refine wpList_putM (by rfl) _ _ _ (by rfl) hM.out.1 (by have := Q.out.2.2.2.2.2.1; unfold maxLen; omega) HWF.out HWV.out (by rfl) (by rfl) (by rfl) ?_); intro w9 hm9 hg9; go_must (have PM := hid hm9; have PB := hid (hG.out.grown hM.out.1 hg9); have r9 : w9.cell? ⟨w.heap.size + 2, 0, none⟩ = some (.map (some M)) := PB.out.2.2.1.cell 0; clear hm9 hg9)) | (at_lookup; go_must (refine wpList_lookM (by rfl) _ _ (by rfl) PM.out HWF.out (by rfl) (by rfl) ?_); rw [updM_same]))
        have hjg := Hj.out
        go_roundg (gk - 1)
        case rel => exact ⟨0 + 1, updI g x (v + 1), by omega, by go_num, hid ⟨PM.out, fun q9 => by unfold updI; have := HV9.out; split; omega; exact hM.out.2 q9⟩, hid (by rw [← HE2.out, if_neg HN.out]; rfl), PB⟩
        case measure => omega
      · have y0 : wr.cell? ⟨w1.heap.size, 1, none⟩ = some (.int .i64 y) := hG.out.2.2.2.1.cell 1
        have HWF := hid Q.out.2.2.2.2.2.2.2.2.1
        obtain ⟨v, hv⟩ : ∃ v, v = g y := ⟨_, rfl⟩
        have HV := hid hv
        have hv9 : 0 ≤ v ∧ v ≤ 1 := by rw [hv]; exact hM.out.2 y
        have HWV := hid (show (Lit.int .i64 (v + 1)).wf = true by simp [Lit.wf, IntKind.min, IntKind.max, IntKind.signed, IntKind.bits]; omega)
        have q5 : IntKind.i64.wrap (v + 1) = v + 1 := IntWalk.i64_in _ (by omega)
        have hE2 : addM (y :: []) g = _ := hE.out
        rw [addM, ← hv] at hE2
        have HE2 := hid hE2
        have HV9 := hid hv9
        clear hv hv9 hE2 hj
        by_cases hv0 : 1 < v + 1
        · go_wp2_with (first | (have _ := HV; at_lookup; go_must (refine wpList_lookM (by rfl) _ _ (by rfl) hM.out.1 HWF.out (by rfl) (by rfl) ?_); rw [← HV.out]; have HV2 := HV; clear HV) | (at_mapUpdate; go_must (refine wpList_putM (by rfl) _ _ _ (by rfl) hM.out.1 (by have := Q.out.2.2.2.2.2.1; unfold maxLen; omega) HWF.out HWV.out (by rfl) (by rfl) (by rfl) ?_); intro w9 hm9 hg9; go_must (have PM := hid hm9; have PB := hid (hG.out.grown hM.out.1 hg9); have r9 : w9.cell? ⟨w.heap.size + 2, 0, none⟩ = some (.map (some M)) := PB.out.2.2.1.cell 0; clear hm9 hg9)) | (at_lookup; go_must (refine wpList_lookM (by rfl) _ _ (by rfl) PM.out HWF.out (by rfl) (by rfl) ?_); rw [updM_same]))
          go_ret
          exact good_fail (l := [x, y]) (by simp [bindL]) (by rw [← HE2.out, if_pos (.inl hv0)]) PB.out.2.2.2.2
        by_cases h1 : y < 1
        · go_wp2_with (first | (have _ := HV; at_lookup; go_must (refine wpList_lookM (by rfl) _ _ (by rfl) hM.out.1 HWF.out (by rfl) (by rfl) ?_); rw [← HV.out]; have HV2 := HV; clear HV) | (at_mapUpdate; go_must (refine wpList_putM (by rfl) _ _ _ (by rfl) hM.out.1 (by have := Q.out.2.2.2.2.2.1; unfold maxLen; omega) HWF.out HWV.out (by rfl) (by rfl) (by rfl) ?_); intro w9 hm9 hg9; go_must (have PM := hid hm9; have PB := hid (hG.out.grown hM.out.1 hg9); have r9 : w9.cell? ⟨w.heap.size + 2, 0, none⟩ = some (.map (some M)) := PB.out.2.2.1.cell 0; clear hm9 hg9)) | (at_lookup; go_must (refine wpList_lookM (by rfl) _ _ (by rfl) PM.out HWF.out (by rfl) (by rfl) ?_); rw [updM_same]))
          go_ret
          exact good_fail (l := [x, y]) (by simp [bindL]) (by rw [← HE2.out, if_pos (.inr (.inl h1))]) PB.out.2.2.2.2
        by_cases h2 : 65536 < y
        · go_wp2_with (first | (have _ := HV; at_lookup; go_must (refine wpList_lookM (by rfl) _ _ (by rfl) hM.out.1 HWF.out (by rfl) (by rfl) ?_); rw [← HV.out]; have HV2 := HV; clear HV) | (at_mapUpdate; go_must (refine wpList_putM (by rfl) _ _ _ (by rfl) hM.out.1 (by have := Q.out.2.2.2.2.2.1; unfold maxLen; omega) HWF.out HWV.out (by rfl) (by rfl) (by rfl) ?_); intro w9 hm9 hg9; go_must (have PM := hid hm9; have PB := hid (hG.out.grown hM.out.1 hg9); have r9 : w9.cell? ⟨w.heap.size + 2, 0, none⟩ = some (.map (some M)) := PB.out.2.2.1.cell 0; clear hm9 hg9)) | (at_lookup; go_must (refine wpList_lookM (by rfl) _ _ (by rfl) PM.out HWF.out (by rfl) (by rfl) ?_); rw [updM_same]))
          go_ret
          exact good_fail (l := [x, y]) (by simp [bindL]) (by rw [← HE2.out, if_pos (.inr (.inr h2))]) PB.out.2.2.2.2
        have HN := hid (show ¬ (1 < v + 1 ∨ y < 1 ∨ 65536 < y) by omega)
        go_wp2_with (first | (have _ := HV; at_lookup; go_must (refine wpList_lookM (by rfl) _ _ (by rfl) hM.out.1 HWF.out (by rfl) (by rfl) ?_); rw [← HV.out]; have HV2 := HV; clear HV) | (at_mapUpdate; go_must (refine wpList_putM (by rfl) _ _ _ (by rfl) hM.out.1 (by have := Q.out.2.2.2.2.2.1; unfold maxLen; omega) HWF.out HWV.out (by rfl) (by rfl) (by rfl) ?_); intro w9 hm9 hg9; go_must (have PM := hid hm9; have PB := hid (hG.out.grown hM.out.1 hg9); have r9 : w9.cell? ⟨w.heap.size + 2, 0, none⟩ = some (.map (some M)) := PB.out.2.2.1.cell 0; clear hm9 hg9)) | (at_lookup; go_must (refine wpList_lookM (by rfl) _ _ (by rfl) PM.out HWF.out (by rfl) (by rfl) ?_); rw [updM_same]))
        have hjg := Hj.out
        go_roundg (gk - 1)
        case rel => exact ⟨1 + 1, updI g y (v + 1), by omega, by go_num, hid ⟨PM.out, fun q9 => by unfold updI; have := HV9.out; split; omega; exact hM.out.2 q9⟩, hid (by rw [← HE2.out, if_neg HN.out]; rfl), PB⟩
        case measure => omega
    · obtain rfl : j = 2 := by omega
      have x6 : wr.cell? ⟨w.heap.size, 6, none⟩ = some (.slice A us.length c) := hG.out.1.cell 6
      have hkeep : ∀ b, S b → b < w.heap.size → wr.heap[b]? = w.heap[b]? ∧ S b := fun b hb hl => ⟨hG.out.2.2.2.2.block b hl (fun e => Q.out.2.1 b hb (by injection e)), hb⟩
      have C := hid (good_has us A c S wr d g (n + 2) M (w.heap.size + 1) (w.heap.size + 2) (by have := HD.out; omega) HL.out (CRow.keep hkeep _ _ _ Q.out.1) Q.out.2.1 hM.out.1 hM.out.2 (by have := Q.out.2.2.2.2.2.1; omega) hG.out.2.1 hG.out.2.2.1 Q.out.2.2.1)
      obtain ⟨q, hq⟩ : ∃ q, (goodML us (d + 1) g).isSome = q := ⟨_, rfl⟩
      have HQ := hid hq
      clear hq hkeep hj
      cases q
      all_goals
        go_wp2_with (go_at_call 58; go_must (refine C.out.mono ?_); rintro e w9 ⟨e9, hG9⟩; go_must (rw [not_isSome HQ.out] at e9; subst e9; have G := hid hG9; clear hG9))
        go_ret
        exact good_pass (good_some (l := [x, y]) (by have := HD.out.1; omega) HF.out (by simp [bindL]) (by rw [← hE.out]; rfl)) HQ.out G.out hG.out.2.2.2.2 (by rw [nodes]; omega)
set_option maxHeartbeats 8000000 in
set_option maxRecDepth 100000 in
theorem good_rest (k x y m : Int) (b : Bool) (T A : Option Addr) (tc : Nat) (ts : List Int) (us : List Co) (c : Nat) (S : Nat → Prop) (w : World) (d : Int) (f : Int → Int) (n M : Nat) (h3 : k ≠ 3) (h5 : k ≠ 5) (h6 : k ≠ 6) (hI : IAt w S ts T tc) (hl : us.length ≤ 17592186044416) (hrow : CRow w S us A 0) (hS : ∀ b, S b → b ≠ M) (hm : MapI w M f n) (hz : Z01 f) (hn : n + 2 + 2 * nodesL us ≤ 17592186044416) (hwf : Wf4 k x y m) (hd : ¬ 1024 < d) (hd0 : 0 ≤ d) (hf : formB k x y m b ts us.length = true) (H : GoodH us (d + 1) M) : Calls Try.prog 44 #[.agg #[.int .i64 k, .int .i64 x, .int .i64 y, .int .i64 m, .bool b, .slice T ts.length tc, .slice A us.length c], .int .i64 d, .map (some M)] w (GoodP (.mk k x y m b ts us) d f n M w) := by
  have d1 : decide (1024 < d) = false := decide_eq_false hd
  have ht := hI.1.2.2.2
  have HI := hid hI
  have HL := hid hl
  have HF := hid hf
  have Q := hid (And.intro hrow (And.intro hS (And.intro H (And.intro hm (And.intro hz (And.intro hn hwf))))))
  have HD := hid (And.intro hd hd0)
  have HK := hid (And.intro h3 (And.intro h5 h6))
  have e3 : (k == 3) = false := by simpa using h3
  have e5 : (k == 5) = false := by simpa using h5
  have e6 : (k == 6) = false := by simpa using h6
  clear hf hI hrow hS hm hn H hwf hz h3 h5 h6
  go_enter Try.func44, Try.ntmps44
  go_wp2_with (go_at_call 57; go_must (refine (core_formed _ _ _ _ _ _ _ _ _ _ _ S _ (HI.out.keep (fun b hb hl => ⟨((al2 w _ _).trans ((al1 _ _).mono (by simp; omega))).block b hl, hb⟩)) HL.out).mono ?_); rintro e w1 ⟨e9, b1⟩; go_must (rw [HF.out] at e9; subst e9; have FB := hid (gm_box b1); obtain ⟨x0, x1, x2, x3, x4, x5, x6⟩ := FB.out.1.seven; have p0 : w1.cell? ⟨w.heap.size + 1, 0, none⟩ = some (.int .i64 d) := FB.out.2.1.cell 0; have r0 : w1.cell? ⟨w.heap.size + 2, 0, none⟩ = some (.map (some M)) := FB.out.2.2.1.cell 0; clear b1))
  have GS := hid (show GSt w w1 M _ d (w.heap.size + 1) #[.int .i64 d] from ⟨FB.out.1, FB.out.2.1, FB.out.2.2.1, FB.out.2.1, below_by FB.out.2.2.2 _⟩)
  have MS := hid (Q.out.2.2.2.1.below FB.out.2.2.2)
  clear x0 x1 x2 x3 x4 x5 x6 p0 r0
  go_loopg [34] 0 (fun gg z wr => z = .int .i64 0 ∧ Hid (MapI wr M f n) ∧ Hid (GSt w wr M (#[.int .i64 _, .int .i64 x, .int .i64 y, .int .i64 m, .bool b, .slice T ts.length tc, .slice A us.length c]) d (w.heap.size + 1) #[.int .i64 d]))
  case atStart => exact ⟨rfl, MS, GS⟩
  case round =>
    obtain ⟨rfl, hM9, hG⟩ := hrel
    obtain ⟨g, hg⟩ : ∃ g, g = f := ⟨_, rfl⟩
    have hE : Hid (addM [] g = addM [] f) := hid (by rw [hg])
    have hM : Hid (MapI wr M g n ∧ Z01 g) := hid (by rw [hg]; exact ⟨hM9.out, Q.out.2.2.2.2.1⟩)
    have hj : True := trivial
    clear hg hM9
    have x6 : wr.cell? ⟨w.heap.size, 6, none⟩ = some (.slice A us.length c) := hG.out.1.cell 6
    have hkeep : ∀ b, S b → b < w.heap.size → wr.heap[b]? = w.heap[b]? ∧ S b := fun b hb hl => ⟨hG.out.2.2.2.2.block b hl (fun e => Q.out.2.1 b hb (by injection e)), hb⟩
    have C := hid (good_has us A c S wr d g (n + 0) M (w.heap.size + 1) (w.heap.size + 2) (by have := HD.out; omega) HL.out (CRow.keep hkeep _ _ _ Q.out.1) Q.out.2.1 hM.out.1 hM.out.2 (by have := Q.out.2.2.2.2.2.1; omega) hG.out.2.1 hG.out.2.2.1 Q.out.2.2.1)
    obtain ⟨q, hq⟩ : ∃ q, (goodML us (d + 1) g).isSome = q := ⟨_, rfl⟩
    have HQ := hid hq
    clear hq hkeep hj
    cases q
    all_goals
      go_wp2_with (go_at_call 58; go_must (refine C.out.mono ?_); rintro e w9 ⟨e9, hG9⟩; go_must (rw [not_isSome HQ.out] at e9; subst e9; have G := hid hG9; clear hG9))
      go_ret
      exact good_pass (good_some (l := []) (by have := HD.out.1; omega) HF.out (by unfold bindL; rw [if_neg (fun h => by rcases h with h | h; exact HK.out.1 h; exact HK.out.2.1 h), if_neg HK.out.2.2]) (by rw [← hE.out]; rfl)) HQ.out G.out hG.out.2.2.2.2 (by rw [nodes]; omega)
end Go.Proofs.Ytohdaclbgedeiaa
