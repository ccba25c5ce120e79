/-
  THE WALK OF (*athanorref15.names).get: a variable with a name.
-/
import Derived.Test.YtnlifgcnmhakiaaDoorTRGet
namespace Go.Proofs.YtnlifgcnmhakiaaDoor
open Go.ChangeShapes Go.WideShapes Go.ChangeAt Go.RowKit

set_option maxHeartbeats 40000000 in
set_option maxRecDepth 100000 in
theorem get_b (p : Nat) (es : List (ByteArray × Int)) (s : ByteArray) (n : Int) (A : Option Addr) (m c : Nat) (v1 v2 v3 v4 : Value) (w : World) (hl : es.length ≤ 1050) (h : RNs w p es v1 v2 v3 v4) (hs : ¬ s.data.toList = []) :
    Calls Tryd.prog 41 #[.pointer (some ⟨p, 0, none⟩), .agg #[.int .i64 2, .string s, .int .i64 n, .slice A m c]] w (GetP p es (keyOf s n) v1 v2 v3 v4 w) := by
  have H := hid h
  have HS := hid hs
  have hse : s.toList.isEmpty = false := by rw [list_data2]; simpa using hs
  obtain ⟨A1, c1, rfl, _⟩ := rowS h.rows.r1
  obtain ⟨A2, c2, rfl, _⟩ := rowS h.rows.r2
  obtain ⟨A3, c3, rfl, _⟩ := rowS h.rows.r3
  obtain ⟨A4, c4, rfl, _⟩ := rowS h.rows.r4
  clear h hs
  go_enter Tryd.func41, Tryd.ntmps41
  go_wp2_with fail
  go_loopg [6] es.length (fun g x wr => ∃ i : Nat, i + g = es.length ∧ x = .int .i64 i ∧ Hid (Below w.heap.size w wr) ∧ Hid (Blk wr w.heap.size 24 #[.int .i64 2, .string s, .int .i64 n, .slice A m c]) ∧ Hid (∀ j, (h : j < es.length) → j < i → keyOf es[j].1 es[j].2 ≠ keyOf s n))
  case atStart => exact ⟨0, by omega, rfl, hid ((Below.refl _ _).alloc (Nat.le_refl _) _), hid (Blk.new _ _ _), hid (fun j _ h => by omega)⟩
  case round =>
    obtain ⟨i, hi, rfl, hb, hB, hn⟩ := hrel
    have Hi := hid hi
    have HW := hid (H.out.up hb.out)
    have HWB := HW.out.blk.four
    have y0 := HWB.1
    have y1 := HWB.2.1
    have y2 := HWB.2.2.1
    have y3 := HWB.2.2.2.1
    clear HWB
    have z1 : wr.cell? ⟨w.heap.size, 1, none⟩ = some (.string s) := hB.out.cell 1
    have z2 : wr.cell? ⟨w.heap.size, 2, none⟩ = some (.int .i64 n) := hB.out.cell 2
    by_cases hlt : i < es.length
    · have hlt' : (i : Int) < es.length := by omega
      have hi0 : (0 : Int) ≤ (i : Int) := by omega
      clear hi
      have q1 := rowC HW.out.rows.r1 hlt (u := .int .i64 es[i].2) (by rw [List.getElem?_map, List.getElem?_eq_getElem hlt]; rfl)
      have q2 := rowC HW.out.rows.r2 hlt (u := .string es[i].1) (by rw [List.getElem?_map, List.getElem?_eq_getElem hlt]; rfl)
      have q3 := rowC HW.out.rows.r3 hlt (u := .string (nameB i)) (by rw [List.getElem?_map, List.getElem?_range hlt]; rfl)
      have q4 := rowC HW.out.rows.r4 hlt (u := .int .i64 (ofI es[i])) (by rw [List.getElem?_map, List.getElem?_eq_getElem hlt]; rfl)
      obtain ⟨d1, rfl, k1⟩ := q1
      obtain ⟨d2, rfl, k2⟩ := q2
      obtain ⟨d3, rfl, k3⟩ := q3
      obtain ⟨d4, rfl, k4⟩ := q4
      generalize he : es[i] = e at k1 k2 k4
      have HE := hid he
      have HLT := hid hlt
      clear he
      by_cases hk : keyOf e.1 e.2 = keyOf s n
      · obtain ⟨k5, k6⟩ := (key_eqB HS.out).1 hk
        rw [k5] at k2
        rw [k6] at k4
        have HK := hid hk
        clear hk k5 k6
        go_wp2_with fail
        go_quiet (fail)
        go_wp2_with fail
        go_ret
        exact get_done H.out (belN hb.out nq) HLT.out (pos_at HLT.out (get_ke HLT.out HE.out HK.out) hn.out)
      · have HK := hid hk
        have h5 : e.1 ≠ s := fun h9 => hk ((key_eqB HS.out).2 ⟨h9, by unfold ofI; rw [h9, if_neg HS.out]⟩)
        have h7 : (e.1.toList == s.toList) = false := str_ne (decide_eq_false h5)
        clear hk h5
        go_wp2_with fail
        go_quiet (fail)
        go_wp2_with fail
        have hgk := Hi.out
        go_roundg (gk - 1)
        case rel => exact ⟨i + 1, by omega, by go_num, hid (belN hb.out nq), hid (hB.out.drewN nq), hid (get_step hn.out HE.out HK.out)⟩
        case measure => omega
    · obtain rfl : i = es.length := by omega
      clear hi
      have HIS := hid (show (2 : Int) = ofI (s, n) by unfold ofI; first | rw [if_pos HS.out] | rw [if_neg HS.out])
      have J := hid HW.out.rows
      have BP := hid HW.out.blk
      have TB := hid hB.out
      have HPw := hid (show p + 1 ≤ w.heap.size from H.out.blk.lt)
      have KX := hid (Kept.of_below hb.out (fun b => b = p ∨ own4 (.slice A1 es.length c1) (.slice A2 es.length c2) (.slice A3 es.length c3) (.slice A4 es.length c4) b))
      have NP1 := hid (row_nes H.out.rows.r1)
      have NP2 := hid (row_nes H.out.rows.r2)
      have NP4 := hid (row_nes H.out.rows.r4)
      have fp0 := BP.out.frozen 0
      go_upto_region 15 with (fail)
      go_cut [] (fun wx => ∃ u1 u2 u4, Hid (Blk wx p 58 #[u1, u2, .slice A3 es.length c3, u4]) ∧ Hid (RR wx p u1 u2 (.slice A3 es.length c3) u4 (es.length + 1) (es.length + 1) es.length (es.length + 1) (es.map (fun e => .int .i64 e.2) ++ [.int .i64 n]) (es.map (fun e => .string e.1) ++ [.string s]) ((List.range es.length).map (fun i => .string (nameB i))) (es.map (fun e => .int .i64 (ofI e)) ++ [.int .i64 2])) ∧ Hid (Kept (fun b => b = p ∨ own4 (.slice A1 es.length c1) (.slice A2 es.length c2) (.slice A3 es.length c3) (.slice A4 es.length c4) b) w wx) ∧ Hid (∀ g, own4 u1 u2 (.slice A3 es.length c3) u4 g → own4 (.slice A1 es.length c1) (.slice A2 es.length c2) (.slice A3 es.length c3) (.slice A4 es.length c4) g ∨ w.heap.size ≤ g))
      case first =>
        have b9 : Below wr.heap.size wr wr.drew := (Below.refl _ _).drew
        have h9 := hid (J.out.up b9); clear J; have J := h9; clear h9; have h9 := hid (BP.out.below b9 BP.out.lt); clear BP; have BP := h9; clear h9; have h9 := hid (TB.out.below b9 TB.out.lt); clear TB; have TB := h9; clear h9; have h9 := hid (Kept.after b9 KX.out); clear KX; have KX := h9; clear h9; (try (have h9 := hid (And.intro (PA.out.1.below b9 PA.out.1.lt) PA.out.2); clear PA; have PA := h9; clear h9)); (try (have h9 := hid (And.intro (PB.out.1.below b9 PB.out.1.lt) PB.out.2); clear PB; have PB := h9; clear h9)); (try (have h9 := hid (And.intro (PC.out.1.below b9 PC.out.1.lt) PC.out.2); clear PC; have PC := h9; clear h9))
        clear b9
        have HS := hid (rsG BP.out TB.out)
        refine wp_region_T (S := GS p w.heap.size (.slice A1 es.length c1) (.slice A2 es.length c2) (.slice A4 es.length c4) (.string s) (.int .i64 n)) (n := 28) (by kernel_rfl) (?_ : wpAnyT _ _ _ _ _ 28 35 (Array.replicate 35 false) _ _)
        refine wpAnyT_takeW (i := 0) (v := .pointer (some ⟨p, 0, none⟩)) rfl (by decide) (by as_aux_lemma => kernel_rfl) (fun _ _ _ h => h) (.inl ⟨by simp [Region.wanted], fun w7 _ => ?_⟩) (fun _ => HS.out) ?_
        · go_simp
        refine wpAnyT_takeW (i := 1) (v := .pointer (some ⟨p, 0, none⟩)) rfl (by decide) (by as_aux_lemma => kernel_rfl) (fun _ _ _ h => h) (.inl ⟨by simp [Region.wanted], fun w7 _ => ?_⟩) (fun _ => HS.out) ?_
        · go_simp
        refine wpAnyT_takeW (i := 2) (v := .pointer (some ⟨p, 0, none⟩)) rfl (by decide) (by as_aux_lemma => kernel_rfl) (fun _ _ _ h => h) (.inl ⟨by simp [Region.wanted], fun w7 _ => ?_⟩) (fun _ => HS.out) ?_
        · go_simp
        refine wpAnyT_takeW (i := 3) (v := .pointer (some ⟨p, 0, none⟩)) rfl (by decide) (by as_aux_lemma => kernel_rfl) (fun _ _ _ h => h) (.inl ⟨by simp [Region.wanted], fun w7 _ => ?_⟩) (fun _ => HS.out) ?_
        · go_simp
        refine wpAnyT_takeW (i := 4) (v := .pointer (some ⟨p, 0, none⟩)) rfl (by decide) (by as_aux_lemma => kernel_rfl) (fun _ _ _ h => h) (.inl ⟨by simp [Region.wanted], fun w7 _ => ?_⟩) (fun _ => HS.out) ?_
        · go_simp
        refine wpAnyT_takeW (i := 5) (v := .pointer (some ⟨p, 0, none⟩)) rfl (by decide) (by as_aux_lemma => kernel_rfl) (fun _ _ _ h => h) (.inl ⟨by simp [Region.wanted], fun w7 _ => ?_⟩) (fun _ => HS.out) ?_
        · go_simp
        refine wpAnyT_takeW (i := 7) (v := .pointer (some ⟨w.heap.size, 2, none⟩)) rfl (by decide) (by as_aux_lemma => kernel_rfl) (fun _ _ _ h => h) (.inl ⟨by simp [Region.wanted], fun w7 _ => ?_⟩) (fun _ => HS.out) ?_
        · go_simp
        refine wpAnyT_takeW (i := 11) (v := .pointer (some ⟨p, 0, none⟩)) rfl (by decide) (by as_aux_lemma => kernel_rfl) (fun _ _ _ h => h) (.inl ⟨by simp [Region.wanted], fun w7 _ => ?_⟩) (fun _ => HS.out) ?_
        · go_simp
        refine wpAnyT_takeW (i := 12) (v := .pointer (some ⟨p, 0, none⟩)) rfl (by decide) (by as_aux_lemma => kernel_rfl) (fun _ _ _ h => h) (.inl ⟨by simp [Region.wanted], fun w7 _ => ?_⟩) (fun _ => HS.out) ?_
        · go_simp
        refine wpAnyT_takeW (i := 13) (v := .pointer (some ⟨p, 1, none⟩)) rfl (by decide) (by as_aux_lemma => kernel_rfl) (fun _ _ _ h => h) (.inl ⟨by simp [Region.wanted], fun w7 _ => ?_⟩) (fun _ => HS.out) ?_
        · go_simp
        refine wpAnyT_takeW (i := 15) (v := .pointer (some ⟨w.heap.size, 1, none⟩)) rfl (by decide) (by as_aux_lemma => kernel_rfl) (fun _ _ _ h => h) (.inl ⟨by simp [Region.wanted], fun w7 _ => ?_⟩) (fun _ => HS.out) ?_
        · go_simp
        refine wpAnyT_takeW (i := 19) (v := .pointer (some ⟨p, 0, none⟩)) rfl (by decide) (by as_aux_lemma => kernel_rfl) (fun _ _ _ h => h) (.inl ⟨by simp [Region.wanted], fun w7 _ => ?_⟩) (fun _ => HS.out) ?_
        · go_simp
        refine wpAnyT_takeW (i := 20) (v := .pointer (some ⟨p, 0, none⟩)) rfl (by decide) (by as_aux_lemma => kernel_rfl) (fun _ _ _ h => h) (.inl ⟨by simp [Region.wanted], fun w7 _ => ?_⟩) (fun _ => HS.out) ?_
        · go_simp
        refine wpAnyT_takeW (i := 21) (v := .pointer (some ⟨p, 3, none⟩)) rfl (by decide) (by as_aux_lemma => kernel_rfl) (fun _ _ _ h => h) (.inl ⟨by simp [Region.wanted], fun w7 _ => ?_⟩) (fun _ => HS.out) ?_
        · go_simp
        refine wpAnyT_takeW (i := 23) (v := .int .i64 2) rfl (by decide) (by as_aux_lemma => kernel_rfl) (fun _ _ _ h => h) (.inl ⟨by simp [Region.wanted], fun w7 _ => ?_⟩) (fun _ => HS.out) ?_
        · go_simp
        refine wpAnyT_takeP (i := 6) (v := .slice A1 es.length c1) [10, 18, 25, 28] rfl (by decide) (by as_aux_lemma => kernel_rfl) (fun _ _ _ h => h) (.inl ⟨by simp [Region.wanted], fun w7 hS7 => ?_⟩) HS.out ?_
        · obtain ⟨s0, s1, s2, s3, s4⟩ := hS7; go_simp
        refine wpAnyT_takeP (i := 8) (v := .int .i64 n) [9, 10, 18, 25, 28] rfl (by decide) (by as_aux_lemma => kernel_rfl) (fun _ _ _ h => h) (.inl ⟨by simp [Region.wanted], fun w7 hS7 => ?_⟩) HS.out ?_
        · obtain ⟨s0, s1, s2, s3, s4⟩ := hS7; go_simp
        refine wpAnyT_takeP (i := 14) (v := .slice A2 es.length c2) [18, 25, 28] rfl (by decide) (by as_aux_lemma => kernel_rfl) (fun _ _ _ h => h) (.inl ⟨by simp [Region.wanted], fun w7 hS7 => ?_⟩) HS.out ?_
        · obtain ⟨s0, s1, s2, s3, s4⟩ := hS7; go_simp
        refine wpAnyT_takeP (i := 16) (v := .string s) [17, 18, 25, 28] rfl (by decide) (by as_aux_lemma => kernel_rfl) (fun _ _ _ h => h) (.inl ⟨by simp [Region.wanted], fun w7 hS7 => ?_⟩) HS.out ?_
        · obtain ⟨s0, s1, s2, s3, s4⟩ := hS7; go_simp
        refine wpAnyT_takeP (i := 22) (v := .slice A4 es.length c4) [25, 28] rfl (by decide) (by as_aux_lemma => kernel_rfl) (fun _ _ _ h => h) (.inl ⟨by simp [Region.wanted], fun w7 hS7 => ?_⟩) HS.out ?_
        · obtain ⟨s0, s1, s2, s3, s4⟩ := hS7; go_simp
        clear HS; have HZ := hid (Nat.le_trans (Nat.le_refl _) KX.out.size); generalize wr.drew = Y0 at J BP TB KX HZ ⊢
        refine wpAnyT_ready (rs := [9, 17, 24]) (by as_aux_lemma => kernel_rfl) (by simp) ?_
        refine AllT.cons rfl (fun K' hK => ?_) (AllT.cons rfl (fun K' hK => ?_) (AllT.cons rfl (fun K' hK => ?_) (AllT.nil)))
        · skip
          go_simp; have PN := hid (And.intro (Blk.new Y0 3 #[.int .i64 n]) KX.out.size); have b9 := al1 Y0 (.cells #[.int .i64 n] 3); generalize World.alloc Y0 (.cells #[.int .i64 n] 3) = Y1 at b9 PN ⊢; have h9 := hid (J.out.up b9); clear J; have J := h9; clear h9; have h9 := hid (BP.out.below b9 BP.out.lt); clear BP; have BP := h9; clear h9; have h9 := hid (TB.out.below b9 TB.out.lt); clear TB; have TB := h9; clear h9; have h9 := hid (Kept.after b9 KX.out); clear KX; have KX := h9; clear h9; (try (have h9 := hid (And.intro (PA.out.1.below b9 PA.out.1.lt) PA.out.2); clear PA; have PA := h9; clear h9)); (try (have h9 := hid (And.intro (PB.out.1.below b9 PB.out.1.lt) PB.out.2); clear PB; have PB := h9; clear h9)); (try (have h9 := hid (And.intro (PC.out.1.below b9 PC.out.1.lt) PC.out.2); clear PC; have PC := h9; clear h9)); have PA := PN; clear PN b9; refine hK.out _ _ (fun _ => rsG BP.out TB.out) ?_; clear hK
          refine wpAnyT_ready (rs := [10, 17, 24]) (by as_aux_lemma => kernel_rfl) (by simp) ?_
          refine AllT.cons rfl (fun K' hK => ?_) (AllT.cons rfl (fun K' hK => ?_) (AllT.cons rfl (fun K' hK => ?_) (AllT.nil)))
          · skip
            refine ap_n0 Tryd.underlying55 info_int1 rfl (by omega) (X := Y1) (u := .int .i64 n) (by with_reducible rfl) (by rfl) _ _ (by rfl) (B := p + 1) (v := .slice A1 es.length c1) (by rfl) J.out.r1 PA.out.1 (by rfl) (by rfl) (by omega) (Nat.le_trans HPw.out KX.out.size) ?_; intro v7 Y2 r1 r2 r3 r4 pd; obtain ⟨B1, b1, hv7, _⟩ := rowS r1; subst hv7; have J9 := hid (J.out.app1 r1 r2 r3); have NP := NP1; have N1 := hid (fun g e => (r3 g e).imp id (fun h9 => Nat.le_trans KX.out.size h9)); clear PA; clear J; have J := J9; clear J9; have h9 := hid (r4 _ _ _ BP.out NP.out.1); clear BP; have BP := h9; clear h9; have h9 := hid (r4 _ _ _ TB.out NP.out.2.1); clear TB; have TB := h9; clear h9; (try (have h9 := hid (And.intro (r4 _ _ _ PB.out.1 (NP.out.2.2 _ PB.out.2)) PB.out.2); clear PB; have PB := h9; clear h9)); (try (have h9 := hid (And.intro (r4 _ _ _ PC.out.1 (NP.out.2.2 _ PC.out.2)) PC.out.2); clear PC; have PC := h9; clear h9)); have h9 := hid (KX.out.then r2 (fun _ _ e => e) (fun b _ e => .inr (.inl e))); clear KX; have KX := h9; clear h9; clear r1 r2 r3 r4 pd NP; refine hK.out _ _ (fun _ => rsG BP.out TB.out) ?_; clear hK
            refine wpAnyT_ready (rs := [17, 24]) (by as_aux_lemma => kernel_rfl) (by simp) ?_
            refine AllT.cons rfl (fun K' hK => ?_) (AllT.cons rfl (fun K' hK => ?_) (AllT.nil))
            · skip
              go_simp; have PN := hid (And.intro (Blk.new Y2 9 #[.string s]) KX.out.size); have b9 := al1 Y2 (.cells #[.string s] 9); generalize World.alloc Y2 (.cells #[.string s] 9) = Y3 at b9 PN ⊢; have h9 := hid (J.out.up b9); clear J; have J := h9; clear h9; have h9 := hid (BP.out.below b9 BP.out.lt); clear BP; have BP := h9; clear h9; have h9 := hid (TB.out.below b9 TB.out.lt); clear TB; have TB := h9; clear h9; have h9 := hid (Kept.after b9 KX.out); clear KX; have KX := h9; clear h9; (try (have h9 := hid (And.intro (PA.out.1.below b9 PA.out.1.lt) PA.out.2); clear PA; have PA := h9; clear h9)); (try (have h9 := hid (And.intro (PB.out.1.below b9 PB.out.1.lt) PB.out.2); clear PB; have PB := h9; clear h9)); (try (have h9 := hid (And.intro (PC.out.1.below b9 PC.out.1.lt) PC.out.2); clear PC; have PC := h9; clear h9)); have PB := PN; clear PN b9; refine hK.out _ _ (fun _ => rsG BP.out TB.out) ?_; clear hK
              refine wpAnyT_ready (rs := [18, 24]) (by as_aux_lemma => kernel_rfl) (by simp) ?_
              refine AllT.cons rfl (fun K' hK => ?_) (AllT.cons rfl (fun K' hK => ?_) (AllT.nil))
              · skip
                refine ap_n0 Tryd.underlying56 info_str rfl (by omega) (X := Y3) (u := .string s) (by with_reducible rfl) (by rfl) _ _ (by rfl) (B := p + 1) (v := .slice A2 es.length c2) (by rfl) J.out.r2 PB.out.1 (by rfl) (by rfl) (by omega) (Nat.le_trans HPw.out KX.out.size) ?_; intro v8 Y4 r1 r2 r3 r4 pd; obtain ⟨B2, b2, hv8, _⟩ := rowS r1; subst hv8; have J9 := hid (J.out.app2 r1 r2 r3); have NP := NP2; have N2 := hid (fun g e => (r3 g e).imp id (fun h9 => Nat.le_trans KX.out.size h9)); clear PB; clear J; have J := J9; clear J9; have h9 := hid (r4 _ _ _ BP.out NP.out.1); clear BP; have BP := h9; clear h9; have h9 := hid (r4 _ _ _ TB.out NP.out.2.1); clear TB; have TB := h9; clear h9; (try (have h9 := hid (And.intro (r4 _ _ _ PB.out.1 (NP.out.2.2 _ PB.out.2)) PB.out.2); clear PB; have PB := h9; clear h9)); (try (have h9 := hid (And.intro (r4 _ _ _ PC.out.1 (NP.out.2.2 _ PC.out.2)) PC.out.2); clear PC; have PC := h9; clear h9)); have h9 := hid (KX.out.then r2 (fun _ _ e => e) (fun b _ e => .inr (.inr (.inl e)))); clear KX; have KX := h9; clear h9; clear r1 r2 r3 r4 pd NP; refine hK.out _ _ (fun _ => rsG BP.out TB.out) ?_; clear hK
                refine wpAnyT_ready (rs := [24]) (by as_aux_lemma => kernel_rfl) (by simp) ?_
                refine AllT.cons rfl (fun K' hK => ?_) (AllT.nil)
                go_simp; have PN := hid (And.intro (Blk.new Y4 3 #[.int .i64 2]) KX.out.size); have b9 := al1 Y4 (.cells #[.int .i64 2] 3); generalize World.alloc Y4 (.cells #[.int .i64 2] 3) = Y5 at b9 PN ⊢; have h9 := hid (J.out.up b9); clear J; have J := h9; clear h9; have h9 := hid (BP.out.below b9 BP.out.lt); clear BP; have BP := h9; clear h9; have h9 := hid (TB.out.below b9 TB.out.lt); clear TB; have TB := h9; clear h9; have h9 := hid (Kept.after b9 KX.out); clear KX; have KX := h9; clear h9; (try (have h9 := hid (And.intro (PA.out.1.below b9 PA.out.1.lt) PA.out.2); clear PA; have PA := h9; clear h9)); (try (have h9 := hid (And.intro (PB.out.1.below b9 PB.out.1.lt) PB.out.2); clear PB; have PB := h9; clear h9)); (try (have h9 := hid (And.intro (PC.out.1.below b9 PC.out.1.lt) PC.out.2); clear PC; have PC := h9; clear h9)); have PC := PN; clear PN b9; refine hK.out _ _ (fun _ => rsG BP.out TB.out) ?_; clear hK
                refine wpAnyT_ready (rs := [25]) (by as_aux_lemma => kernel_rfl) (by simp) ?_
                refine AllT.cons rfl (fun K' hK => ?_) (AllT.nil)
                refine ap_n0 Tryd.underlying55 info_int1 rfl (by omega) (X := Y5) (u := .int .i64 2) (by with_reducible rfl) (by rfl) _ _ (by rfl) (B := p + 1) (v := .slice A4 es.length c4) (by rfl) J.out.r4 PC.out.1 (by rfl) (by rfl) (by omega) (Nat.le_trans HPw.out KX.out.size) ?_; intro v9 Y6 r1 r2 r3 r4 pd; obtain ⟨B4, b4, hv9, _⟩ := rowS r1; subst hv9; have J9 := hid (J.out.app4 r1 r2 r3); have NP := NP4; have N4 := hid (fun g e => (r3 g e).imp id (fun h9 => Nat.le_trans KX.out.size h9)); clear PC; clear J; have J := J9; clear J9; have h9 := hid (r4 _ _ _ BP.out NP.out.1); clear BP; have BP := h9; clear h9; have h9 := hid (r4 _ _ _ TB.out NP.out.2.1); clear TB; have TB := h9; clear h9; (try (have h9 := hid (And.intro (r4 _ _ _ PB.out.1 (NP.out.2.2 _ PB.out.2)) PB.out.2); clear PB; have PB := h9; clear h9)); (try (have h9 := hid (And.intro (r4 _ _ _ PC.out.1 (NP.out.2.2 _ PC.out.2)) PC.out.2); clear PC; have PC := h9; clear h9)); have h9 := hid (KX.out.then r2 (fun _ _ e => e) (fun b _ e => .inr (.inr (.inr (.inr e))))); clear KX; have KX := h9; clear h9; clear r1 r2 r3 r4 pd NP; refine hK.out _ _ (fun _ => rsG BP.out TB.out) ?_; clear hK
                refine wpAnyT_takeW (i := 26) (v := .pointer (some ⟨p, 0, none⟩)) rfl (by decide) (by as_aux_lemma => kernel_rfl) (fun _ _ _ h => h) (.inl ⟨by simp [Region.wanted], fun w7 _ => ?_⟩) (fun _ => rsG BP.out TB.out) ?_
                · go_simp
                refine wpAnyT_takeW (i := 27) (v := .pointer (some ⟨p, 0, none⟩)) rfl (by decide) (by as_aux_lemma => kernel_rfl) (fun _ _ _ h => h) (.inl ⟨by simp [Region.wanted], fun w7 _ => ?_⟩) (fun _ => rsG BP.out TB.out) ?_
                · go_simp
                refine wpAnyT_ready (rs := [28]) (by as_aux_lemma => kernel_rfl) (by simp) ?_
                refine AllT.cons rfl (fun K' hK => ?_) AllT.nil
                have k3 := BP.out.frozen 0
                have kc := BP.out.cell 0
                go_simp
                have BP9 := hid (show Blk (World.setCell Y6 ⟨p, 0, none⟩ (.slice B1 (es.length + 1) b1)) p 58 #[.slice B1 (es.length + 1) b1, .slice A2 es.length c2, .slice A3 es.length c3, .slice A4 es.length c4] from BP.out.set_ 0 _)
                have J9 := hid (J.out.set 0 (.slice B1 (es.length + 1) b1))
                have KX9 := hid (KX.out.setCell (p := ⟨p, 0, none⟩) (.inl (.inl rfl)) (.slice B1 (es.length + 1) b1))
                generalize World.setCell Y6 ⟨p, 0, none⟩ (.slice B1 (es.length + 1) b1) = Z1 at BP9 J9 KX9 ⊢
                clear k3 kc BP J KX
                have BP := BP9
                have J := J9
                have KX := KX9
                clear BP9 J9 KX9
                refine hK.out _ _ (fun h => absurd h (by decide)) ?_
                clear hK
                refine wpAnyT_takeW (i := 29) (v := .pointer (some ⟨p, 0, none⟩)) rfl (by decide) (by as_aux_lemma => kernel_rfl) (fun _ _ _ h => h) (.inl ⟨by simp [Region.wanted], fun w7 _ => ?_⟩) (fun h => absurd h (by decide)) ?_
                · go_simp
                refine wpAnyT_takeW (i := 30) (v := .pointer (some ⟨p, 1, none⟩)) rfl (by decide) (by as_aux_lemma => kernel_rfl) (fun _ _ _ h => h) (.inl ⟨by simp [Region.wanted], fun w7 _ => ?_⟩) (fun h => absurd h (by decide)) ?_
                · go_simp
                refine wpAnyT_ready (rs := [31]) (by as_aux_lemma => kernel_rfl) (by simp) ?_
                refine AllT.cons rfl (fun K' hK => ?_) AllT.nil
                have k3 := BP.out.frozen 1
                have kc := BP.out.cell 1
                go_simp
                have BP9 := hid (show Blk (World.setCell Z1 ⟨p, 1, none⟩ (.slice B2 (es.length + 1) b2)) p 58 #[.slice B1 (es.length + 1) b1, .slice B2 (es.length + 1) b2, .slice A3 es.length c3, .slice A4 es.length c4] from BP.out.set_ 1 _)
                have J9 := hid (J.out.set 1 (.slice B2 (es.length + 1) b2))
                have KX9 := hid (KX.out.setCell (p := ⟨p, 1, none⟩) (.inl (.inl rfl)) (.slice B2 (es.length + 1) b2))
                generalize World.setCell Z1 ⟨p, 1, none⟩ (.slice B2 (es.length + 1) b2) = Z2 at BP9 J9 KX9 ⊢
                clear k3 kc BP J KX
                have BP := BP9
                have J := J9
                have KX := KX9
                clear BP9 J9 KX9
                refine hK.out _ _ (fun h => absurd h (by decide)) ?_
                clear hK
                refine wpAnyT_takeW (i := 32) (v := .pointer (some ⟨p, 0, none⟩)) rfl (by decide) (by as_aux_lemma => kernel_rfl) (fun _ _ _ h => h) (.inl ⟨by simp [Region.wanted], fun w7 _ => ?_⟩) (fun h => absurd h (by decide)) ?_
                · go_simp
                refine wpAnyT_takeW (i := 33) (v := .pointer (some ⟨p, 3, none⟩)) rfl (by decide) (by as_aux_lemma => kernel_rfl) (fun _ _ _ h => h) (.inl ⟨by simp [Region.wanted], fun w7 _ => ?_⟩) (fun h => absurd h (by decide)) ?_
                · go_simp
                refine wpAnyT_ready (rs := [34]) (by as_aux_lemma => kernel_rfl) (by simp) ?_
                refine AllT.cons rfl (fun K' hK => ?_) AllT.nil
                have k3 := BP.out.frozen 3
                have kc := BP.out.cell 3
                go_simp
                have BP9 := hid (show Blk (World.setCell Z2 ⟨p, 3, none⟩ (.slice B4 (es.length + 1) b4)) p 58 #[.slice B1 (es.length + 1) b1, .slice B2 (es.length + 1) b2, .slice A3 es.length c3, .slice B4 (es.length + 1) b4] from BP.out.set_ 3 _)
                have J9 := hid (J.out.set 3 (.slice B4 (es.length + 1) b4))
                have KX9 := hid (KX.out.setCell (p := ⟨p, 3, none⟩) (.inl (.inl rfl)) (.slice B4 (es.length + 1) b4))
                generalize World.setCell Z2 ⟨p, 3, none⟩ (.slice B4 (es.length + 1) b4) = Z3 at BP9 J9 KX9 ⊢
                clear k3 kc BP J KX
                have BP := BP9
                have J := J9
                have KX := KX9
                clear BP9 J9 KX9
                refine hK.out _ _ (fun h => absurd h (by decide)) ?_
                clear hK
                refine wpAnyT_done (by as_aux_lemma => kernel_rfl) ?_ _
                go_wp2_with fail
                go_meet
                exact ⟨_, _, _, BP, J, KX, hid (own_new N1.out N2.out N4.out)⟩
              · skip
                go_simp; have PN := hid (And.intro (Blk.new Y3 3 #[.int .i64 2]) KX.out.size); have b9 := al1 Y3 (.cells #[.int .i64 2] 3); generalize World.alloc Y3 (.cells #[.int .i64 2] 3) = Y7 at b9 PN ⊢; have h9 := hid (J.out.up b9); clear J; have J := h9; clear h9; have h9 := hid (BP.out.below b9 BP.out.lt); clear BP; have BP := h9; clear h9; have h9 := hid (TB.out.below b9 TB.out.lt); clear TB; have TB := h9; clear h9; have h9 := hid (Kept.after b9 KX.out); clear KX; have KX := h9; clear h9; (try (have h9 := hid (And.intro (PA.out.1.below b9 PA.out.1.lt) PA.out.2); clear PA; have PA := h9; clear h9)); (try (have h9 := hid (And.intro (PB.out.1.below b9 PB.out.1.lt) PB.out.2); clear PB; have PB := h9; clear h9)); (try (have h9 := hid (And.intro (PC.out.1.below b9 PC.out.1.lt) PC.out.2); clear PC; have PC := h9; clear h9)); have PC := PN; clear PN b9; refine hK.out _ _ (fun _ => rsG BP.out TB.out) ?_; clear hK
                refine wpAnyT_ready (rs := [18]) (by as_aux_lemma => kernel_rfl) (by simp) ?_
                refine AllT.cons rfl (fun K' hK => ?_) (AllT.nil)
                refine ap_n0 Tryd.underlying56 info_str rfl (by omega) (X := Y7) (u := .string s) (by with_reducible rfl) (by rfl) _ _ (by rfl) (B := p + 1) (v := .slice A2 es.length c2) (by rfl) J.out.r2 PB.out.1 (by rfl) (by rfl) (by omega) (Nat.le_trans HPw.out KX.out.size) ?_; intro v8 Y8 r1 r2 r3 r4 pd; obtain ⟨B2, b2, hv8, _⟩ := rowS r1; subst hv8; have J9 := hid (J.out.app2 r1 r2 r3); have NP := NP2; have N2 := hid (fun g e => (r3 g e).imp id (fun h9 => Nat.le_trans KX.out.size h9)); clear PB; clear J; have J := J9; clear J9; have h9 := hid (r4 _ _ _ BP.out NP.out.1); clear BP; have BP := h9; clear h9; have h9 := hid (r4 _ _ _ TB.out NP.out.2.1); clear TB; have TB := h9; clear h9; (try (have h9 := hid (And.intro (r4 _ _ _ PB.out.1 (NP.out.2.2 _ PB.out.2)) PB.out.2); clear PB; have PB := h9; clear h9)); (try (have h9 := hid (And.intro (r4 _ _ _ PC.out.1 (NP.out.2.2 _ PC.out.2)) PC.out.2); clear PC; have PC := h9; clear h9)); have h9 := hid (KX.out.then r2 (fun _ _ e => e) (fun b _ e => .inr (.inr (.inl e)))); clear KX; have KX := h9; clear h9; clear r1 r2 r3 r4 pd NP; refine hK.out _ _ (fun _ => rsG BP.out TB.out) ?_; clear hK
                refine wpAnyT_ready (rs := [25]) (by as_aux_lemma => kernel_rfl) (by simp) ?_
                refine AllT.cons rfl (fun K' hK => ?_) (AllT.nil)
                refine ap_n0 Tryd.underlying55 info_int1 rfl (by omega) (X := Y8) (u := .int .i64 2) (by with_reducible rfl) (by rfl) _ _ (by rfl) (B := p + 1) (v := .slice A4 es.length c4) (by rfl) J.out.r4 PC.out.1 (by rfl) (by rfl) (by omega) (Nat.le_trans HPw.out KX.out.size) ?_; intro v9 Y9 r1 r2 r3 r4 pd; obtain ⟨B4, b4, hv9, _⟩ := rowS r1; subst hv9; have J9 := hid (J.out.app4 r1 r2 r3); have NP := NP4; have N4 := hid (fun g e => (r3 g e).imp id (fun h9 => Nat.le_trans KX.out.size h9)); clear PC; clear J; have J := J9; clear J9; have h9 := hid (r4 _ _ _ BP.out NP.out.1); clear BP; have BP := h9; clear h9; have h9 := hid (r4 _ _ _ TB.out NP.out.2.1); clear TB; have TB := h9; clear h9; (try (have h9 := hid (And.intro (r4 _ _ _ PB.out.1 (NP.out.2.2 _ PB.out.2)) PB.out.2); clear PB; have PB := h9; clear h9)); (try (have h9 := hid (And.intro (r4 _ _ _ PC.out.1 (NP.out.2.2 _ PC.out.2)) PC.out.2); clear PC; have PC := h9; clear h9)); have h9 := hid (KX.out.then r2 (fun _ _ e => e) (fun b _ e => .inr (.inr (.inr (.inr e))))); clear KX; have KX := h9; clear h9; clear r1 r2 r3 r4 pd NP; refine hK.out _ _ (fun _ => rsG BP.out TB.out) ?_; clear hK
                refine wpAnyT_takeW (i := 26) (v := .pointer (some ⟨p, 0, none⟩)) rfl (by decide) (by as_aux_lemma => kernel_rfl) (fun _ _ _ h => h) (.inl ⟨by simp [Region.wanted], fun w7 _ => ?_⟩) (fun _ => rsG BP.out TB.out) ?_
                · go_simp
                refine wpAnyT_takeW (i := 27) (v := .pointer (some ⟨p, 0, none⟩)) rfl (by decide) (by as_aux_lemma => kernel_rfl) (fun _ _ _ h => h) (.inl ⟨by simp [Region.wanted], fun w7 _ => ?_⟩) (fun _ => rsG BP.out TB.out) ?_
                · go_simp
                refine wpAnyT_ready (rs := [28]) (by as_aux_lemma => kernel_rfl) (by simp) ?_
                refine AllT.cons rfl (fun K' hK => ?_) AllT.nil
                have k3 := BP.out.frozen 0
                have kc := BP.out.cell 0
                go_simp
                have BP9 := hid (show Blk (World.setCell Y9 ⟨p, 0, none⟩ (.slice B1 (es.length + 1) b1)) p 58 #[.slice B1 (es.length + 1) b1, .slice A2 es.length c2, .slice A3 es.length c3, .slice A4 es.length c4] from BP.out.set_ 0 _)
                have J9 := hid (J.out.set 0 (.slice B1 (es.length + 1) b1))
                have KX9 := hid (KX.out.setCell (p := ⟨p, 0, none⟩) (.inl (.inl rfl)) (.slice B1 (es.length + 1) b1))
                generalize World.setCell Y9 ⟨p, 0, none⟩ (.slice B1 (es.length + 1) b1) = Z1 at BP9 J9 KX9 ⊢
                clear k3 kc BP J KX
                have BP := BP9
                have J := J9
                have KX := KX9
                clear BP9 J9 KX9
                refine hK.out _ _ (fun h => absurd h (by decide)) ?_
                clear hK
                refine wpAnyT_takeW (i := 29) (v := .pointer (some ⟨p, 0, none⟩)) rfl (by decide) (by as_aux_lemma => kernel_rfl) (fun _ _ _ h => h) (.inl ⟨by simp [Region.wanted], fun w7 _ => ?_⟩) (fun h => absurd h (by decide)) ?_
                · go_simp
                refine wpAnyT_takeW (i := 30) (v := .pointer (some ⟨p, 1, none⟩)) rfl (by decide) (by as_aux_lemma => kernel_rfl) (fun _ _ _ h => h) (.inl ⟨by simp [Region.wanted], fun w7 _ => ?_⟩) (fun h => absurd h (by decide)) ?_
                · go_simp
                refine wpAnyT_ready (rs := [31]) (by as_aux_lemma => kernel_rfl) (by simp) ?_
                refine AllT.cons rfl (fun K' hK => ?_) AllT.nil
                have k3 := BP.out.frozen 1
                have kc := BP.out.cell 1
                go_simp
                have BP9 := hid (show Blk (World.setCell Z1 ⟨p, 1, none⟩ (.slice B2 (es.length + 1) b2)) p 58 #[.slice B1 (es.length + 1) b1, .slice B2 (es.length + 1) b2, .slice A3 es.length c3, .slice A4 es.length c4] from BP.out.set_ 1 _)
                have J9 := hid (J.out.set 1 (.slice B2 (es.length + 1) b2))
                have KX9 := hid (KX.out.setCell (p := ⟨p, 1, none⟩) (.inl (.inl rfl)) (.slice B2 (es.length + 1) b2))
                generalize World.setCell Z1 ⟨p, 1, none⟩ (.slice B2 (es.length + 1) b2) = Z2 at BP9 J9 KX9 ⊢
                clear k3 kc BP J KX
                have BP := BP9
                have J := J9
                have KX := KX9
                clear BP9 J9 KX9
                refine hK.out _ _ (fun h => absurd h (by decide)) ?_
                clear hK
                refine wpAnyT_takeW (i := 32) (v := .pointer (some ⟨p, 0, none⟩)) rfl (by decide) (by as_aux_lemma => kernel_rfl) (fun _ _ _ h => h) (.inl ⟨by simp [Region.wanted], fun w7 _ => ?_⟩) (fun h => absurd h (by decide)) ?_
                · go_simp
                refine wpAnyT_takeW (i := 33) (v := .pointer (some ⟨p, 3, none⟩)) rfl (by decide) (by as_aux_lemma => kernel_rfl) (fun _ _ _ h => h) (.inl ⟨by simp [Region.wanted], fun w7 _ => ?_⟩) (fun h => absurd h (by decide)) ?_
                · go_simp
                refine wpAnyT_ready (rs := [34]) (by as_aux_lemma => kernel_rfl) (by simp) ?_
                refine AllT.cons rfl (fun K' hK => ?_) AllT.nil
                have k3 := BP.out.frozen 3
                have kc := BP.out.cell 3
                go_simp
                have BP9 := hid (show Blk (World.setCell Z2 ⟨p, 3, none⟩ (.slice B4 (es.length + 1) b4)) p 58 #[.slice B1 (es.length + 1) b1, .slice B2 (es.length + 1) b2, .slice A3 es.length c3, .slice B4 (es.length + 1) b4] from BP.out.set_ 3 _)
                have J9 := hid (J.out.set 3 (.slice B4 (es.length + 1) b4))
                have KX9 := hid (KX.out.setCell (p := ⟨p, 3, none⟩) (.inl (.inl rfl)) (.slice B4 (es.length + 1) b4))
                generalize World.setCell Z2 ⟨p, 3, none⟩ (.slice B4 (es.length + 1) b4) = Z3 at BP9 J9 KX9 ⊢
                clear k3 kc BP J KX
                have BP := BP9
                have J := J9
                have KX := KX9
                clear BP9 J9 KX9
                refine hK.out _ _ (fun h => absurd h (by decide)) ?_
                clear hK
                refine wpAnyT_done (by as_aux_lemma => kernel_rfl) ?_ _
                go_wp2_with fail
                go_meet
                exact ⟨_, _, _, BP, J, KX, hid (own_new N1.out N2.out N4.out)⟩
            · skip
              go_simp; have PN := hid (And.intro (Blk.new Y2 3 #[.int .i64 2]) KX.out.size); have b9 := al1 Y2 (.cells #[.int .i64 2] 3); generalize World.alloc Y2 (.cells #[.int .i64 2] 3) = Y10 at b9 PN ⊢; have h9 := hid (J.out.up b9); clear J; have J := h9; clear h9; have h9 := hid (BP.out.below b9 BP.out.lt); clear BP; have BP := h9; clear h9; have h9 := hid (TB.out.below b9 TB.out.lt); clear TB; have TB := h9; clear h9; have h9 := hid (Kept.after b9 KX.out); clear KX; have KX := h9; clear h9; (try (have h9 := hid (And.intro (PA.out.1.below b9 PA.out.1.lt) PA.out.2); clear PA; have PA := h9; clear h9)); (try (have h9 := hid (And.intro (PB.out.1.below b9 PB.out.1.lt) PB.out.2); clear PB; have PB := h9; clear h9)); (try (have h9 := hid (And.intro (PC.out.1.below b9 PC.out.1.lt) PC.out.2); clear PC; have PC := h9; clear h9)); have PC := PN; clear PN b9; refine hK.out _ _ (fun _ => rsG BP.out TB.out) ?_; clear hK
              refine wpAnyT_ready (rs := [17]) (by as_aux_lemma => kernel_rfl) (by simp) ?_
              refine AllT.cons rfl (fun K' hK => ?_) (AllT.nil)
              go_simp; have PN := hid (And.intro (Blk.new Y10 9 #[.string s]) KX.out.size); have b9 := al1 Y10 (.cells #[.string s] 9); generalize World.alloc Y10 (.cells #[.string s] 9) = Y11 at b9 PN ⊢; have h9 := hid (J.out.up b9); clear J; have J := h9; clear h9; have h9 := hid (BP.out.below b9 BP.out.lt); clear BP; have BP := h9; clear h9; have h9 := hid (TB.out.below b9 TB.out.lt); clear TB; have TB := h9; clear h9; have h9 := hid (Kept.after b9 KX.out); clear KX; have KX := h9; clear h9; (try (have h9 := hid (And.intro (PA.out.1.below b9 PA.out.1.lt) PA.out.2); clear PA; have PA := h9; clear h9)); (try (have h9 := hid (And.intro (PB.out.1.below b9 PB.out.1.lt) PB.out.2); clear PB; have PB := h9; clear h9)); (try (have h9 := hid (And.intro (PC.out.1.below b9 PC.out.1.lt) PC.out.2); clear PC; have PC := h9; clear h9)); have PB := PN; clear PN b9; refine hK.out _ _ (fun _ => rsG BP.out TB.out) ?_; clear hK
              refine wpAnyT_ready (rs := [18]) (by as_aux_lemma => kernel_rfl) (by simp) ?_
              refine AllT.cons rfl (fun K' hK => ?_) (AllT.nil)
              refine ap_n0 Tryd.underlying56 info_str rfl (by omega) (X := Y11) (u := .string s) (by with_reducible rfl) (by rfl) _ _ (by rfl) (B := p + 1) (v := .slice A2 es.length c2) (by rfl) J.out.r2 PB.out.1 (by rfl) (by rfl) (by omega) (Nat.le_trans HPw.out KX.out.size) ?_; intro v8 Y12 r1 r2 r3 r4 pd; obtain ⟨B2, b2, hv8, _⟩ := rowS r1; subst hv8; have J9 := hid (J.out.app2 r1 r2 r3); have NP := NP2; have N2 := hid (fun g e => (r3 g e).imp id (fun h9 => Nat.le_trans KX.out.size h9)); clear PB; clear J; have J := J9; clear J9; have h9 := hid (r4 _ _ _ BP.out NP.out.1); clear BP; have BP := h9; clear h9; have h9 := hid (r4 _ _ _ TB.out NP.out.2.1); clear TB; have TB := h9; clear h9; (try (have h9 := hid (And.intro (r4 _ _ _ PB.out.1 (NP.out.2.2 _ PB.out.2)) PB.out.2); clear PB; have PB := h9; clear h9)); (try (have h9 := hid (And.intro (r4 _ _ _ PC.out.1 (NP.out.2.2 _ PC.out.2)) PC.out.2); clear PC; have PC := h9; clear h9)); have h9 := hid (KX.out.then r2 (fun _ _ e => e) (fun b _ e => .inr (.inr (.inl e)))); clear KX; have KX := h9; clear h9; clear r1 r2 r3 r4 pd NP; refine hK.out _ _ (fun _ => rsG BP.out TB.out) ?_; clear hK
              refine wpAnyT_ready (rs := [25]) (by as_aux_lemma => kernel_rfl) (by simp) ?_
              refine AllT.cons rfl (fun K' hK => ?_) (AllT.nil)
              refine ap_n0 Tryd.underlying55 info_int1 rfl (by omega) (X := Y12) (u := .int .i64 2) (by with_reducible rfl) (by rfl) _ _ (by rfl) (B := p + 1) (v := .slice A4 es.length c4) (by rfl) J.out.r4 PC.out.1 (by rfl) (by rfl) (by omega) (Nat.le_trans HPw.out KX.out.size) ?_; intro v9 Y13 r1 r2 r3 r4 pd; obtain ⟨B4, b4, hv9, _⟩ := rowS r1; subst hv9; have J9 := hid (J.out.app4 r1 r2 r3); have NP := NP4; have N4 := hid (fun g e => (r3 g e).imp id (fun h9 => Nat.le_trans KX.out.size h9)); clear PC; clear J; have J := J9; clear J9; have h9 := hid (r4 _ _ _ BP.out NP.out.1); clear BP; have BP := h9; clear h9; have h9 := hid (r4 _ _ _ TB.out NP.out.2.1); clear TB; have TB := h9; clear h9; (try (have h9 := hid (And.intro (r4 _ _ _ PB.out.1 (NP.out.2.2 _ PB.out.2)) PB.out.2); clear PB; have PB := h9; clear h9)); (try (have h9 := hid (And.intro (r4 _ _ _ PC.out.1 (NP.out.2.2 _ PC.out.2)) PC.out.2); clear PC; have PC := h9; clear h9)); have h9 := hid (KX.out.then r2 (fun _ _ e => e) (fun b _ e => .inr (.inr (.inr (.inr e))))); clear KX; have KX := h9; clear h9; clear r1 r2 r3 r4 pd NP; refine hK.out _ _ (fun _ => rsG BP.out TB.out) ?_; clear hK
              refine wpAnyT_takeW (i := 26) (v := .pointer (some ⟨p, 0, none⟩)) rfl (by decide) (by as_aux_lemma => kernel_rfl) (fun _ _ _ h => h) (.inl ⟨by simp [Region.wanted], fun w7 _ => ?_⟩) (fun _ => rsG BP.out TB.out) ?_
              · go_simp
              refine wpAnyT_takeW (i := 27) (v := .pointer (some ⟨p, 0, none⟩)) rfl (by decide) (by as_aux_lemma => kernel_rfl) (fun _ _ _ h => h) (.inl ⟨by simp [Region.wanted], fun w7 _ => ?_⟩) (fun _ => rsG BP.out TB.out) ?_
              · go_simp
              refine wpAnyT_ready (rs := [28]) (by as_aux_lemma => kernel_rfl) (by simp) ?_
              refine AllT.cons rfl (fun K' hK => ?_) AllT.nil
              have k3 := BP.out.frozen 0
              have kc := BP.out.cell 0
              go_simp
              have BP9 := hid (show Blk (World.setCell Y13 ⟨p, 0, none⟩ (.slice B1 (es.length + 1) b1)) p 58 #[.slice B1 (es.length + 1) b1, .slice A2 es.length c2, .slice A3 es.length c3, .slice A4 es.length c4] from BP.out.set_ 0 _)
              have J9 := hid (J.out.set 0 (.slice B1 (es.length + 1) b1))
              have KX9 := hid (KX.out.setCell (p := ⟨p, 0, none⟩) (.inl (.inl rfl)) (.slice B1 (es.length + 1) b1))
              generalize World.setCell Y13 ⟨p, 0, none⟩ (.slice B1 (es.length + 1) b1) = Z1 at BP9 J9 KX9 ⊢
              clear k3 kc BP J KX
              have BP := BP9
              have J := J9
              have KX := KX9
              clear BP9 J9 KX9
              refine hK.out _ _ (fun h => absurd h (by decide)) ?_
              clear hK
              refine wpAnyT_takeW (i := 29) (v := .pointer (some ⟨p, 0, none⟩)) rfl (by decide) (by as_aux_lemma => kernel_rfl) (fun _ _ _ h => h) (.inl ⟨by simp [Region.wanted], fun w7 _ => ?_⟩) (fun h => absurd h (by decide)) ?_
              · go_simp
              refine wpAnyT_takeW (i := 30) (v := .pointer (some ⟨p, 1, none⟩)) rfl (by decide) (by as_aux_lemma => kernel_rfl) (fun _ _ _ h => h) (.inl ⟨by simp [Region.wanted], fun w7 _ => ?_⟩) (fun h => absurd h (by decide)) ?_
              · go_simp
              refine wpAnyT_ready (rs := [31]) (by as_aux_lemma => kernel_rfl) (by simp) ?_
              refine AllT.cons rfl (fun K' hK => ?_) AllT.nil
              have k3 := BP.out.frozen 1
              have kc := BP.out.cell 1
              go_simp
              have BP9 := hid (show Blk (World.setCell Z1 ⟨p, 1, none⟩ (.slice B2 (es.length + 1) b2)) p 58 #[.slice B1 (es.length + 1) b1, .slice B2 (es.length + 1) b2, .slice A3 es.length c3, .slice A4 es.length c4] from BP.out.set_ 1 _)
              have J9 := hid (J.out.set 1 (.slice B2 (es.length + 1) b2))
              have KX9 := hid (KX.out.setCell (p := ⟨p, 1, none⟩) (.inl (.inl rfl)) (.slice B2 (es.length + 1) b2))
              generalize World.setCell Z1 ⟨p, 1, none⟩ (.slice B2 (es.length + 1) b2) = Z2 at BP9 J9 KX9 ⊢
              clear k3 kc BP J KX
              have BP := BP9
              have J := J9
              have KX := KX9
              clear BP9 J9 KX9
              refine hK.out _ _ (fun h => absurd h (by decide)) ?_
              clear hK
              refine wpAnyT_takeW (i := 32) (v := .pointer (some ⟨p, 0, none⟩)) rfl (by decide) (by as_aux_lemma => kernel_rfl) (fun _ _ _ h => h) (.inl ⟨by simp [Region.wanted], fun w7 _ => ?_⟩) (fun h => absurd h (by decide)) ?_
              · go_simp
              refine wpAnyT_takeW (i := 33) (v := .pointer (some ⟨p, 3, none⟩)) rfl (by decide) (by as_aux_lemma => kernel_rfl) (fun _ _ _ h => h) (.inl ⟨by simp [Region.wanted], fun w7 _ => ?_⟩) (fun h => absurd h (by decide)) ?_
              · go_simp
              refine wpAnyT_ready (rs := [34]) (by as_aux_lemma => kernel_rfl) (by simp) ?_
              refine AllT.cons rfl (fun K' hK => ?_) AllT.nil
              have k3 := BP.out.frozen 3
              have kc := BP.out.cell 3
              go_simp
              have BP9 := hid (show Blk (World.setCell Z2 ⟨p, 3, none⟩ (.slice B4 (es.length + 1) b4)) p 58 #[.slice B1 (es.length + 1) b1, .slice B2 (es.length + 1) b2, .slice A3 es.length c3, .slice B4 (es.length + 1) b4] from BP.out.set_ 3 _)
              have J9 := hid (J.out.set 3 (.slice B4 (es.length + 1) b4))
              have KX9 := hid (KX.out.setCell (p := ⟨p, 3, none⟩) (.inl (.inl rfl)) (.slice B4 (es.length + 1) b4))
              generalize World.setCell Z2 ⟨p, 3, none⟩ (.slice B4 (es.length + 1) b4) = Z3 at BP9 J9 KX9 ⊢
              clear k3 kc BP J KX
              have BP := BP9
              have J := J9
              have KX := KX9
              clear BP9 J9 KX9
              refine hK.out _ _ (fun h => absurd h (by decide)) ?_
              clear hK
              refine wpAnyT_done (by as_aux_lemma => kernel_rfl) ?_ _
              go_wp2_with fail
              go_meet
              exact ⟨_, _, _, BP, J, KX, hid (own_new N1.out N2.out N4.out)⟩
          · skip
            go_simp; have PN := hid (And.intro (Blk.new Y1 9 #[.string s]) KX.out.size); have b9 := al1 Y1 (.cells #[.string s] 9); generalize World.alloc Y1 (.cells #[.string s] 9) = Y14 at b9 PN ⊢; have h9 := hid (J.out.up b9); clear J; have J := h9; clear h9; have h9 := hid (BP.out.below b9 BP.out.lt); clear BP; have BP := h9; clear h9; have h9 := hid (TB.out.below b9 TB.out.lt); clear TB; have TB := h9; clear h9; have h9 := hid (Kept.after b9 KX.out); clear KX; have KX := h9; clear h9; (try (have h9 := hid (And.intro (PA.out.1.below b9 PA.out.1.lt) PA.out.2); clear PA; have PA := h9; clear h9)); (try (have h9 := hid (And.intro (PB.out.1.below b9 PB.out.1.lt) PB.out.2); clear PB; have PB := h9; clear h9)); (try (have h9 := hid (And.intro (PC.out.1.below b9 PC.out.1.lt) PC.out.2); clear PC; have PC := h9; clear h9)); have PB := PN; clear PN b9; refine hK.out _ _ (fun _ => rsG BP.out TB.out) ?_; clear hK
            refine wpAnyT_ready (rs := [10, 24]) (by as_aux_lemma => kernel_rfl) (by simp) ?_
            refine AllT.cons rfl (fun K' hK => ?_) (AllT.cons rfl (fun K' hK => ?_) (AllT.nil))
            · skip
              refine ap_n0 Tryd.underlying55 info_int1 rfl (by omega) (X := Y14) (u := .int .i64 n) (by with_reducible rfl) (by rfl) _ _ (by rfl) (B := p + 1) (v := .slice A1 es.length c1) (by rfl) J.out.r1 PA.out.1 (by rfl) (by rfl) (by omega) (Nat.le_trans HPw.out KX.out.size) ?_; intro v7 Y15 r1 r2 r3 r4 pd; obtain ⟨B1, b1, hv7, _⟩ := rowS r1; subst hv7; have J9 := hid (J.out.app1 r1 r2 r3); have NP := NP1; have N1 := hid (fun g e => (r3 g e).imp id (fun h9 => Nat.le_trans KX.out.size h9)); clear PA; clear J; have J := J9; clear J9; have h9 := hid (r4 _ _ _ BP.out NP.out.1); clear BP; have BP := h9; clear h9; have h9 := hid (r4 _ _ _ TB.out NP.out.2.1); clear TB; have TB := h9; clear h9; (try (have h9 := hid (And.intro (r4 _ _ _ PB.out.1 (NP.out.2.2 _ PB.out.2)) PB.out.2); clear PB; have PB := h9; clear h9)); (try (have h9 := hid (And.intro (r4 _ _ _ PC.out.1 (NP.out.2.2 _ PC.out.2)) PC.out.2); clear PC; have PC := h9; clear h9)); have h9 := hid (KX.out.then r2 (fun _ _ e => e) (fun b _ e => .inr (.inl e))); clear KX; have KX := h9; clear h9; clear r1 r2 r3 r4 pd NP; refine hK.out _ _ (fun _ => rsG BP.out TB.out) ?_; clear hK
              refine wpAnyT_ready (rs := [18, 24]) (by as_aux_lemma => kernel_rfl) (by simp) ?_
              refine AllT.cons rfl (fun K' hK => ?_) (AllT.cons rfl (fun K' hK => ?_) (AllT.nil))
              · skip
                refine ap_n0 Tryd.underlying56 info_str rfl (by omega) (X := Y15) (u := .string s) (by with_reducible rfl) (by rfl) _ _ (by rfl) (B := p + 1) (v := .slice A2 es.length c2) (by rfl) J.out.r2 PB.out.1 (by rfl) (by rfl) (by omega) (Nat.le_trans HPw.out KX.out.size) ?_; intro v8 Y16 r1 r2 r3 r4 pd; obtain ⟨B2, b2, hv8, _⟩ := rowS r1; subst hv8; have J9 := hid (J.out.app2 r1 r2 r3); have NP := NP2; have N2 := hid (fun g e => (r3 g e).imp id (fun h9 => Nat.le_trans KX.out.size h9)); clear PB; clear J; have J := J9; clear J9; have h9 := hid (r4 _ _ _ BP.out NP.out.1); clear BP; have BP := h9; clear h9; have h9 := hid (r4 _ _ _ TB.out NP.out.2.1); clear TB; have TB := h9; clear h9; (try (have h9 := hid (And.intro (r4 _ _ _ PB.out.1 (NP.out.2.2 _ PB.out.2)) PB.out.2); clear PB; have PB := h9; clear h9)); (try (have h9 := hid (And.intro (r4 _ _ _ PC.out.1 (NP.out.2.2 _ PC.out.2)) PC.out.2); clear PC; have PC := h9; clear h9)); have h9 := hid (KX.out.then r2 (fun _ _ e => e) (fun b _ e => .inr (.inr (.inl e)))); clear KX; have KX := h9; clear h9; clear r1 r2 r3 r4 pd NP; refine hK.out _ _ (fun _ => rsG BP.out TB.out) ?_; clear hK
                refine wpAnyT_ready (rs := [24]) (by as_aux_lemma => kernel_rfl) (by simp) ?_
                refine AllT.cons rfl (fun K' hK => ?_) (AllT.nil)
                go_simp; have PN := hid (And.intro (Blk.new Y16 3 #[.int .i64 2]) KX.out.size); have b9 := al1 Y16 (.cells #[.int .i64 2] 3); generalize World.alloc Y16 (.cells #[.int .i64 2] 3) = Y17 at b9 PN ⊢; have h9 := hid (J.out.up b9); clear J; have J := h9; clear h9; have h9 := hid (BP.out.below b9 BP.out.lt); clear BP; have BP := h9; clear h9; have h9 := hid (TB.out.below b9 TB.out.lt); clear TB; have TB := h9; clear h9; have h9 := hid (Kept.after b9 KX.out); clear KX; have KX := h9; clear h9; (try (have h9 := hid (And.intro (PA.out.1.below b9 PA.out.1.lt) PA.out.2); clear PA; have PA := h9; clear h9)); (try (have h9 := hid (And.intro (PB.out.1.below b9 PB.out.1.lt) PB.out.2); clear PB; have PB := h9; clear h9)); (try (have h9 := hid (And.intro (PC.out.1.below b9 PC.out.1.lt) PC.out.2); clear PC; have PC := h9; clear h9)); have PC := PN; clear PN b9; refine hK.out _ _ (fun _ => rsG BP.out TB.out) ?_; clear hK
                refine wpAnyT_ready (rs := [25]) (by as_aux_lemma => kernel_rfl) (by simp) ?_
                refine AllT.cons rfl (fun K' hK => ?_) (AllT.nil)
                refine ap_n0 Tryd.underlying55 info_int1 rfl (by omega) (X := Y17) (u := .int .i64 2) (by with_reducible rfl) (by rfl) _ _ (by rfl) (B := p + 1) (v := .slice A4 es.length c4) (by rfl) J.out.r4 PC.out.1 (by rfl) (by rfl) (by omega) (Nat.le_trans HPw.out KX.out.size) ?_; intro v9 Y18 r1 r2 r3 r4 pd; obtain ⟨B4, b4, hv9, _⟩ := rowS r1; subst hv9; have J9 := hid (J.out.app4 r1 r2 r3); have NP := NP4; have N4 := hid (fun g e => (r3 g e).imp id (fun h9 => Nat.le_trans KX.out.size h9)); clear PC; clear J; have J := J9; clear J9; have h9 := hid (r4 _ _ _ BP.out NP.out.1); clear BP; have BP := h9; clear h9; have h9 := hid (r4 _ _ _ TB.out NP.out.2.1); clear TB; have TB := h9; clear h9; (try (have h9 := hid (And.intro (r4 _ _ _ PB.out.1 (NP.out.2.2 _ PB.out.2)) PB.out.2); clear PB; have PB := h9; clear h9)); (try (have h9 := hid (And.intro (r4 _ _ _ PC.out.1 (NP.out.2.2 _ PC.out.2)) PC.out.2); clear PC; have PC := h9; clear h9)); have h9 := hid (KX.out.then r2 (fun _ _ e => e) (fun b _ e => .inr (.inr (.inr (.inr e))))); clear KX; have KX := h9; clear h9; clear r1 r2 r3 r4 pd NP; refine hK.out _ _ (fun _ => rsG BP.out TB.out) ?_; clear hK
                refine wpAnyT_takeW (i := 26) (v := .pointer (some ⟨p, 0, none⟩)) rfl (by decide) (by as_aux_lemma => kernel_rfl) (fun _ _ _ h => h) (.inl ⟨by simp [Region.wanted], fun w7 _ => ?_⟩) (fun _ => rsG BP.out TB.out) ?_
                · go_simp
                refine wpAnyT_takeW (i := 27) (v := .pointer (some ⟨p, 0, none⟩)) rfl (by decide) (by as_aux_lemma => kernel_rfl) (fun _ _ _ h => h) (.inl ⟨by simp [Region.wanted], fun w7 _ => ?_⟩) (fun _ => rsG BP.out TB.out) ?_
                · go_simp
                refine wpAnyT_ready (rs := [28]) (by as_aux_lemma => kernel_rfl) (by simp) ?_
                refine AllT.cons rfl (fun K' hK => ?_) AllT.nil
                have k3 := BP.out.frozen 0
                have kc := BP.out.cell 0
                go_simp
                have BP9 := hid (show Blk (World.setCell Y18 ⟨p, 0, none⟩ (.slice B1 (es.length + 1) b1)) p 58 #[.slice B1 (es.length + 1) b1, .slice A2 es.length c2, .slice A3 es.length c3, .slice A4 es.length c4] from BP.out.set_ 0 _)
                have J9 := hid (J.out.set 0 (.slice B1 (es.length + 1) b1))
                have KX9 := hid (KX.out.setCell (p := ⟨p, 0, none⟩) (.inl (.inl rfl)) (.slice B1 (es.length + 1) b1))
                generalize World.setCell Y18 ⟨p, 0, none⟩ (.slice B1 (es.length + 1) b1) = Z1 at BP9 J9 KX9 ⊢
                clear k3 kc BP J KX
                have BP := BP9
                have J := J9
                have KX := KX9
                clear BP9 J9 KX9
                refine hK.out _ _ (fun h => absurd h (by decide)) ?_
                clear hK
                refine wpAnyT_takeW (i := 29) (v := .pointer (some ⟨p, 0, none⟩)) rfl (by decide) (by as_aux_lemma => kernel_rfl) (fun _ _ _ h => h) (.inl ⟨by simp [Region.wanted], fun w7 _ => ?_⟩) (fun h => absurd h (by decide)) ?_
                · go_simp
                refine wpAnyT_takeW (i := 30) (v := .pointer (some ⟨p, 1, none⟩)) rfl (by decide) (by as_aux_lemma => kernel_rfl) (fun _ _ _ h => h) (.inl ⟨by simp [Region.wanted], fun w7 _ => ?_⟩) (fun h => absurd h (by decide)) ?_
                · go_simp
                refine wpAnyT_ready (rs := [31]) (by as_aux_lemma => kernel_rfl) (by simp) ?_
                refine AllT.cons rfl (fun K' hK => ?_) AllT.nil
                have k3 := BP.out.frozen 1
                have kc := BP.out.cell 1
                go_simp
                have BP9 := hid (show Blk (World.setCell Z1 ⟨p, 1, none⟩ (.slice B2 (es.length + 1) b2)) p 58 #[.slice B1 (es.length + 1) b1, .slice B2 (es.length + 1) b2, .slice A3 es.length c3, .slice A4 es.length c4] from BP.out.set_ 1 _)
                have J9 := hid (J.out.set 1 (.slice B2 (es.length + 1) b2))
                have KX9 := hid (KX.out.setCell (p := ⟨p, 1, none⟩) (.inl (.inl rfl)) (.slice B2 (es.length + 1) b2))
                generalize World.setCell Z1 ⟨p, 1, none⟩ (.slice B2 (es.length + 1) b2) = Z2 at BP9 J9 KX9 ⊢
                clear k3 kc BP J KX
                have BP := BP9
                have J := J9
                have KX := KX9
                clear BP9 J9 KX9
                refine hK.out _ _ (fun h => absurd h (by decide)) ?_
                clear hK
                refine wpAnyT_takeW (i := 32) (v := .pointer (some ⟨p, 0, none⟩)) rfl (by decide) (by as_aux_lemma => kernel_rfl) (fun _ _ _ h => h) (.inl ⟨by simp [Region.wanted], fun w7 _ => ?_⟩) (fun h => absurd h (by decide)) ?_
                · go_simp
                refine wpAnyT_takeW (i := 33) (v := .pointer (some ⟨p, 3, none⟩)) rfl (by decide) (by as_aux_lemma => kernel_rfl) (fun _ _ _ h => h) (.inl ⟨by simp [Region.wanted], fun w7 _ => ?_⟩) (fun h => absurd h (by decide)) ?_
                · go_simp
                refine wpAnyT_ready (rs := [34]) (by as_aux_lemma => kernel_rfl) (by simp) ?_
                refine AllT.cons rfl (fun K' hK => ?_) AllT.nil
                have k3 := BP.out.frozen 3
                have kc := BP.out.cell 3
                go_simp
                have BP9 := hid (show Blk (World.setCell Z2 ⟨p, 3, none⟩ (.slice B4 (es.length + 1) b4)) p 58 #[.slice B1 (es.length + 1) b1, .slice B2 (es.length + 1) b2, .slice A3 es.length c3, .slice B4 (es.length + 1) b4] from BP.out.set_ 3 _)
                have J9 := hid (J.out.set 3 (.slice B4 (es.length + 1) b4))
                have KX9 := hid (KX.out.setCell (p := ⟨p, 3, none⟩) (.inl (.inl rfl)) (.slice B4 (es.length + 1) b4))
                generalize World.setCell Z2 ⟨p, 3, none⟩ (.slice B4 (es.length + 1) b4) = Z3 at BP9 J9 KX9 ⊢
                clear k3 kc BP J KX
                have BP := BP9
                have J := J9
                have KX := KX9
                clear BP9 J9 KX9
                refine hK.out _ _ (fun h => absurd h (by decide)) ?_
                clear hK
                refine wpAnyT_done (by as_aux_lemma => kernel_rfl) ?_ _
                go_wp2_with fail
                go_meet
                exact ⟨_, _, _, BP, J, KX, hid (own_new N1.out N2.out N4.out)⟩
              · skip
                go_simp; have PN := hid (And.intro (Blk.new Y15 3 #[.int .i64 2]) KX.out.size); have b9 := al1 Y15 (.cells #[.int .i64 2] 3); generalize World.alloc Y15 (.cells #[.int .i64 2] 3) = Y19 at b9 PN ⊢; have h9 := hid (J.out.up b9); clear J; have J := h9; clear h9; have h9 := hid (BP.out.below b9 BP.out.lt); clear BP; have BP := h9; clear h9; have h9 := hid (TB.out.below b9 TB.out.lt); clear TB; have TB := h9; clear h9; have h9 := hid (Kept.after b9 KX.out); clear KX; have KX := h9; clear h9; (try (have h9 := hid (And.intro (PA.out.1.below b9 PA.out.1.lt) PA.out.2); clear PA; have PA := h9; clear h9)); (try (have h9 := hid (And.intro (PB.out.1.below b9 PB.out.1.lt) PB.out.2); clear PB; have PB := h9; clear h9)); (try (have h9 := hid (And.intro (PC.out.1.below b9 PC.out.1.lt) PC.out.2); clear PC; have PC := h9; clear h9)); have PC := PN; clear PN b9; refine hK.out _ _ (fun _ => rsG BP.out TB.out) ?_; clear hK
                refine wpAnyT_ready (rs := [18]) (by as_aux_lemma => kernel_rfl) (by simp) ?_
                refine AllT.cons rfl (fun K' hK => ?_) (AllT.nil)
                refine ap_n0 Tryd.underlying56 info_str rfl (by omega) (X := Y19) (u := .string s) (by with_reducible rfl) (by rfl) _ _ (by rfl) (B := p + 1) (v := .slice A2 es.length c2) (by rfl) J.out.r2 PB.out.1 (by rfl) (by rfl) (by omega) (Nat.le_trans HPw.out KX.out.size) ?_; intro v8 Y20 r1 r2 r3 r4 pd; obtain ⟨B2, b2, hv8, _⟩ := rowS r1; subst hv8; have J9 := hid (J.out.app2 r1 r2 r3); have NP := NP2; have N2 := hid (fun g e => (r3 g e).imp id (fun h9 => Nat.le_trans KX.out.size h9)); clear PB; clear J; have J := J9; clear J9; have h9 := hid (r4 _ _ _ BP.out NP.out.1); clear BP; have BP := h9; clear h9; have h9 := hid (r4 _ _ _ TB.out NP.out.2.1); clear TB; have TB := h9; clear h9; (try (have h9 := hid (And.intro (r4 _ _ _ PB.out.1 (NP.out.2.2 _ PB.out.2)) PB.out.2); clear PB; have PB := h9; clear h9)); (try (have h9 := hid (And.intro (r4 _ _ _ PC.out.1 (NP.out.2.2 _ PC.out.2)) PC.out.2); clear PC; have PC := h9; clear h9)); have h9 := hid (KX.out.then r2 (fun _ _ e => e) (fun b _ e => .inr (.inr (.inl e)))); clear KX; have KX := h9; clear h9; clear r1 r2 r3 r4 pd NP; refine hK.out _ _ (fun _ => rsG BP.out TB.out) ?_; clear hK
                refine wpAnyT_ready (rs := [25]) (by as_aux_lemma => kernel_rfl) (by simp) ?_
                refine AllT.cons rfl (fun K' hK => ?_) (AllT.nil)
                refine ap_n0 Tryd.underlying55 info_int1 rfl (by omega) (X := Y20) (u := .int .i64 2) (by with_reducible rfl) (by rfl) _ _ (by rfl) (B := p + 1) (v := .slice A4 es.length c4) (by rfl) J.out.r4 PC.out.1 (by rfl) (by rfl) (by omega) (Nat.le_trans HPw.out KX.out.size) ?_; intro v9 Y21 r1 r2 r3 r4 pd; obtain ⟨B4, b4, hv9, _⟩ := rowS r1; subst hv9; have J9 := hid (J.out.app4 r1 r2 r3); have NP := NP4; have N4 := hid (fun g e => (r3 g e).imp id (fun h9 => Nat.le_trans KX.out.size h9)); clear PC; clear J; have J := J9; clear J9; have h9 := hid (r4 _ _ _ BP.out NP.out.1); clear BP; have BP := h9; clear h9; have h9 := hid (r4 _ _ _ TB.out NP.out.2.1); clear TB; have TB := h9; clear h9; (try (have h9 := hid (And.intro (r4 _ _ _ PB.out.1 (NP.out.2.2 _ PB.out.2)) PB.out.2); clear PB; have PB := h9; clear h9)); (try (have h9 := hid (And.intro (r4 _ _ _ PC.out.1 (NP.out.2.2 _ PC.out.2)) PC.out.2); clear PC; have PC := h9; clear h9)); have h9 := hid (KX.out.then r2 (fun _ _ e => e) (fun b _ e => .inr (.inr (.inr (.inr e))))); clear KX; have KX := h9; clear h9; clear r1 r2 r3 r4 pd NP; refine hK.out _ _ (fun _ => rsG BP.out TB.out) ?_; clear hK
                refine wpAnyT_takeW (i := 26) (v := .pointer (some ⟨p, 0, none⟩)) rfl (by decide) (by as_aux_lemma => kernel_rfl) (fun _ _ _ h => h) (.inl ⟨by simp [Region.wanted], fun w7 _ => ?_⟩) (fun _ => rsG BP.out TB.out) ?_
                · go_simp
                refine wpAnyT_takeW (i := 27) (v := .pointer (some ⟨p, 0, none⟩)) rfl (by decide) (by as_aux_lemma => kernel_rfl) (fun _ _ _ h => h) (.inl ⟨by simp [Region.wanted], fun w7 _ => ?_⟩) (fun _ => rsG BP.out TB.out) ?_
                · go_simp
                refine wpAnyT_ready (rs := [28]) (by as_aux_lemma => kernel_rfl) (by simp) ?_
                refine AllT.cons rfl (fun K' hK => ?_) AllT.nil
                have k3 := BP.out.frozen 0
                have kc := BP.out.cell 0
                go_simp
                have BP9 := hid (show Blk (World.setCell Y21 ⟨p, 0, none⟩ (.slice B1 (es.length + 1) b1)) p 58 #[.slice B1 (es.length + 1) b1, .slice A2 es.length c2, .slice A3 es.length c3, .slice A4 es.length c4] from BP.out.set_ 0 _)
                have J9 := hid (J.out.set 0 (.slice B1 (es.length + 1) b1))
                have KX9 := hid (KX.out.setCell (p := ⟨p, 0, none⟩) (.inl (.inl rfl)) (.slice B1 (es.length + 1) b1))
                generalize World.setCell Y21 ⟨p, 0, none⟩ (.slice B1 (es.length + 1) b1) = Z1 at BP9 J9 KX9 ⊢
                clear k3 kc BP J KX
                have BP := BP9
                have J := J9
                have KX := KX9
                clear BP9 J9 KX9
                refine hK.out _ _ (fun h => absurd h (by decide)) ?_
                clear hK
                refine wpAnyT_takeW (i := 29) (v := .pointer (some ⟨p, 0, none⟩)) rfl (by decide) (by as_aux_lemma => kernel_rfl) (fun _ _ _ h => h) (.inl ⟨by simp [Region.wanted], fun w7 _ => ?_⟩) (fun h => absurd h (by decide)) ?_
                · go_simp
                refine wpAnyT_takeW (i := 30) (v := .pointer (some ⟨p, 1, none⟩)) rfl (by decide) (by as_aux_lemma => kernel_rfl) (fun _ _ _ h => h) (.inl ⟨by simp [Region.wanted], fun w7 _ => ?_⟩) (fun h => absurd h (by decide)) ?_
                · go_simp
                refine wpAnyT_ready (rs := [31]) (by as_aux_lemma => kernel_rfl) (by simp) ?_
                refine AllT.cons rfl (fun K' hK => ?_) AllT.nil
                have k3 := BP.out.frozen 1
                have kc := BP.out.cell 1
                go_simp
                have BP9 := hid (show Blk (World.setCell Z1 ⟨p, 1, none⟩ (.slice B2 (es.length + 1) b2)) p 58 #[.slice B1 (es.length + 1) b1, .slice B2 (es.length + 1) b2, .slice A3 es.length c3, .slice A4 es.length c4] from BP.out.set_ 1 _)
                have J9 := hid (J.out.set 1 (.slice B2 (es.length + 1) b2))
                have KX9 := hid (KX.out.setCell (p := ⟨p, 1, none⟩) (.inl (.inl rfl)) (.slice B2 (es.length + 1) b2))
                generalize World.setCell Z1 ⟨p, 1, none⟩ (.slice B2 (es.length + 1) b2) = Z2 at BP9 J9 KX9 ⊢
                clear k3 kc BP J KX
                have BP := BP9
                have J := J9
                have KX := KX9
                clear BP9 J9 KX9
                refine hK.out _ _ (fun h => absurd h (by decide)) ?_
                clear hK
                refine wpAnyT_takeW (i := 32) (v := .pointer (some ⟨p, 0, none⟩)) rfl (by decide) (by as_aux_lemma => kernel_rfl) (fun _ _ _ h => h) (.inl ⟨by simp [Region.wanted], fun w7 _ => ?_⟩) (fun h => absurd h (by decide)) ?_
                · go_simp
                refine wpAnyT_takeW (i := 33) (v := .pointer (some ⟨p, 3, none⟩)) rfl (by decide) (by as_aux_lemma => kernel_rfl) (fun _ _ _ h => h) (.inl ⟨by simp [Region.wanted], fun w7 _ => ?_⟩) (fun h => absurd h (by decide)) ?_
                · go_simp
                refine wpAnyT_ready (rs := [34]) (by as_aux_lemma => kernel_rfl) (by simp) ?_
                refine AllT.cons rfl (fun K' hK => ?_) AllT.nil
                have k3 := BP.out.frozen 3
                have kc := BP.out.cell 3
                go_simp
                have BP9 := hid (show Blk (World.setCell Z2 ⟨p, 3, none⟩ (.slice B4 (es.length + 1) b4)) p 58 #[.slice B1 (es.length + 1) b1, .slice B2 (es.length + 1) b2, .slice A3 es.length c3, .slice B4 (es.length + 1) b4] from BP.out.set_ 3 _)
                have J9 := hid (J.out.set 3 (.slice B4 (es.length + 1) b4))
                have KX9 := hid (KX.out.setCell (p := ⟨p, 3, none⟩) (.inl (.inl rfl)) (.slice B4 (es.length + 1) b4))
                generalize World.setCell Z2 ⟨p, 3, none⟩ (.slice B4 (es.length + 1) b4) = Z3 at BP9 J9 KX9 ⊢
                clear k3 kc BP J KX
                have BP := BP9
                have J := J9
                have KX := KX9
                clear BP9 J9 KX9
                refine hK.out _ _ (fun h => absurd h (by decide)) ?_
                clear hK
                refine wpAnyT_done (by as_aux_lemma => kernel_rfl) ?_ _
                go_wp2_with fail
                go_meet
                exact ⟨_, _, _, BP, J, KX, hid (own_new N1.out N2.out N4.out)⟩
            · skip
              go_simp; have PN := hid (And.intro (Blk.new Y14 3 #[.int .i64 2]) KX.out.size); have b9 := al1 Y14 (.cells #[.int .i64 2] 3); generalize World.alloc Y14 (.cells #[.int .i64 2] 3) = Y22 at b9 PN ⊢; have h9 := hid (J.out.up b9); clear J; have J := h9; clear h9; have h9 := hid (BP.out.below b9 BP.out.lt); clear BP; have BP := h9; clear h9; have h9 := hid (TB.out.below b9 TB.out.lt); clear TB; have TB := h9; clear h9; have h9 := hid (Kept.after b9 KX.out); clear KX; have KX := h9; clear h9; (try (have h9 := hid (And.intro (PA.out.1.below b9 PA.out.1.lt) PA.out.2); clear PA; have PA := h9; clear h9)); (try (have h9 := hid (And.intro (PB.out.1.below b9 PB.out.1.lt) PB.out.2); clear PB; have PB := h9; clear h9)); (try (have h9 := hid (And.intro (PC.out.1.below b9 PC.out.1.lt) PC.out.2); clear PC; have PC := h9; clear h9)); have PC := PN; clear PN b9; refine hK.out _ _ (fun _ => rsG BP.out TB.out) ?_; clear hK
              refine wpAnyT_ready (rs := [10]) (by as_aux_lemma => kernel_rfl) (by simp) ?_
              refine AllT.cons rfl (fun K' hK => ?_) (AllT.nil)
              refine ap_n0 Tryd.underlying55 info_int1 rfl (by omega) (X := Y22) (u := .int .i64 n) (by with_reducible rfl) (by rfl) _ _ (by rfl) (B := p + 1) (v := .slice A1 es.length c1) (by rfl) J.out.r1 PA.out.1 (by rfl) (by rfl) (by omega) (Nat.le_trans HPw.out KX.out.size) ?_; intro v7 Y23 r1 r2 r3 r4 pd; obtain ⟨B1, b1, hv7, _⟩ := rowS r1; subst hv7; have J9 := hid (J.out.app1 r1 r2 r3); have NP := NP1; have N1 := hid (fun g e => (r3 g e).imp id (fun h9 => Nat.le_trans KX.out.size h9)); clear PA; clear J; have J := J9; clear J9; have h9 := hid (r4 _ _ _ BP.out NP.out.1); clear BP; have BP := h9; clear h9; have h9 := hid (r4 _ _ _ TB.out NP.out.2.1); clear TB; have TB := h9; clear h9; (try (have h9 := hid (And.intro (r4 _ _ _ PB.out.1 (NP.out.2.2 _ PB.out.2)) PB.out.2); clear PB; have PB := h9; clear h9)); (try (have h9 := hid (And.intro (r4 _ _ _ PC.out.1 (NP.out.2.2 _ PC.out.2)) PC.out.2); clear PC; have PC := h9; clear h9)); have h9 := hid (KX.out.then r2 (fun _ _ e => e) (fun b _ e => .inr (.inl e))); clear KX; have KX := h9; clear h9; clear r1 r2 r3 r4 pd NP; refine hK.out _ _ (fun _ => rsG BP.out TB.out) ?_; clear hK
              refine wpAnyT_ready (rs := [18]) (by as_aux_lemma => kernel_rfl) (by simp) ?_
              refine AllT.cons rfl (fun K' hK => ?_) (AllT.nil)
              refine ap_n0 Tryd.underlying56 info_str rfl (by omega) (X := Y23) (u := .string s) (by with_reducible rfl) (by rfl) _ _ (by rfl) (B := p + 1) (v := .slice A2 es.length c2) (by rfl) J.out.r2 PB.out.1 (by rfl) (by rfl) (by omega) (Nat.le_trans HPw.out KX.out.size) ?_; intro v8 Y24 r1 r2 r3 r4 pd; obtain ⟨B2, b2, hv8, _⟩ := rowS r1; subst hv8; have J9 := hid (J.out.app2 r1 r2 r3); have NP := NP2; have N2 := hid (fun g e => (r3 g e).imp id (fun h9 => Nat.le_trans KX.out.size h9)); clear PB; clear J; have J := J9; clear J9; have h9 := hid (r4 _ _ _ BP.out NP.out.1); clear BP; have BP := h9; clear h9; have h9 := hid (r4 _ _ _ TB.out NP.out.2.1); clear TB; have TB := h9; clear h9; (try (have h9 := hid (And.intro (r4 _ _ _ PB.out.1 (NP.out.2.2 _ PB.out.2)) PB.out.2); clear PB; have PB := h9; clear h9)); (try (have h9 := hid (And.intro (r4 _ _ _ PC.out.1 (NP.out.2.2 _ PC.out.2)) PC.out.2); clear PC; have PC := h9; clear h9)); have h9 := hid (KX.out.then r2 (fun _ _ e => e) (fun b _ e => .inr (.inr (.inl e)))); clear KX; have KX := h9; clear h9; clear r1 r2 r3 r4 pd NP; refine hK.out _ _ (fun _ => rsG BP.out TB.out) ?_; clear hK
              refine wpAnyT_ready (rs := [25]) (by as_aux_lemma => kernel_rfl) (by simp) ?_
              refine AllT.cons rfl (fun K' hK => ?_) (AllT.nil)
              refine ap_n0 Tryd.underlying55 info_int1 rfl (by omega) (X := Y24) (u := .int .i64 2) (by with_reducible rfl) (by rfl) _ _ (by rfl) (B := p + 1) (v := .slice A4 es.length c4) (by rfl) J.out.r4 PC.out.1 (by rfl) (by rfl) (by omega) (Nat.le_trans HPw.out KX.out.size) ?_; intro v9 Y25 r1 r2 r3 r4 pd; obtain ⟨B4, b4, hv9, _⟩ := rowS r1; subst hv9; have J9 := hid (J.out.app4 r1 r2 r3); have NP := NP4; have N4 := hid (fun g e => (r3 g e).imp id (fun h9 => Nat.le_trans KX.out.size h9)); clear PC; clear J; have J := J9; clear J9; have h9 := hid (r4 _ _ _ BP.out NP.out.1); clear BP; have BP := h9; clear h9; have h9 := hid (r4 _ _ _ TB.out NP.out.2.1); clear TB; have TB := h9; clear h9; (try (have h9 := hid (And.intro (r4 _ _ _ PB.out.1 (NP.out.2.2 _ PB.out.2)) PB.out.2); clear PB; have PB := h9; clear h9)); (try (have h9 := hid (And.intro (r4 _ _ _ PC.out.1 (NP.out.2.2 _ PC.out.2)) PC.out.2); clear PC; have PC := h9; clear h9)); have h9 := hid (KX.out.then r2 (fun _ _ e => e) (fun b _ e => .inr (.inr (.inr (.inr e))))); clear KX; have KX := h9; clear h9; clear r1 r2 r3 r4 pd NP; refine hK.out _ _ (fun _ => rsG BP.out TB.out) ?_; clear hK
              refine wpAnyT_takeW (i := 26) (v := .pointer (some ⟨p, 0, none⟩)) rfl (by decide) (by as_aux_lemma => kernel_rfl) (fun _ _ _ h => h) (.inl ⟨by simp [Region.wanted], fun w7 _ => ?_⟩) (fun _ => rsG BP.out TB.out) ?_
              · go_simp
              refine wpAnyT_takeW (i := 27) (v := .pointer (some ⟨p, 0, none⟩)) rfl (by decide) (by as_aux_lemma => kernel_rfl) (fun _ _ _ h => h) (.inl ⟨by simp [Region.wanted], fun w7 _ => ?_⟩) (fun _ => rsG BP.out TB.out) ?_
              · go_simp
              refine wpAnyT_ready (rs := [28]) (by as_aux_lemma => kernel_rfl) (by simp) ?_
              refine AllT.cons rfl (fun K' hK => ?_) AllT.nil
              have k3 := BP.out.frozen 0
              have kc := BP.out.cell 0
              go_simp
              have BP9 := hid (show Blk (World.setCell Y25 ⟨p, 0, none⟩ (.slice B1 (es.length + 1) b1)) p 58 #[.slice B1 (es.length + 1) b1, .slice A2 es.length c2, .slice A3 es.length c3, .slice A4 es.length c4] from BP.out.set_ 0 _)
              have J9 := hid (J.out.set 0 (.slice B1 (es.length + 1) b1))
              have KX9 := hid (KX.out.setCell (p := ⟨p, 0, none⟩) (.inl (.inl rfl)) (.slice B1 (es.length + 1) b1))
              generalize World.setCell Y25 ⟨p, 0, none⟩ (.slice B1 (es.length + 1) b1) = Z1 at BP9 J9 KX9 ⊢
              clear k3 kc BP J KX
              have BP := BP9
              have J := J9
              have KX := KX9
              clear BP9 J9 KX9
              refine hK.out _ _ (fun h => absurd h (by decide)) ?_
              clear hK
              refine wpAnyT_takeW (i := 29) (v := .pointer (some ⟨p, 0, none⟩)) rfl (by decide) (by as_aux_lemma => kernel_rfl) (fun _ _ _ h => h) (.inl ⟨by simp [Region.wanted], fun w7 _ => ?_⟩) (fun h => absurd h (by decide)) ?_
              · go_simp
              refine wpAnyT_takeW (i := 30) (v := .pointer (some ⟨p, 1, none⟩)) rfl (by decide) (by as_aux_lemma => kernel_rfl) (fun _ _ _ h => h) (.inl ⟨by simp [Region.wanted], fun w7 _ => ?_⟩) (fun h => absurd h (by decide)) ?_
              · go_simp
              refine wpAnyT_ready (rs := [31]) (by as_aux_lemma => kernel_rfl) (by simp) ?_
              refine AllT.cons rfl (fun K' hK => ?_) AllT.nil
              have k3 := BP.out.frozen 1
              have kc := BP.out.cell 1
              go_simp
              have BP9 := hid (show Blk (World.setCell Z1 ⟨p, 1, none⟩ (.slice B2 (es.length + 1) b2)) p 58 #[.slice B1 (es.length + 1) b1, .slice B2 (es.length + 1) b2, .slice A3 es.length c3, .slice A4 es.length c4] from BP.out.set_ 1 _)
              have J9 := hid (J.out.set 1 (.slice B2 (es.length + 1) b2))
              have KX9 := hid (KX.out.setCell (p := ⟨p, 1, none⟩) (.inl (.inl rfl)) (.slice B2 (es.length + 1) b2))
              generalize World.setCell Z1 ⟨p, 1, none⟩ (.slice B2 (es.length + 1) b2) = Z2 at BP9 J9 KX9 ⊢
              clear k3 kc BP J KX
              have BP := BP9
              have J := J9
              have KX := KX9
              clear BP9 J9 KX9
              refine hK.out _ _ (fun h => absurd h (by decide)) ?_
              clear hK
              refine wpAnyT_takeW (i := 32) (v := .pointer (some ⟨p, 0, none⟩)) rfl (by decide) (by as_aux_lemma => kernel_rfl) (fun _ _ _ h => h) (.inl ⟨by simp [Region.wanted], fun w7 _ => ?_⟩) (fun h => absurd h (by decide)) ?_
              · go_simp
              refine wpAnyT_takeW (i := 33) (v := .pointer (some ⟨p, 3, none⟩)) rfl (by decide) (by as_aux_lemma => kernel_rfl) (fun _ _ _ h => h) (.inl ⟨by simp [Region.wanted], fun w7 _ => ?_⟩) (fun h => absurd h (by decide)) ?_
              · go_simp
              refine wpAnyT_ready (rs := [34]) (by as_aux_lemma => kernel_rfl) (by simp) ?_
              refine AllT.cons rfl (fun K' hK => ?_) AllT.nil
              have k3 := BP.out.frozen 3
              have kc := BP.out.cell 3
              go_simp
              have BP9 := hid (show Blk (World.setCell Z2 ⟨p, 3, none⟩ (.slice B4 (es.length + 1) b4)) p 58 #[.slice B1 (es.length + 1) b1, .slice B2 (es.length + 1) b2, .slice A3 es.length c3, .slice B4 (es.length + 1) b4] from BP.out.set_ 3 _)
              have J9 := hid (J.out.set 3 (.slice B4 (es.length + 1) b4))
              have KX9 := hid (KX.out.setCell (p := ⟨p, 3, none⟩) (.inl (.inl rfl)) (.slice B4 (es.length + 1) b4))
              generalize World.setCell Z2 ⟨p, 3, none⟩ (.slice B4 (es.length + 1) b4) = Z3 at BP9 J9 KX9 ⊢
              clear k3 kc BP J KX
              have BP := BP9
              have J := J9
              have KX := KX9
              clear BP9 J9 KX9
              refine hK.out _ _ (fun h => absurd h (by decide)) ?_
              clear hK
              refine wpAnyT_done (by as_aux_lemma => kernel_rfl) ?_ _
              go_wp2_with fail
              go_meet
              exact ⟨_, _, _, BP, J, KX, hid (own_new N1.out N2.out N4.out)⟩
          · skip
            go_simp; have PN := hid (And.intro (Blk.new Y1 3 #[.int .i64 2]) KX.out.size); have b9 := al1 Y1 (.cells #[.int .i64 2] 3); generalize World.alloc Y1 (.cells #[.int .i64 2] 3) = Y26 at b9 PN ⊢; have h9 := hid (J.out.up b9); clear J; have J := h9; clear h9; have h9 := hid (BP.out.below b9 BP.out.lt); clear BP; have BP := h9; clear h9; have h9 := hid (TB.out.below b9 TB.out.lt); clear TB; have TB := h9; clear h9; have h9 := hid (Kept.after b9 KX.out); clear KX; have KX := h9; clear h9; (try (have h9 := hid (And.intro (PA.out.1.below b9 PA.out.1.lt) PA.out.2); clear PA; have PA := h9; clear h9)); (try (have h9 := hid (And.intro (PB.out.1.below b9 PB.out.1.lt) PB.out.2); clear PB; have PB := h9; clear h9)); (try (have h9 := hid (And.intro (PC.out.1.below b9 PC.out.1.lt) PC.out.2); clear PC; have PC := h9; clear h9)); have PC := PN; clear PN b9; refine hK.out _ _ (fun _ => rsG BP.out TB.out) ?_; clear hK
            refine wpAnyT_ready (rs := [10, 17]) (by as_aux_lemma => kernel_rfl) (by simp) ?_
            refine AllT.cons rfl (fun K' hK => ?_) (AllT.cons rfl (fun K' hK => ?_) (AllT.nil))
            · skip
              refine ap_n0 Tryd.underlying55 info_int1 rfl (by omega) (X := Y26) (u := .int .i64 n) (by with_reducible rfl) (by rfl) _ _ (by rfl) (B := p + 1) (v := .slice A1 es.length c1) (by rfl) J.out.r1 PA.out.1 (by rfl) (by rfl) (by omega) (Nat.le_trans HPw.out KX.out.size) ?_; intro v7 Y27 r1 r2 r3 r4 pd; obtain ⟨B1, b1, hv7, _⟩ := rowS r1; subst hv7; have J9 := hid (J.out.app1 r1 r2 r3); have NP := NP1; have N1 := hid (fun g e => (r3 g e).imp id (fun h9 => Nat.le_trans KX.out.size h9)); clear PA; clear J; have J := J9; clear J9; have h9 := hid (r4 _ _ _ BP.out NP.out.1); clear BP; have BP := h9; clear h9; have h9 := hid (r4 _ _ _ TB.out NP.out.2.1); clear TB; have TB := h9; clear h9; (try (have h9 := hid (And.intro (r4 _ _ _ PB.out.1 (NP.out.2.2 _ PB.out.2)) PB.out.2); clear PB; have PB := h9; clear h9)); (try (have h9 := hid (And.intro (r4 _ _ _ PC.out.1 (NP.out.2.2 _ PC.out.2)) PC.out.2); clear PC; have PC := h9; clear h9)); have h9 := hid (KX.out.then r2 (fun _ _ e => e) (fun b _ e => .inr (.inl e))); clear KX; have KX := h9; clear h9; clear r1 r2 r3 r4 pd NP; refine hK.out _ _ (fun _ => rsG BP.out TB.out) ?_; clear hK
              refine wpAnyT_ready (rs := [17]) (by as_aux_lemma => kernel_rfl) (by simp) ?_
              refine AllT.cons rfl (fun K' hK => ?_) (AllT.nil)
              go_simp; have PN := hid (And.intro (Blk.new Y27 9 #[.string s]) KX.out.size); have b9 := al1 Y27 (.cells #[.string s] 9); generalize World.alloc Y27 (.cells #[.string s] 9) = Y28 at b9 PN ⊢; have h9 := hid (J.out.up b9); clear J; have J := h9; clear h9; have h9 := hid (BP.out.below b9 BP.out.lt); clear BP; have BP := h9; clear h9; have h9 := hid (TB.out.below b9 TB.out.lt); clear TB; have TB := h9; clear h9; have h9 := hid (Kept.after b9 KX.out); clear KX; have KX := h9; clear h9; (try (have h9 := hid (And.intro (PA.out.1.below b9 PA.out.1.lt) PA.out.2); clear PA; have PA := h9; clear h9)); (try (have h9 := hid (And.intro (PB.out.1.below b9 PB.out.1.lt) PB.out.2); clear PB; have PB := h9; clear h9)); (try (have h9 := hid (And.intro (PC.out.1.below b9 PC.out.1.lt) PC.out.2); clear PC; have PC := h9; clear h9)); have PB := PN; clear PN b9; refine hK.out _ _ (fun _ => rsG BP.out TB.out) ?_; clear hK
              refine wpAnyT_ready (rs := [18]) (by as_aux_lemma => kernel_rfl) (by simp) ?_
              refine AllT.cons rfl (fun K' hK => ?_) (AllT.nil)
              refine ap_n0 Tryd.underlying56 info_str rfl (by omega) (X := Y28) (u := .string s) (by with_reducible rfl) (by rfl) _ _ (by rfl) (B := p + 1) (v := .slice A2 es.length c2) (by rfl) J.out.r2 PB.out.1 (by rfl) (by rfl) (by omega) (Nat.le_trans HPw.out KX.out.size) ?_; intro v8 Y29 r1 r2 r3 r4 pd; obtain ⟨B2, b2, hv8, _⟩ := rowS r1; subst hv8; have J9 := hid (J.out.app2 r1 r2 r3); have NP := NP2; have N2 := hid (fun g e => (r3 g e).imp id (fun h9 => Nat.le_trans KX.out.size h9)); clear PB; clear J; have J := J9; clear J9; have h9 := hid (r4 _ _ _ BP.out NP.out.1); clear BP; have BP := h9; clear h9; have h9 := hid (r4 _ _ _ TB.out NP.out.2.1); clear TB; have TB := h9; clear h9; (try (have h9 := hid (And.intro (r4 _ _ _ PB.out.1 (NP.out.2.2 _ PB.out.2)) PB.out.2); clear PB; have PB := h9; clear h9)); (try (have h9 := hid (And.intro (r4 _ _ _ PC.out.1 (NP.out.2.2 _ PC.out.2)) PC.out.2); clear PC; have PC := h9; clear h9)); have h9 := hid (KX.out.then r2 (fun _ _ e => e) (fun b _ e => .inr (.inr (.inl e)))); clear KX; have KX := h9; clear h9; clear r1 r2 r3 r4 pd NP; refine hK.out _ _ (fun _ => rsG BP.out TB.out) ?_; clear hK
              refine wpAnyT_ready (rs := [25]) (by as_aux_lemma => kernel_rfl) (by simp) ?_
              refine AllT.cons rfl (fun K' hK => ?_) (AllT.nil)
              refine ap_n0 Tryd.underlying55 info_int1 rfl (by omega) (X := Y29) (u := .int .i64 2) (by with_reducible rfl) (by rfl) _ _ (by rfl) (B := p + 1) (v := .slice A4 es.length c4) (by rfl) J.out.r4 PC.out.1 (by rfl) (by rfl) (by omega) (Nat.le_trans HPw.out KX.out.size) ?_; intro v9 Y30 r1 r2 r3 r4 pd; obtain ⟨B4, b4, hv9, _⟩ := rowS r1; subst hv9; have J9 := hid (J.out.app4 r1 r2 r3); have NP := NP4; have N4 := hid (fun g e => (r3 g e).imp id (fun h9 => Nat.le_trans KX.out.size h9)); clear PC; clear J; have J := J9; clear J9; have h9 := hid (r4 _ _ _ BP.out NP.out.1); clear BP; have BP := h9; clear h9; have h9 := hid (r4 _ _ _ TB.out NP.out.2.1); clear TB; have TB := h9; clear h9; (try (have h9 := hid (And.intro (r4 _ _ _ PB.out.1 (NP.out.2.2 _ PB.out.2)) PB.out.2); clear PB; have PB := h9; clear h9)); (try (have h9 := hid (And.intro (r4 _ _ _ PC.out.1 (NP.out.2.2 _ PC.out.2)) PC.out.2); clear PC; have PC := h9; clear h9)); have h9 := hid (KX.out.then r2 (fun _ _ e => e) (fun b _ e => .inr (.inr (.inr (.inr e))))); clear KX; have KX := h9; clear h9; clear r1 r2 r3 r4 pd NP; refine hK.out _ _ (fun _ => rsG BP.out TB.out) ?_; clear hK
              refine wpAnyT_takeW (i := 26) (v := .pointer (some ⟨p, 0, none⟩)) rfl (by decide) (by as_aux_lemma => kernel_rfl) (fun _ _ _ h => h) (.inl ⟨by simp [Region.wanted], fun w7 _ => ?_⟩) (fun _ => rsG BP.out TB.out) ?_
              · go_simp
              refine wpAnyT_takeW (i := 27) (v := .pointer (some ⟨p, 0, none⟩)) rfl (by decide) (by as_aux_lemma => kernel_rfl) (fun _ _ _ h => h) (.inl ⟨by simp [Region.wanted], fun w7 _ => ?_⟩) (fun _ => rsG BP.out TB.out) ?_
              · go_simp
              refine wpAnyT_ready (rs := [28]) (by as_aux_lemma => kernel_rfl) (by simp) ?_
              refine AllT.cons rfl (fun K' hK => ?_) AllT.nil
              have k3 := BP.out.frozen 0
              have kc := BP.out.cell 0
              go_simp
              have BP9 := hid (show Blk (World.setCell Y30 ⟨p, 0, none⟩ (.slice B1 (es.length + 1) b1)) p 58 #[.slice B1 (es.length + 1) b1, .slice A2 es.length c2, .slice A3 es.length c3, .slice A4 es.length c4] from BP.out.set_ 0 _)
              have J9 := hid (J.out.set 0 (.slice B1 (es.length + 1) b1))
              have KX9 := hid (KX.out.setCell (p := ⟨p, 0, none⟩) (.inl (.inl rfl)) (.slice B1 (es.length + 1) b1))
              generalize World.setCell Y30 ⟨p, 0, none⟩ (.slice B1 (es.length + 1) b1) = Z1 at BP9 J9 KX9 ⊢
              clear k3 kc BP J KX
              have BP := BP9
              have J := J9
              have KX := KX9
              clear BP9 J9 KX9
              refine hK.out _ _ (fun h => absurd h (by decide)) ?_
              clear hK
              refine wpAnyT_takeW (i := 29) (v := .pointer (some ⟨p, 0, none⟩)) rfl (by decide) (by as_aux_lemma => kernel_rfl) (fun _ _ _ h => h) (.inl ⟨by simp [Region.wanted], fun w7 _ => ?_⟩) (fun h => absurd h (by decide)) ?_
              · go_simp
              refine wpAnyT_takeW (i := 30) (v := .pointer (some ⟨p, 1, none⟩)) rfl (by decide) (by as_aux_lemma => kernel_rfl) (fun _ _ _ h => h) (.inl ⟨by simp [Region.wanted], fun w7 _ => ?_⟩) (fun h => absurd h (by decide)) ?_
              · go_simp
              refine wpAnyT_ready (rs := [31]) (by as_aux_lemma => kernel_rfl) (by simp) ?_
              refine AllT.cons rfl (fun K' hK => ?_) AllT.nil
              have k3 := BP.out.frozen 1
              have kc := BP.out.cell 1
              go_simp
              have BP9 := hid (show Blk (World.setCell Z1 ⟨p, 1, none⟩ (.slice B2 (es.length + 1) b2)) p 58 #[.slice B1 (es.length + 1) b1, .slice B2 (es.length + 1) b2, .slice A3 es.length c3, .slice A4 es.length c4] from BP.out.set_ 1 _)
              have J9 := hid (J.out.set 1 (.slice B2 (es.length + 1) b2))
              have KX9 := hid (KX.out.setCell (p := ⟨p, 1, none⟩) (.inl (.inl rfl)) (.slice B2 (es.length + 1) b2))
              generalize World.setCell Z1 ⟨p, 1, none⟩ (.slice B2 (es.length + 1) b2) = Z2 at BP9 J9 KX9 ⊢
              clear k3 kc BP J KX
              have BP := BP9
              have J := J9
              have KX := KX9
              clear BP9 J9 KX9
              refine hK.out _ _ (fun h => absurd h (by decide)) ?_
              clear hK
              refine wpAnyT_takeW (i := 32) (v := .pointer (some ⟨p, 0, none⟩)) rfl (by decide) (by as_aux_lemma => kernel_rfl) (fun _ _ _ h => h) (.inl ⟨by simp [Region.wanted], fun w7 _ => ?_⟩) (fun h => absurd h (by decide)) ?_
              · go_simp
              refine wpAnyT_takeW (i := 33) (v := .pointer (some ⟨p, 3, none⟩)) rfl (by decide) (by as_aux_lemma => kernel_rfl) (fun _ _ _ h => h) (.inl ⟨by simp [Region.wanted], fun w7 _ => ?_⟩) (fun h => absurd h (by decide)) ?_
              · go_simp
              refine wpAnyT_ready (rs := [34]) (by as_aux_lemma => kernel_rfl) (by simp) ?_
              refine AllT.cons rfl (fun K' hK => ?_) AllT.nil
              have k3 := BP.out.frozen 3
              have kc := BP.out.cell 3
              go_simp
              have BP9 := hid (show Blk (World.setCell Z2 ⟨p, 3, none⟩ (.slice B4 (es.length + 1) b4)) p 58 #[.slice B1 (es.length + 1) b1, .slice B2 (es.length + 1) b2, .slice A3 es.length c3, .slice B4 (es.length + 1) b4] from BP.out.set_ 3 _)
              have J9 := hid (J.out.set 3 (.slice B4 (es.length + 1) b4))
              have KX9 := hid (KX.out.setCell (p := ⟨p, 3, none⟩) (.inl (.inl rfl)) (.slice B4 (es.length + 1) b4))
              generalize World.setCell Z2 ⟨p, 3, none⟩ (.slice B4 (es.length + 1) b4) = Z3 at BP9 J9 KX9 ⊢
              clear k3 kc BP J KX
              have BP := BP9
              have J := J9
              have KX := KX9
              clear BP9 J9 KX9
              refine hK.out _ _ (fun h => absurd h (by decide)) ?_
              clear hK
              refine wpAnyT_done (by as_aux_lemma => kernel_rfl) ?_ _
              go_wp2_with fail
              go_meet
              exact ⟨_, _, _, BP, J, KX, hid (own_new N1.out N2.out N4.out)⟩
            · skip
              go_simp; have PN := hid (And.intro (Blk.new Y26 9 #[.string s]) KX.out.size); have b9 := al1 Y26 (.cells #[.string s] 9); generalize World.alloc Y26 (.cells #[.string s] 9) = Y31 at b9 PN ⊢; have h9 := hid (J.out.up b9); clear J; have J := h9; clear h9; have h9 := hid (BP.out.below b9 BP.out.lt); clear BP; have BP := h9; clear h9; have h9 := hid (TB.out.below b9 TB.out.lt); clear TB; have TB := h9; clear h9; have h9 := hid (Kept.after b9 KX.out); clear KX; have KX := h9; clear h9; (try (have h9 := hid (And.intro (PA.out.1.below b9 PA.out.1.lt) PA.out.2); clear PA; have PA := h9; clear h9)); (try (have h9 := hid (And.intro (PB.out.1.below b9 PB.out.1.lt) PB.out.2); clear PB; have PB := h9; clear h9)); (try (have h9 := hid (And.intro (PC.out.1.below b9 PC.out.1.lt) PC.out.2); clear PC; have PC := h9; clear h9)); have PB := PN; clear PN b9; refine hK.out _ _ (fun _ => rsG BP.out TB.out) ?_; clear hK
              refine wpAnyT_ready (rs := [10]) (by as_aux_lemma => kernel_rfl) (by simp) ?_
              refine AllT.cons rfl (fun K' hK => ?_) (AllT.nil)
              refine ap_n0 Tryd.underlying55 info_int1 rfl (by omega) (X := Y31) (u := .int .i64 n) (by with_reducible rfl) (by rfl) _ _ (by rfl) (B := p + 1) (v := .slice A1 es.length c1) (by rfl) J.out.r1 PA.out.1 (by rfl) (by rfl) (by omega) (Nat.le_trans HPw.out KX.out.size) ?_; intro v7 Y32 r1 r2 r3 r4 pd; obtain ⟨B1, b1, hv7, _⟩ := rowS r1; subst hv7; have J9 := hid (J.out.app1 r1 r2 r3); have NP := NP1; have N1 := hid (fun g e => (r3 g e).imp id (fun h9 => Nat.le_trans KX.out.size h9)); clear PA; clear J; have J := J9; clear J9; have h9 := hid (r4 _ _ _ BP.out NP.out.1); clear BP; have BP := h9; clear h9; have h9 := hid (r4 _ _ _ TB.out NP.out.2.1); clear TB; have TB := h9; clear h9; (try (have h9 := hid (And.intro (r4 _ _ _ PB.out.1 (NP.out.2.2 _ PB.out.2)) PB.out.2); clear PB; have PB := h9; clear h9)); (try (have h9 := hid (And.intro (r4 _ _ _ PC.out.1 (NP.out.2.2 _ PC.out.2)) PC.out.2); clear PC; have PC := h9; clear h9)); have h9 := hid (KX.out.then r2 (fun _ _ e => e) (fun b _ e => .inr (.inl e))); clear KX; have KX := h9; clear h9; clear r1 r2 r3 r4 pd NP; refine hK.out _ _ (fun _ => rsG BP.out TB.out) ?_; clear hK
              refine wpAnyT_ready (rs := [18]) (by as_aux_lemma => kernel_rfl) (by simp) ?_
              refine AllT.cons rfl (fun K' hK => ?_) (AllT.nil)
              refine ap_n0 Tryd.underlying56 info_str rfl (by omega) (X := Y32) (u := .string s) (by with_reducible rfl) (by rfl) _ _ (by rfl) (B := p + 1) (v := .slice A2 es.length c2) (by rfl) J.out.r2 PB.out.1 (by rfl) (by rfl) (by omega) (Nat.le_trans HPw.out KX.out.size) ?_; intro v8 Y33 r1 r2 r3 r4 pd; obtain ⟨B2, b2, hv8, _⟩ := rowS r1; subst hv8; have J9 := hid (J.out.app2 r1 r2 r3); have NP := NP2; have N2 := hid (fun g e => (r3 g e).imp id (fun h9 => Nat.le_trans KX.out.size h9)); clear PB; clear J; have J := J9; clear J9; have h9 := hid (r4 _ _ _ BP.out NP.out.1); clear BP; have BP := h9; clear h9; have h9 := hid (r4 _ _ _ TB.out NP.out.2.1); clear TB; have TB := h9; clear h9; (try (have h9 := hid (And.intro (r4 _ _ _ PB.out.1 (NP.out.2.2 _ PB.out.2)) PB.out.2); clear PB; have PB := h9; clear h9)); (try (have h9 := hid (And.intro (r4 _ _ _ PC.out.1 (NP.out.2.2 _ PC.out.2)) PC.out.2); clear PC; have PC := h9; clear h9)); have h9 := hid (KX.out.then r2 (fun _ _ e => e) (fun b _ e => .inr (.inr (.inl e)))); clear KX; have KX := h9; clear h9; clear r1 r2 r3 r4 pd NP; refine hK.out _ _ (fun _ => rsG BP.out TB.out) ?_; clear hK
              refine wpAnyT_ready (rs := [25]) (by as_aux_lemma => kernel_rfl) (by simp) ?_
              refine AllT.cons rfl (fun K' hK => ?_) (AllT.nil)
              refine ap_n0 Tryd.underlying55 info_int1 rfl (by omega) (X := Y33) (u := .int .i64 2) (by with_reducible rfl) (by rfl) _ _ (by rfl) (B := p + 1) (v := .slice A4 es.length c4) (by rfl) J.out.r4 PC.out.1 (by rfl) (by rfl) (by omega) (Nat.le_trans HPw.out KX.out.size) ?_; intro v9 Y34 r1 r2 r3 r4 pd; obtain ⟨B4, b4, hv9, _⟩ := rowS r1; subst hv9; have J9 := hid (J.out.app4 r1 r2 r3); have NP := NP4; have N4 := hid (fun g e => (r3 g e).imp id (fun h9 => Nat.le_trans KX.out.size h9)); clear PC; clear J; have J := J9; clear J9; have h9 := hid (r4 _ _ _ BP.out NP.out.1); clear BP; have BP := h9; clear h9; have h9 := hid (r4 _ _ _ TB.out NP.out.2.1); clear TB; have TB := h9; clear h9; (try (have h9 := hid (And.intro (r4 _ _ _ PB.out.1 (NP.out.2.2 _ PB.out.2)) PB.out.2); clear PB; have PB := h9; clear h9)); (try (have h9 := hid (And.intro (r4 _ _ _ PC.out.1 (NP.out.2.2 _ PC.out.2)) PC.out.2); clear PC; have PC := h9; clear h9)); have h9 := hid (KX.out.then r2 (fun _ _ e => e) (fun b _ e => .inr (.inr (.inr (.inr e))))); clear KX; have KX := h9; clear h9; clear r1 r2 r3 r4 pd NP; refine hK.out _ _ (fun _ => rsG BP.out TB.out) ?_; clear hK
              refine wpAnyT_takeW (i := 26) (v := .pointer (some ⟨p, 0, none⟩)) rfl (by decide) (by as_aux_lemma => kernel_rfl) (fun _ _ _ h => h) (.inl ⟨by simp [Region.wanted], fun w7 _ => ?_⟩) (fun _ => rsG BP.out TB.out) ?_
              · go_simp
              refine wpAnyT_takeW (i := 27) (v := .pointer (some ⟨p, 0, none⟩)) rfl (by decide) (by as_aux_lemma => kernel_rfl) (fun _ _ _ h => h) (.inl ⟨by simp [Region.wanted], fun w7 _ => ?_⟩) (fun _ => rsG BP.out TB.out) ?_
              · go_simp
              refine wpAnyT_ready (rs := [28]) (by as_aux_lemma => kernel_rfl) (by simp) ?_
              refine AllT.cons rfl (fun K' hK => ?_) AllT.nil
              have k3 := BP.out.frozen 0
              have kc := BP.out.cell 0
              go_simp
              have BP9 := hid (show Blk (World.setCell Y34 ⟨p, 0, none⟩ (.slice B1 (es.length + 1) b1)) p 58 #[.slice B1 (es.length + 1) b1, .slice A2 es.length c2, .slice A3 es.length c3, .slice A4 es.length c4] from BP.out.set_ 0 _)
              have J9 := hid (J.out.set 0 (.slice B1 (es.length + 1) b1))
              have KX9 := hid (KX.out.setCell (p := ⟨p, 0, none⟩) (.inl (.inl rfl)) (.slice B1 (es.length + 1) b1))
              generalize World.setCell Y34 ⟨p, 0, none⟩ (.slice B1 (es.length + 1) b1) = Z1 at BP9 J9 KX9 ⊢
              clear k3 kc BP J KX
              have BP := BP9
              have J := J9
              have KX := KX9
              clear BP9 J9 KX9
              refine hK.out _ _ (fun h => absurd h (by decide)) ?_
              clear hK
              refine wpAnyT_takeW (i := 29) (v := .pointer (some ⟨p, 0, none⟩)) rfl (by decide) (by as_aux_lemma => kernel_rfl) (fun _ _ _ h => h) (.inl ⟨by simp [Region.wanted], fun w7 _ => ?_⟩) (fun h => absurd h (by decide)) ?_
              · go_simp
              refine wpAnyT_takeW (i := 30) (v := .pointer (some ⟨p, 1, none⟩)) rfl (by decide) (by as_aux_lemma => kernel_rfl) (fun _ _ _ h => h) (.inl ⟨by simp [Region.wanted], fun w7 _ => ?_⟩) (fun h => absurd h (by decide)) ?_
              · go_simp
              refine wpAnyT_ready (rs := [31]) (by as_aux_lemma => kernel_rfl) (by simp) ?_
              refine AllT.cons rfl (fun K' hK => ?_) AllT.nil
              have k3 := BP.out.frozen 1
              have kc := BP.out.cell 1
              go_simp
              have BP9 := hid (show Blk (World.setCell Z1 ⟨p, 1, none⟩ (.slice B2 (es.length + 1) b2)) p 58 #[.slice B1 (es.length + 1) b1, .slice B2 (es.length + 1) b2, .slice A3 es.length c3, .slice A4 es.length c4] from BP.out.set_ 1 _)
              have J9 := hid (J.out.set 1 (.slice B2 (es.length + 1) b2))
              have KX9 := hid (KX.out.setCell (p := ⟨p, 1, none⟩) (.inl (.inl rfl)) (.slice B2 (es.length + 1) b2))
              generalize World.setCell Z1 ⟨p, 1, none⟩ (.slice B2 (es.length + 1) b2) = Z2 at BP9 J9 KX9 ⊢
              clear k3 kc BP J KX
              have BP := BP9
              have J := J9
              have KX := KX9
              clear BP9 J9 KX9
              refine hK.out _ _ (fun h => absurd h (by decide)) ?_
              clear hK
              refine wpAnyT_takeW (i := 32) (v := .pointer (some ⟨p, 0, none⟩)) rfl (by decide) (by as_aux_lemma => kernel_rfl) (fun _ _ _ h => h) (.inl ⟨by simp [Region.wanted], fun w7 _ => ?_⟩) (fun h => absurd h (by decide)) ?_
              · go_simp
              refine wpAnyT_takeW (i := 33) (v := .pointer (some ⟨p, 3, none⟩)) rfl (by decide) (by as_aux_lemma => kernel_rfl) (fun _ _ _ h => h) (.inl ⟨by simp [Region.wanted], fun w7 _ => ?_⟩) (fun h => absurd h (by decide)) ?_
              · go_simp
              refine wpAnyT_ready (rs := [34]) (by as_aux_lemma => kernel_rfl) (by simp) ?_
              refine AllT.cons rfl (fun K' hK => ?_) AllT.nil
              have k3 := BP.out.frozen 3
              have kc := BP.out.cell 3
              go_simp
              have BP9 := hid (show Blk (World.setCell Z2 ⟨p, 3, none⟩ (.slice B4 (es.length + 1) b4)) p 58 #[.slice B1 (es.length + 1) b1, .slice B2 (es.length + 1) b2, .slice A3 es.length c3, .slice B4 (es.length + 1) b4] from BP.out.set_ 3 _)
              have J9 := hid (J.out.set 3 (.slice B4 (es.length + 1) b4))
              have KX9 := hid (KX.out.setCell (p := ⟨p, 3, none⟩) (.inl (.inl rfl)) (.slice B4 (es.length + 1) b4))
              generalize World.setCell Z2 ⟨p, 3, none⟩ (.slice B4 (es.length + 1) b4) = Z3 at BP9 J9 KX9 ⊢
              clear k3 kc BP J KX
              have BP := BP9
              have J := J9
              have KX := KX9
              clear BP9 J9 KX9
              refine hK.out _ _ (fun h => absurd h (by decide)) ?_
              clear hK
              refine wpAnyT_done (by as_aux_lemma => kernel_rfl) ?_ _
              go_wp2_with fail
              go_meet
              exact ⟨_, _, _, BP, J, KX, hid (own_new N1.out N2.out N4.out)⟩
        · skip
          go_simp; have PN := hid (And.intro (Blk.new Y0 9 #[.string s]) KX.out.size); have b9 := al1 Y0 (.cells #[.string s] 9); generalize World.alloc Y0 (.cells #[.string s] 9) = Y35 at b9 PN ⊢; have h9 := hid (J.out.up b9); clear J; have J := h9; clear h9; have h9 := hid (BP.out.below b9 BP.out.lt); clear BP; have BP := h9; clear h9; have h9 := hid (TB.out.below b9 TB.out.lt); clear TB; have TB := h9; clear h9; have h9 := hid (Kept.after b9 KX.out); clear KX; have KX := h9; clear h9; (try (have h9 := hid (And.intro (PA.out.1.below b9 PA.out.1.lt) PA.out.2); clear PA; have PA := h9; clear h9)); (try (have h9 := hid (And.intro (PB.out.1.below b9 PB.out.1.lt) PB.out.2); clear PB; have PB := h9; clear h9)); (try (have h9 := hid (And.intro (PC.out.1.below b9 PC.out.1.lt) PC.out.2); clear PC; have PC := h9; clear h9)); have PB := PN; clear PN b9; refine hK.out _ _ (fun _ => rsG BP.out TB.out) ?_; clear hK
          refine wpAnyT_ready (rs := [9, 24]) (by as_aux_lemma => kernel_rfl) (by simp) ?_
          refine AllT.cons rfl (fun K' hK => ?_) (AllT.cons rfl (fun K' hK => ?_) (AllT.nil))
          · skip
            go_simp; have PN := hid (And.intro (Blk.new Y35 3 #[.int .i64 n]) KX.out.size); have b9 := al1 Y35 (.cells #[.int .i64 n] 3); generalize World.alloc Y35 (.cells #[.int .i64 n] 3) = Y36 at b9 PN ⊢; have h9 := hid (J.out.up b9); clear J; have J := h9; clear h9; have h9 := hid (BP.out.below b9 BP.out.lt); clear BP; have BP := h9; clear h9; have h9 := hid (TB.out.below b9 TB.out.lt); clear TB; have TB := h9; clear h9; have h9 := hid (Kept.after b9 KX.out); clear KX; have KX := h9; clear h9; (try (have h9 := hid (And.intro (PA.out.1.below b9 PA.out.1.lt) PA.out.2); clear PA; have PA := h9; clear h9)); (try (have h9 := hid (And.intro (PB.out.1.below b9 PB.out.1.lt) PB.out.2); clear PB; have PB := h9; clear h9)); (try (have h9 := hid (And.intro (PC.out.1.below b9 PC.out.1.lt) PC.out.2); clear PC; have PC := h9; clear h9)); have PA := PN; clear PN b9; refine hK.out _ _ (fun _ => rsG BP.out TB.out) ?_; clear hK
            refine wpAnyT_ready (rs := [10, 24]) (by as_aux_lemma => kernel_rfl) (by simp) ?_
            refine AllT.cons rfl (fun K' hK => ?_) (AllT.cons rfl (fun K' hK => ?_) (AllT.nil))
            · skip
              refine ap_n0 Tryd.underlying55 info_int1 rfl (by omega) (X := Y36) (u := .int .i64 n) (by with_reducible rfl) (by rfl) _ _ (by rfl) (B := p + 1) (v := .slice A1 es.length c1) (by rfl) J.out.r1 PA.out.1 (by rfl) (by rfl) (by omega) (Nat.le_trans HPw.out KX.out.size) ?_; intro v7 Y37 r1 r2 r3 r4 pd; obtain ⟨B1, b1, hv7, _⟩ := rowS r1; subst hv7; have J9 := hid (J.out.app1 r1 r2 r3); have NP := NP1; have N1 := hid (fun g e => (r3 g e).imp id (fun h9 => Nat.le_trans KX.out.size h9)); clear PA; clear J; have J := J9; clear J9; have h9 := hid (r4 _ _ _ BP.out NP.out.1); clear BP; have BP := h9; clear h9; have h9 := hid (r4 _ _ _ TB.out NP.out.2.1); clear TB; have TB := h9; clear h9; (try (have h9 := hid (And.intro (r4 _ _ _ PB.out.1 (NP.out.2.2 _ PB.out.2)) PB.out.2); clear PB; have PB := h9; clear h9)); (try (have h9 := hid (And.intro (r4 _ _ _ PC.out.1 (NP.out.2.2 _ PC.out.2)) PC.out.2); clear PC; have PC := h9; clear h9)); have h9 := hid (KX.out.then r2 (fun _ _ e => e) (fun b _ e => .inr (.inl e))); clear KX; have KX := h9; clear h9; clear r1 r2 r3 r4 pd NP; refine hK.out _ _ (fun _ => rsG BP.out TB.out) ?_; clear hK
              refine wpAnyT_ready (rs := [18, 24]) (by as_aux_lemma => kernel_rfl) (by simp) ?_
              refine AllT.cons rfl (fun K' hK => ?_) (AllT.cons rfl (fun K' hK => ?_) (AllT.nil))
              · skip
                refine ap_n0 Tryd.underlying56 info_str rfl (by omega) (X := Y37) (u := .string s) (by with_reducible rfl) (by rfl) _ _ (by rfl) (B := p + 1) (v := .slice A2 es.length c2) (by rfl) J.out.r2 PB.out.1 (by rfl) (by rfl) (by omega) (Nat.le_trans HPw.out KX.out.size) ?_; intro v8 Y38 r1 r2 r3 r4 pd; obtain ⟨B2, b2, hv8, _⟩ := rowS r1; subst hv8; have J9 := hid (J.out.app2 r1 r2 r3); have NP := NP2; have N2 := hid (fun g e => (r3 g e).imp id (fun h9 => Nat.le_trans KX.out.size h9)); clear PB; clear J; have J := J9; clear J9; have h9 := hid (r4 _ _ _ BP.out NP.out.1); clear BP; have BP := h9; clear h9; have h9 := hid (r4 _ _ _ TB.out NP.out.2.1); clear TB; have TB := h9; clear h9; (try (have h9 := hid (And.intro (r4 _ _ _ PB.out.1 (NP.out.2.2 _ PB.out.2)) PB.out.2); clear PB; have PB := h9; clear h9)); (try (have h9 := hid (And.intro (r4 _ _ _ PC.out.1 (NP.out.2.2 _ PC.out.2)) PC.out.2); clear PC; have PC := h9; clear h9)); have h9 := hid (KX.out.then r2 (fun _ _ e => e) (fun b _ e => .inr (.inr (.inl e)))); clear KX; have KX := h9; clear h9; clear r1 r2 r3 r4 pd NP; refine hK.out _ _ (fun _ => rsG BP.out TB.out) ?_; clear hK
                refine wpAnyT_ready (rs := [24]) (by as_aux_lemma => kernel_rfl) (by simp) ?_
                refine AllT.cons rfl (fun K' hK => ?_) (AllT.nil)
                go_simp; have PN := hid (And.intro (Blk.new Y38 3 #[.int .i64 2]) KX.out.size); have b9 := al1 Y38 (.cells #[.int .i64 2] 3); generalize World.alloc Y38 (.cells #[.int .i64 2] 3) = Y39 at b9 PN ⊢; have h9 := hid (J.out.up b9); clear J; have J := h9; clear h9; have h9 := hid (BP.out.below b9 BP.out.lt); clear BP; have BP := h9; clear h9; have h9 := hid (TB.out.below b9 TB.out.lt); clear TB; have TB := h9; clear h9; have h9 := hid (Kept.after b9 KX.out); clear KX; have KX := h9; clear h9; (try (have h9 := hid (And.intro (PA.out.1.below b9 PA.out.1.lt) PA.out.2); clear PA; have PA := h9; clear h9)); (try (have h9 := hid (And.intro (PB.out.1.below b9 PB.out.1.lt) PB.out.2); clear PB; have PB := h9; clear h9)); (try (have h9 := hid (And.intro (PC.out.1.below b9 PC.out.1.lt) PC.out.2); clear PC; have PC := h9; clear h9)); have PC := PN; clear PN b9; refine hK.out _ _ (fun _ => rsG BP.out TB.out) ?_; clear hK
                refine wpAnyT_ready (rs := [25]) (by as_aux_lemma => kernel_rfl) (by simp) ?_
                refine AllT.cons rfl (fun K' hK => ?_) (AllT.nil)
                refine ap_n0 Tryd.underlying55 info_int1 rfl (by omega) (X := Y39) (u := .int .i64 2) (by with_reducible rfl) (by rfl) _ _ (by rfl) (B := p + 1) (v := .slice A4 es.length c4) (by rfl) J.out.r4 PC.out.1 (by rfl) (by rfl) (by omega) (Nat.le_trans HPw.out KX.out.size) ?_; intro v9 Y40 r1 r2 r3 r4 pd; obtain ⟨B4, b4, hv9, _⟩ := rowS r1; subst hv9; have J9 := hid (J.out.app4 r1 r2 r3); have NP := NP4; have N4 := hid (fun g e => (r3 g e).imp id (fun h9 => Nat.le_trans KX.out.size h9)); clear PC; clear J; have J := J9; clear J9; have h9 := hid (r4 _ _ _ BP.out NP.out.1); clear BP; have BP := h9; clear h9; have h9 := hid (r4 _ _ _ TB.out NP.out.2.1); clear TB; have TB := h9; clear h9; (try (have h9 := hid (And.intro (r4 _ _ _ PB.out.1 (NP.out.2.2 _ PB.out.2)) PB.out.2); clear PB; have PB := h9; clear h9)); (try (have h9 := hid (And.intro (r4 _ _ _ PC.out.1 (NP.out.2.2 _ PC.out.2)) PC.out.2); clear PC; have PC := h9; clear h9)); have h9 := hid (KX.out.then r2 (fun _ _ e => e) (fun b _ e => .inr (.inr (.inr (.inr e))))); clear KX; have KX := h9; clear h9; clear r1 r2 r3 r4 pd NP; refine hK.out _ _ (fun _ => rsG BP.out TB.out) ?_; clear hK
                refine wpAnyT_takeW (i := 26) (v := .pointer (some ⟨p, 0, none⟩)) rfl (by decide) (by as_aux_lemma => kernel_rfl) (fun _ _ _ h => h) (.inl ⟨by simp [Region.wanted], fun w7 _ => ?_⟩) (fun _ => rsG BP.out TB.out) ?_
                · go_simp
                refine wpAnyT_takeW (i := 27) (v := .pointer (some ⟨p, 0, none⟩)) rfl (by decide) (by as_aux_lemma => kernel_rfl) (fun _ _ _ h => h) (.inl ⟨by simp [Region.wanted], fun w7 _ => ?_⟩) (fun _ => rsG BP.out TB.out) ?_
                · go_simp
                refine wpAnyT_ready (rs := [28]) (by as_aux_lemma => kernel_rfl) (by simp) ?_
                refine AllT.cons rfl (fun K' hK => ?_) AllT.nil
                have k3 := BP.out.frozen 0
                have kc := BP.out.cell 0
                go_simp
                have BP9 := hid (show Blk (World.setCell Y40 ⟨p, 0, none⟩ (.slice B1 (es.length + 1) b1)) p 58 #[.slice B1 (es.length + 1) b1, .slice A2 es.length c2, .slice A3 es.length c3, .slice A4 es.length c4] from BP.out.set_ 0 _)
                have J9 := hid (J.out.set 0 (.slice B1 (es.length + 1) b1))
                have KX9 := hid (KX.out.setCell (p := ⟨p, 0, none⟩) (.inl (.inl rfl)) (.slice B1 (es.length + 1) b1))
                generalize World.setCell Y40 ⟨p, 0, none⟩ (.slice B1 (es.length + 1) b1) = Z1 at BP9 J9 KX9 ⊢
                clear k3 kc BP J KX
                have BP := BP9
                have J := J9
                have KX := KX9
                clear BP9 J9 KX9
                refine hK.out _ _ (fun h => absurd h (by decide)) ?_
                clear hK
                refine wpAnyT_takeW (i := 29) (v := .pointer (some ⟨p, 0, none⟩)) rfl (by decide) (by as_aux_lemma => kernel_rfl) (fun _ _ _ h => h) (.inl ⟨by simp [Region.wanted], fun w7 _ => ?_⟩) (fun h => absurd h (by decide)) ?_
                · go_simp
                refine wpAnyT_takeW (i := 30) (v := .pointer (some ⟨p, 1, none⟩)) rfl (by decide) (by as_aux_lemma => kernel_rfl) (fun _ _ _ h => h) (.inl ⟨by simp [Region.wanted], fun w7 _ => ?_⟩) (fun h => absurd h (by decide)) ?_
                · go_simp
                refine wpAnyT_ready (rs := [31]) (by as_aux_lemma => kernel_rfl) (by simp) ?_
                refine AllT.cons rfl (fun K' hK => ?_) AllT.nil
                have k3 := BP.out.frozen 1
                have kc := BP.out.cell 1
                go_simp
                have BP9 := hid (show Blk (World.setCell Z1 ⟨p, 1, none⟩ (.slice B2 (es.length + 1) b2)) p 58 #[.slice B1 (es.length + 1) b1, .slice B2 (es.length + 1) b2, .slice A3 es.length c3, .slice A4 es.length c4] from BP.out.set_ 1 _)
                have J9 := hid (J.out.set 1 (.slice B2 (es.length + 1) b2))
                have KX9 := hid (KX.out.setCell (p := ⟨p, 1, none⟩) (.inl (.inl rfl)) (.slice B2 (es.length + 1) b2))
                generalize World.setCell Z1 ⟨p, 1, none⟩ (.slice B2 (es.length + 1) b2) = Z2 at BP9 J9 KX9 ⊢
                clear k3 kc BP J KX
                have BP := BP9
                have J := J9
                have KX := KX9
                clear BP9 J9 KX9
                refine hK.out _ _ (fun h => absurd h (by decide)) ?_
                clear hK
                refine wpAnyT_takeW (i := 32) (v := .pointer (some ⟨p, 0, none⟩)) rfl (by decide) (by as_aux_lemma => kernel_rfl) (fun _ _ _ h => h) (.inl ⟨by simp [Region.wanted], fun w7 _ => ?_⟩) (fun h => absurd h (by decide)) ?_
                · go_simp
                refine wpAnyT_takeW (i := 33) (v := .pointer (some ⟨p, 3, none⟩)) rfl (by decide) (by as_aux_lemma => kernel_rfl) (fun _ _ _ h => h) (.inl ⟨by simp [Region.wanted], fun w7 _ => ?_⟩) (fun h => absurd h (by decide)) ?_
                · go_simp
                refine wpAnyT_ready (rs := [34]) (by as_aux_lemma => kernel_rfl) (by simp) ?_
                refine AllT.cons rfl (fun K' hK => ?_) AllT.nil
                have k3 := BP.out.frozen 3
                have kc := BP.out.cell 3
                go_simp
                have BP9 := hid (show Blk (World.setCell Z2 ⟨p, 3, none⟩ (.slice B4 (es.length + 1) b4)) p 58 #[.slice B1 (es.length + 1) b1, .slice B2 (es.length + 1) b2, .slice A3 es.length c3, .slice B4 (es.length + 1) b4] from BP.out.set_ 3 _)
                have J9 := hid (J.out.set 3 (.slice B4 (es.length + 1) b4))
                have KX9 := hid (KX.out.setCell (p := ⟨p, 3, none⟩) (.inl (.inl rfl)) (.slice B4 (es.length + 1) b4))
                generalize World.setCell Z2 ⟨p, 3, none⟩ (.slice B4 (es.length + 1) b4) = Z3 at BP9 J9 KX9 ⊢
                clear k3 kc BP J KX
                have BP := BP9
                have J := J9
                have KX := KX9
                clear BP9 J9 KX9
                refine hK.out _ _ (fun h => absurd h (by decide)) ?_
                clear hK
                refine wpAnyT_done (by as_aux_lemma => kernel_rfl) ?_ _
                go_wp2_with fail
                go_meet
                exact ⟨_, _, _, BP, J, KX, hid (own_new N1.out N2.out N4.out)⟩
              · skip
                go_simp; have PN := hid (And.intro (Blk.new Y37 3 #[.int .i64 2]) KX.out.size); have b9 := al1 Y37 (.cells #[.int .i64 2] 3); generalize World.alloc Y37 (.cells #[.int .i64 2] 3) = Y41 at b9 PN ⊢; have h9 := hid (J.out.up b9); clear J; have J := h9; clear h9; have h9 := hid (BP.out.below b9 BP.out.lt); clear BP; have BP := h9; clear h9; have h9 := hid (TB.out.below b9 TB.out.lt); clear TB; have TB := h9; clear h9; have h9 := hid (Kept.after b9 KX.out); clear KX; have KX := h9; clear h9; (try (have h9 := hid (And.intro (PA.out.1.below b9 PA.out.1.lt) PA.out.2); clear PA; have PA := h9; clear h9)); (try (have h9 := hid (And.intro (PB.out.1.below b9 PB.out.1.lt) PB.out.2); clear PB; have PB := h9; clear h9)); (try (have h9 := hid (And.intro (PC.out.1.below b9 PC.out.1.lt) PC.out.2); clear PC; have PC := h9; clear h9)); have PC := PN; clear PN b9; refine hK.out _ _ (fun _ => rsG BP.out TB.out) ?_; clear hK
                refine wpAnyT_ready (rs := [18]) (by as_aux_lemma => kernel_rfl) (by simp) ?_
                refine AllT.cons rfl (fun K' hK => ?_) (AllT.nil)
                refine ap_n0 Tryd.underlying56 info_str rfl (by omega) (X := Y41) (u := .string s) (by with_reducible rfl) (by rfl) _ _ (by rfl) (B := p + 1) (v := .slice A2 es.length c2) (by rfl) J.out.r2 PB.out.1 (by rfl) (by rfl) (by omega) (Nat.le_trans HPw.out KX.out.size) ?_; intro v8 Y42 r1 r2 r3 r4 pd; obtain ⟨B2, b2, hv8, _⟩ := rowS r1; subst hv8; have J9 := hid (J.out.app2 r1 r2 r3); have NP := NP2; have N2 := hid (fun g e => (r3 g e).imp id (fun h9 => Nat.le_trans KX.out.size h9)); clear PB; clear J; have J := J9; clear J9; have h9 := hid (r4 _ _ _ BP.out NP.out.1); clear BP; have BP := h9; clear h9; have h9 := hid (r4 _ _ _ TB.out NP.out.2.1); clear TB; have TB := h9; clear h9; (try (have h9 := hid (And.intro (r4 _ _ _ PB.out.1 (NP.out.2.2 _ PB.out.2)) PB.out.2); clear PB; have PB := h9; clear h9)); (try (have h9 := hid (And.intro (r4 _ _ _ PC.out.1 (NP.out.2.2 _ PC.out.2)) PC.out.2); clear PC; have PC := h9; clear h9)); have h9 := hid (KX.out.then r2 (fun _ _ e => e) (fun b _ e => .inr (.inr (.inl e)))); clear KX; have KX := h9; clear h9; clear r1 r2 r3 r4 pd NP; refine hK.out _ _ (fun _ => rsG BP.out TB.out) ?_; clear hK
                refine wpAnyT_ready (rs := [25]) (by as_aux_lemma => kernel_rfl) (by simp) ?_
                refine AllT.cons rfl (fun K' hK => ?_) (AllT.nil)
                refine ap_n0 Tryd.underlying55 info_int1 rfl (by omega) (X := Y42) (u := .int .i64 2) (by with_reducible rfl) (by rfl) _ _ (by rfl) (B := p + 1) (v := .slice A4 es.length c4) (by rfl) J.out.r4 PC.out.1 (by rfl) (by rfl) (by omega) (Nat.le_trans HPw.out KX.out.size) ?_; intro v9 Y43 r1 r2 r3 r4 pd; obtain ⟨B4, b4, hv9, _⟩ := rowS r1; subst hv9; have J9 := hid (J.out.app4 r1 r2 r3); have NP := NP4; have N4 := hid (fun g e => (r3 g e).imp id (fun h9 => Nat.le_trans KX.out.size h9)); clear PC; clear J; have J := J9; clear J9; have h9 := hid (r4 _ _ _ BP.out NP.out.1); clear BP; have BP := h9; clear h9; have h9 := hid (r4 _ _ _ TB.out NP.out.2.1); clear TB; have TB := h9; clear h9; (try (have h9 := hid (And.intro (r4 _ _ _ PB.out.1 (NP.out.2.2 _ PB.out.2)) PB.out.2); clear PB; have PB := h9; clear h9)); (try (have h9 := hid (And.intro (r4 _ _ _ PC.out.1 (NP.out.2.2 _ PC.out.2)) PC.out.2); clear PC; have PC := h9; clear h9)); have h9 := hid (KX.out.then r2 (fun _ _ e => e) (fun b _ e => .inr (.inr (.inr (.inr e))))); clear KX; have KX := h9; clear h9; clear r1 r2 r3 r4 pd NP; refine hK.out _ _ (fun _ => rsG BP.out TB.out) ?_; clear hK
                refine wpAnyT_takeW (i := 26) (v := .pointer (some ⟨p, 0, none⟩)) rfl (by decide) (by as_aux_lemma => kernel_rfl) (fun _ _ _ h => h) (.inl ⟨by simp [Region.wanted], fun w7 _ => ?_⟩) (fun _ => rsG BP.out TB.out) ?_
                · go_simp
                refine wpAnyT_takeW (i := 27) (v := .pointer (some ⟨p, 0, none⟩)) rfl (by decide) (by as_aux_lemma => kernel_rfl) (fun _ _ _ h => h) (.inl ⟨by simp [Region.wanted], fun w7 _ => ?_⟩) (fun _ => rsG BP.out TB.out) ?_
                · go_simp
                refine wpAnyT_ready (rs := [28]) (by as_aux_lemma => kernel_rfl) (by simp) ?_
                refine AllT.cons rfl (fun K' hK => ?_) AllT.nil
                have k3 := BP.out.frozen 0
                have kc := BP.out.cell 0
                go_simp
                have BP9 := hid (show Blk (World.setCell Y43 ⟨p, 0, none⟩ (.slice B1 (es.length + 1) b1)) p 58 #[.slice B1 (es.length + 1) b1, .slice A2 es.length c2, .slice A3 es.length c3, .slice A4 es.length c4] from BP.out.set_ 0 _)
                have J9 := hid (J.out.set 0 (.slice B1 (es.length + 1) b1))
                have KX9 := hid (KX.out.setCell (p := ⟨p, 0, none⟩) (.inl (.inl rfl)) (.slice B1 (es.length + 1) b1))
                generalize World.setCell Y43 ⟨p, 0, none⟩ (.slice B1 (es.length + 1) b1) = Z1 at BP9 J9 KX9 ⊢
                clear k3 kc BP J KX
                have BP := BP9
                have J := J9
                have KX := KX9
                clear BP9 J9 KX9
                refine hK.out _ _ (fun h => absurd h (by decide)) ?_
                clear hK
                refine wpAnyT_takeW (i := 29) (v := .pointer (some ⟨p, 0, none⟩)) rfl (by decide) (by as_aux_lemma => kernel_rfl) (fun _ _ _ h => h) (.inl ⟨by simp [Region.wanted], fun w7 _ => ?_⟩) (fun h => absurd h (by decide)) ?_
                · go_simp
                refine wpAnyT_takeW (i := 30) (v := .pointer (some ⟨p, 1, none⟩)) rfl (by decide) (by as_aux_lemma => kernel_rfl) (fun _ _ _ h => h) (.inl ⟨by simp [Region.wanted], fun w7 _ => ?_⟩) (fun h => absurd h (by decide)) ?_
                · go_simp
                refine wpAnyT_ready (rs := [31]) (by as_aux_lemma => kernel_rfl) (by simp) ?_
                refine AllT.cons rfl (fun K' hK => ?_) AllT.nil
                have k3 := BP.out.frozen 1
                have kc := BP.out.cell 1
                go_simp
                have BP9 := hid (show Blk (World.setCell Z1 ⟨p, 1, none⟩ (.slice B2 (es.length + 1) b2)) p 58 #[.slice B1 (es.length + 1) b1, .slice B2 (es.length + 1) b2, .slice A3 es.length c3, .slice A4 es.length c4] from BP.out.set_ 1 _)
                have J9 := hid (J.out.set 1 (.slice B2 (es.length + 1) b2))
                have KX9 := hid (KX.out.setCell (p := ⟨p, 1, none⟩) (.inl (.inl rfl)) (.slice B2 (es.length + 1) b2))
                generalize World.setCell Z1 ⟨p, 1, none⟩ (.slice B2 (es.length + 1) b2) = Z2 at BP9 J9 KX9 ⊢
                clear k3 kc BP J KX
                have BP := BP9
                have J := J9
                have KX := KX9
                clear BP9 J9 KX9
                refine hK.out _ _ (fun h => absurd h (by decide)) ?_
                clear hK
                refine wpAnyT_takeW (i := 32) (v := .pointer (some ⟨p, 0, none⟩)) rfl (by decide) (by as_aux_lemma => kernel_rfl) (fun _ _ _ h => h) (.inl ⟨by simp [Region.wanted], fun w7 _ => ?_⟩) (fun h => absurd h (by decide)) ?_
                · go_simp
                refine wpAnyT_takeW (i := 33) (v := .pointer (some ⟨p, 3, none⟩)) rfl (by decide) (by as_aux_lemma => kernel_rfl) (fun _ _ _ h => h) (.inl ⟨by simp [Region.wanted], fun w7 _ => ?_⟩) (fun h => absurd h (by decide)) ?_
                · go_simp
                refine wpAnyT_ready (rs := [34]) (by as_aux_lemma => kernel_rfl) (by simp) ?_
                refine AllT.cons rfl (fun K' hK => ?_) AllT.nil
                have k3 := BP.out.frozen 3
                have kc := BP.out.cell 3
                go_simp
                have BP9 := hid (show Blk (World.setCell Z2 ⟨p, 3, none⟩ (.slice B4 (es.length + 1) b4)) p 58 #[.slice B1 (es.length + 1) b1, .slice B2 (es.length + 1) b2, .slice A3 es.length c3, .slice B4 (es.length + 1) b4] from BP.out.set_ 3 _)
                have J9 := hid (J.out.set 3 (.slice B4 (es.length + 1) b4))
                have KX9 := hid (KX.out.setCell (p := ⟨p, 3, none⟩) (.inl (.inl rfl)) (.slice B4 (es.length + 1) b4))
                generalize World.setCell Z2 ⟨p, 3, none⟩ (.slice B4 (es.length + 1) b4) = Z3 at BP9 J9 KX9 ⊢
                clear k3 kc BP J KX
                have BP := BP9
                have J := J9
                have KX := KX9
                clear BP9 J9 KX9
                refine hK.out _ _ (fun h => absurd h (by decide)) ?_
                clear hK
                refine wpAnyT_done (by as_aux_lemma => kernel_rfl) ?_ _
                go_wp2_with fail
                go_meet
                exact ⟨_, _, _, BP, J, KX, hid (own_new N1.out N2.out N4.out)⟩
            · skip
              go_simp; have PN := hid (And.intro (Blk.new Y36 3 #[.int .i64 2]) KX.out.size); have b9 := al1 Y36 (.cells #[.int .i64 2] 3); generalize World.alloc Y36 (.cells #[.int .i64 2] 3) = Y44 at b9 PN ⊢; have h9 := hid (J.out.up b9); clear J; have J := h9; clear h9; have h9 := hid (BP.out.below b9 BP.out.lt); clear BP; have BP := h9; clear h9; have h9 := hid (TB.out.below b9 TB.out.lt); clear TB; have TB := h9; clear h9; have h9 := hid (Kept.after b9 KX.out); clear KX; have KX := h9; clear h9; (try (have h9 := hid (And.intro (PA.out.1.below b9 PA.out.1.lt) PA.out.2); clear PA; have PA := h9; clear h9)); (try (have h9 := hid (And.intro (PB.out.1.below b9 PB.out.1.lt) PB.out.2); clear PB; have PB := h9; clear h9)); (try (have h9 := hid (And.intro (PC.out.1.below b9 PC.out.1.lt) PC.out.2); clear PC; have PC := h9; clear h9)); have PC := PN; clear PN b9; refine hK.out _ _ (fun _ => rsG BP.out TB.out) ?_; clear hK
              refine wpAnyT_ready (rs := [10]) (by as_aux_lemma => kernel_rfl) (by simp) ?_
              refine AllT.cons rfl (fun K' hK => ?_) (AllT.nil)
              refine ap_n0 Tryd.underlying55 info_int1 rfl (by omega) (X := Y44) (u := .int .i64 n) (by with_reducible rfl) (by rfl) _ _ (by rfl) (B := p + 1) (v := .slice A1 es.length c1) (by rfl) J.out.r1 PA.out.1 (by rfl) (by rfl) (by omega) (Nat.le_trans HPw.out KX.out.size) ?_; intro v7 Y45 r1 r2 r3 r4 pd; obtain ⟨B1, b1, hv7, _⟩ := rowS r1; subst hv7; have J9 := hid (J.out.app1 r1 r2 r3); have NP := NP1; have N1 := hid (fun g e => (r3 g e).imp id (fun h9 => Nat.le_trans KX.out.size h9)); clear PA; clear J; have J := J9; clear J9; have h9 := hid (r4 _ _ _ BP.out NP.out.1); clear BP; have BP := h9; clear h9; have h9 := hid (r4 _ _ _ TB.out NP.out.2.1); clear TB; have TB := h9; clear h9; (try (have h9 := hid (And.intro (r4 _ _ _ PB.out.1 (NP.out.2.2 _ PB.out.2)) PB.out.2); clear PB; have PB := h9; clear h9)); (try (have h9 := hid (And.intro (r4 _ _ _ PC.out.1 (NP.out.2.2 _ PC.out.2)) PC.out.2); clear PC; have PC := h9; clear h9)); have h9 := hid (KX.out.then r2 (fun _ _ e => e) (fun b _ e => .inr (.inl e))); clear KX; have KX := h9; clear h9; clear r1 r2 r3 r4 pd NP; refine hK.out _ _ (fun _ => rsG BP.out TB.out) ?_; clear hK
              refine wpAnyT_ready (rs := [18]) (by as_aux_lemma => kernel_rfl) (by simp) ?_
              refine AllT.cons rfl (fun K' hK => ?_) (AllT.nil)
              refine ap_n0 Tryd.underlying56 info_str rfl (by omega) (X := Y45) (u := .string s) (by with_reducible rfl) (by rfl) _ _ (by rfl) (B := p + 1) (v := .slice A2 es.length c2) (by rfl) J.out.r2 PB.out.1 (by rfl) (by rfl) (by omega) (Nat.le_trans HPw.out KX.out.size) ?_; intro v8 Y46 r1 r2 r3 r4 pd; obtain ⟨B2, b2, hv8, _⟩ := rowS r1; subst hv8; have J9 := hid (J.out.app2 r1 r2 r3); have NP := NP2; have N2 := hid (fun g e => (r3 g e).imp id (fun h9 => Nat.le_trans KX.out.size h9)); clear PB; clear J; have J := J9; clear J9; have h9 := hid (r4 _ _ _ BP.out NP.out.1); clear BP; have BP := h9; clear h9; have h9 := hid (r4 _ _ _ TB.out NP.out.2.1); clear TB; have TB := h9; clear h9; (try (have h9 := hid (And.intro (r4 _ _ _ PB.out.1 (NP.out.2.2 _ PB.out.2)) PB.out.2); clear PB; have PB := h9; clear h9)); (try (have h9 := hid (And.intro (r4 _ _ _ PC.out.1 (NP.out.2.2 _ PC.out.2)) PC.out.2); clear PC; have PC := h9; clear h9)); have h9 := hid (KX.out.then r2 (fun _ _ e => e) (fun b _ e => .inr (.inr (.inl e)))); clear KX; have KX := h9; clear h9; clear r1 r2 r3 r4 pd NP; refine hK.out _ _ (fun _ => rsG BP.out TB.out) ?_; clear hK
              refine wpAnyT_ready (rs := [25]) (by as_aux_lemma => kernel_rfl) (by simp) ?_
              refine AllT.cons rfl (fun K' hK => ?_) (AllT.nil)
              refine ap_n0 Tryd.underlying55 info_int1 rfl (by omega) (X := Y46) (u := .int .i64 2) (by with_reducible rfl) (by rfl) _ _ (by rfl) (B := p + 1) (v := .slice A4 es.length c4) (by rfl) J.out.r4 PC.out.1 (by rfl) (by rfl) (by omega) (Nat.le_trans HPw.out KX.out.size) ?_; intro v9 Y47 r1 r2 r3 r4 pd; obtain ⟨B4, b4, hv9, _⟩ := rowS r1; subst hv9; have J9 := hid (J.out.app4 r1 r2 r3); have NP := NP4; have N4 := hid (fun g e => (r3 g e).imp id (fun h9 => Nat.le_trans KX.out.size h9)); clear PC; clear J; have J := J9; clear J9; have h9 := hid (r4 _ _ _ BP.out NP.out.1); clear BP; have BP := h9; clear h9; have h9 := hid (r4 _ _ _ TB.out NP.out.2.1); clear TB; have TB := h9; clear h9; (try (have h9 := hid (And.intro (r4 _ _ _ PB.out.1 (NP.out.2.2 _ PB.out.2)) PB.out.2); clear PB; have PB := h9; clear h9)); (try (have h9 := hid (And.intro (r4 _ _ _ PC.out.1 (NP.out.2.2 _ PC.out.2)) PC.out.2); clear PC; have PC := h9; clear h9)); have h9 := hid (KX.out.then r2 (fun _ _ e => e) (fun b _ e => .inr (.inr (.inr (.inr e))))); clear KX; have KX := h9; clear h9; clear r1 r2 r3 r4 pd NP; refine hK.out _ _ (fun _ => rsG BP.out TB.out) ?_; clear hK
              refine wpAnyT_takeW (i := 26) (v := .pointer (some ⟨p, 0, none⟩)) rfl (by decide) (by as_aux_lemma => kernel_rfl) (fun _ _ _ h => h) (.inl ⟨by simp [Region.wanted], fun w7 _ => ?_⟩) (fun _ => rsG BP.out TB.out) ?_
              · go_simp
              refine wpAnyT_takeW (i := 27) (v := .pointer (some ⟨p, 0, none⟩)) rfl (by decide) (by as_aux_lemma => kernel_rfl) (fun _ _ _ h => h) (.inl ⟨by simp [Region.wanted], fun w7 _ => ?_⟩) (fun _ => rsG BP.out TB.out) ?_
              · go_simp
              refine wpAnyT_ready (rs := [28]) (by as_aux_lemma => kernel_rfl) (by simp) ?_
              refine AllT.cons rfl (fun K' hK => ?_) AllT.nil
              have k3 := BP.out.frozen 0
              have kc := BP.out.cell 0
              go_simp
              have BP9 := hid (show Blk (World.setCell Y47 ⟨p, 0, none⟩ (.slice B1 (es.length + 1) b1)) p 58 #[.slice B1 (es.length + 1) b1, .slice A2 es.length c2, .slice A3 es.length c3, .slice A4 es.length c4] from BP.out.set_ 0 _)
              have J9 := hid (J.out.set 0 (.slice B1 (es.length + 1) b1))
              have KX9 := hid (KX.out.setCell (p := ⟨p, 0, none⟩) (.inl (.inl rfl)) (.slice B1 (es.length + 1) b1))
              generalize World.setCell Y47 ⟨p, 0, none⟩ (.slice B1 (es.length + 1) b1) = Z1 at BP9 J9 KX9 ⊢
              clear k3 kc BP J KX
              have BP := BP9
              have J := J9
              have KX := KX9
              clear BP9 J9 KX9
              refine hK.out _ _ (fun h => absurd h (by decide)) ?_
              clear hK
              refine wpAnyT_takeW (i := 29) (v := .pointer (some ⟨p, 0, none⟩)) rfl (by decide) (by as_aux_lemma => kernel_rfl) (fun _ _ _ h => h) (.inl ⟨by simp [Region.wanted], fun w7 _ => ?_⟩) (fun h => absurd h (by decide)) ?_
              · go_simp
              refine wpAnyT_takeW (i := 30) (v := .pointer (some ⟨p, 1, none⟩)) rfl (by decide) (by as_aux_lemma => kernel_rfl) (fun _ _ _ h => h) (.inl ⟨by simp [Region.wanted], fun w7 _ => ?_⟩) (fun h => absurd h (by decide)) ?_
              · go_simp
              refine wpAnyT_ready (rs := [31]) (by as_aux_lemma => kernel_rfl) (by simp) ?_
              refine AllT.cons rfl (fun K' hK => ?_) AllT.nil
              have k3 := BP.out.frozen 1
              have kc := BP.out.cell 1
              go_simp
              have BP9 := hid (show Blk (World.setCell Z1 ⟨p, 1, none⟩ (.slice B2 (es.length + 1) b2)) p 58 #[.slice B1 (es.length + 1) b1, .slice B2 (es.length + 1) b2, .slice A3 es.length c3, .slice A4 es.length c4] from BP.out.set_ 1 _)
              have J9 := hid (J.out.set 1 (.slice B2 (es.length + 1) b2))
              have KX9 := hid (KX.out.setCell (p := ⟨p, 1, none⟩) (.inl (.inl rfl)) (.slice B2 (es.length + 1) b2))
              generalize World.setCell Z1 ⟨p, 1, none⟩ (.slice B2 (es.length + 1) b2) = Z2 at BP9 J9 KX9 ⊢
              clear k3 kc BP J KX
              have BP := BP9
              have J := J9
              have KX := KX9
              clear BP9 J9 KX9
              refine hK.out _ _ (fun h => absurd h (by decide)) ?_
              clear hK
              refine wpAnyT_takeW (i := 32) (v := .pointer (some ⟨p, 0, none⟩)) rfl (by decide) (by as_aux_lemma => kernel_rfl) (fun _ _ _ h => h) (.inl ⟨by simp [Region.wanted], fun w7 _ => ?_⟩) (fun h => absurd h (by decide)) ?_
              · go_simp
              refine wpAnyT_takeW (i := 33) (v := .pointer (some ⟨p, 3, none⟩)) rfl (by decide) (by as_aux_lemma => kernel_rfl) (fun _ _ _ h => h) (.inl ⟨by simp [Region.wanted], fun w7 _ => ?_⟩) (fun h => absurd h (by decide)) ?_
              · go_simp
              refine wpAnyT_ready (rs := [34]) (by as_aux_lemma => kernel_rfl) (by simp) ?_
              refine AllT.cons rfl (fun K' hK => ?_) AllT.nil
              have k3 := BP.out.frozen 3
              have kc := BP.out.cell 3
              go_simp
              have BP9 := hid (show Blk (World.setCell Z2 ⟨p, 3, none⟩ (.slice B4 (es.length + 1) b4)) p 58 #[.slice B1 (es.length + 1) b1, .slice B2 (es.length + 1) b2, .slice A3 es.length c3, .slice B4 (es.length + 1) b4] from BP.out.set_ 3 _)
              have J9 := hid (J.out.set 3 (.slice B4 (es.length + 1) b4))
              have KX9 := hid (KX.out.setCell (p := ⟨p, 3, none⟩) (.inl (.inl rfl)) (.slice B4 (es.length + 1) b4))
              generalize World.setCell Z2 ⟨p, 3, none⟩ (.slice B4 (es.length + 1) b4) = Z3 at BP9 J9 KX9 ⊢
              clear k3 kc BP J KX
              have BP := BP9
              have J := J9
              have KX := KX9
              clear BP9 J9 KX9
              refine hK.out _ _ (fun h => absurd h (by decide)) ?_
              clear hK
              refine wpAnyT_done (by as_aux_lemma => kernel_rfl) ?_ _
              go_wp2_with fail
              go_meet
              exact ⟨_, _, _, BP, J, KX, hid (own_new N1.out N2.out N4.out)⟩
          · skip
            go_simp; have PN := hid (And.intro (Blk.new Y35 3 #[.int .i64 2]) KX.out.size); have b9 := al1 Y35 (.cells #[.int .i64 2] 3); generalize World.alloc Y35 (.cells #[.int .i64 2] 3) = Y48 at b9 PN ⊢; have h9 := hid (J.out.up b9); clear J; have J := h9; clear h9; have h9 := hid (BP.out.below b9 BP.out.lt); clear BP; have BP := h9; clear h9; have h9 := hid (TB.out.below b9 TB.out.lt); clear TB; have TB := h9; clear h9; have h9 := hid (Kept.after b9 KX.out); clear KX; have KX := h9; clear h9; (try (have h9 := hid (And.intro (PA.out.1.below b9 PA.out.1.lt) PA.out.2); clear PA; have PA := h9; clear h9)); (try (have h9 := hid (And.intro (PB.out.1.below b9 PB.out.1.lt) PB.out.2); clear PB; have PB := h9; clear h9)); (try (have h9 := hid (And.intro (PC.out.1.below b9 PC.out.1.lt) PC.out.2); clear PC; have PC := h9; clear h9)); have PC := PN; clear PN b9; refine hK.out _ _ (fun _ => rsG BP.out TB.out) ?_; clear hK
            refine wpAnyT_ready (rs := [9]) (by as_aux_lemma => kernel_rfl) (by simp) ?_
            refine AllT.cons rfl (fun K' hK => ?_) (AllT.nil)
            go_simp; have PN := hid (And.intro (Blk.new Y48 3 #[.int .i64 n]) KX.out.size); have b9 := al1 Y48 (.cells #[.int .i64 n] 3); generalize World.alloc Y48 (.cells #[.int .i64 n] 3) = Y49 at b9 PN ⊢; have h9 := hid (J.out.up b9); clear J; have J := h9; clear h9; have h9 := hid (BP.out.below b9 BP.out.lt); clear BP; have BP := h9; clear h9; have h9 := hid (TB.out.below b9 TB.out.lt); clear TB; have TB := h9; clear h9; have h9 := hid (Kept.after b9 KX.out); clear KX; have KX := h9; clear h9; (try (have h9 := hid (And.intro (PA.out.1.below b9 PA.out.1.lt) PA.out.2); clear PA; have PA := h9; clear h9)); (try (have h9 := hid (And.intro (PB.out.1.below b9 PB.out.1.lt) PB.out.2); clear PB; have PB := h9; clear h9)); (try (have h9 := hid (And.intro (PC.out.1.below b9 PC.out.1.lt) PC.out.2); clear PC; have PC := h9; clear h9)); have PA := PN; clear PN b9; refine hK.out _ _ (fun _ => rsG BP.out TB.out) ?_; clear hK
            refine wpAnyT_ready (rs := [10]) (by as_aux_lemma => kernel_rfl) (by simp) ?_
            refine AllT.cons rfl (fun K' hK => ?_) (AllT.nil)
            refine ap_n0 Tryd.underlying55 info_int1 rfl (by omega) (X := Y49) (u := .int .i64 n) (by with_reducible rfl) (by rfl) _ _ (by rfl) (B := p + 1) (v := .slice A1 es.length c1) (by rfl) J.out.r1 PA.out.1 (by rfl) (by rfl) (by omega) (Nat.le_trans HPw.out KX.out.size) ?_; intro v7 Y50 r1 r2 r3 r4 pd; obtain ⟨B1, b1, hv7, _⟩ := rowS r1; subst hv7; have J9 := hid (J.out.app1 r1 r2 r3); have NP := NP1; have N1 := hid (fun g e => (r3 g e).imp id (fun h9 => Nat.le_trans KX.out.size h9)); clear PA; clear J; have J := J9; clear J9; have h9 := hid (r4 _ _ _ BP.out NP.out.1); clear BP; have BP := h9; clear h9; have h9 := hid (r4 _ _ _ TB.out NP.out.2.1); clear TB; have TB := h9; clear h9; (try (have h9 := hid (And.intro (r4 _ _ _ PB.out.1 (NP.out.2.2 _ PB.out.2)) PB.out.2); clear PB; have PB := h9; clear h9)); (try (have h9 := hid (And.intro (r4 _ _ _ PC.out.1 (NP.out.2.2 _ PC.out.2)) PC.out.2); clear PC; have PC := h9; clear h9)); have h9 := hid (KX.out.then r2 (fun _ _ e => e) (fun b _ e => .inr (.inl e))); clear KX; have KX := h9; clear h9; clear r1 r2 r3 r4 pd NP; refine hK.out _ _ (fun _ => rsG BP.out TB.out) ?_; clear hK
            refine wpAnyT_ready (rs := [18]) (by as_aux_lemma => kernel_rfl) (by simp) ?_
            refine AllT.cons rfl (fun K' hK => ?_) (AllT.nil)
            refine ap_n0 Tryd.underlying56 info_str rfl (by omega) (X := Y50) (u := .string s) (by with_reducible rfl) (by rfl) _ _ (by rfl) (B := p + 1) (v := .slice A2 es.length c2) (by rfl) J.out.r2 PB.out.1 (by rfl) (by rfl) (by omega) (Nat.le_trans HPw.out KX.out.size) ?_; intro v8 Y51 r1 r2 r3 r4 pd; obtain ⟨B2, b2, hv8, _⟩ := rowS r1; subst hv8; have J9 := hid (J.out.app2 r1 r2 r3); have NP := NP2; have N2 := hid (fun g e => (r3 g e).imp id (fun h9 => Nat.le_trans KX.out.size h9)); clear PB; clear J; have J := J9; clear J9; have h9 := hid (r4 _ _ _ BP.out NP.out.1); clear BP; have BP := h9; clear h9; have h9 := hid (r4 _ _ _ TB.out NP.out.2.1); clear TB; have TB := h9; clear h9; (try (have h9 := hid (And.intro (r4 _ _ _ PB.out.1 (NP.out.2.2 _ PB.out.2)) PB.out.2); clear PB; have PB := h9; clear h9)); (try (have h9 := hid (And.intro (r4 _ _ _ PC.out.1 (NP.out.2.2 _ PC.out.2)) PC.out.2); clear PC; have PC := h9; clear h9)); have h9 := hid (KX.out.then r2 (fun _ _ e => e) (fun b _ e => .inr (.inr (.inl e)))); clear KX; have KX := h9; clear h9; clear r1 r2 r3 r4 pd NP; refine hK.out _ _ (fun _ => rsG BP.out TB.out) ?_; clear hK
            refine wpAnyT_ready (rs := [25]) (by as_aux_lemma => kernel_rfl) (by simp) ?_
            refine AllT.cons rfl (fun K' hK => ?_) (AllT.nil)
            refine ap_n0 Tryd.underlying55 info_int1 rfl (by omega) (X := Y51) (u := .int .i64 2) (by with_reducible rfl) (by rfl) _ _ (by rfl) (B := p + 1) (v := .slice A4 es.length c4) (by rfl) J.out.r4 PC.out.1 (by rfl) (by rfl) (by omega) (Nat.le_trans HPw.out KX.out.size) ?_; intro v9 Y52 r1 r2 r3 r4 pd; obtain ⟨B4, b4, hv9, _⟩ := rowS r1; subst hv9; have J9 := hid (J.out.app4 r1 r2 r3); have NP := NP4; have N4 := hid (fun g e => (r3 g e).imp id (fun h9 => Nat.le_trans KX.out.size h9)); clear PC; clear J; have J := J9; clear J9; have h9 := hid (r4 _ _ _ BP.out NP.out.1); clear BP; have BP := h9; clear h9; have h9 := hid (r4 _ _ _ TB.out NP.out.2.1); clear TB; have TB := h9; clear h9; (try (have h9 := hid (And.intro (r4 _ _ _ PB.out.1 (NP.out.2.2 _ PB.out.2)) PB.out.2); clear PB; have PB := h9; clear h9)); (try (have h9 := hid (And.intro (r4 _ _ _ PC.out.1 (NP.out.2.2 _ PC.out.2)) PC.out.2); clear PC; have PC := h9; clear h9)); have h9 := hid (KX.out.then r2 (fun _ _ e => e) (fun b _ e => .inr (.inr (.inr (.inr e))))); clear KX; have KX := h9; clear h9; clear r1 r2 r3 r4 pd NP; refine hK.out _ _ (fun _ => rsG BP.out TB.out) ?_; clear hK
            refine wpAnyT_takeW (i := 26) (v := .pointer (some ⟨p, 0, none⟩)) rfl (by decide) (by as_aux_lemma => kernel_rfl) (fun _ _ _ h => h) (.inl ⟨by simp [Region.wanted], fun w7 _ => ?_⟩) (fun _ => rsG BP.out TB.out) ?_
            · go_simp
            refine wpAnyT_takeW (i := 27) (v := .pointer (some ⟨p, 0, none⟩)) rfl (by decide) (by as_aux_lemma => kernel_rfl) (fun _ _ _ h => h) (.inl ⟨by simp [Region.wanted], fun w7 _ => ?_⟩) (fun _ => rsG BP.out TB.out) ?_
            · go_simp
            refine wpAnyT_ready (rs := [28]) (by as_aux_lemma => kernel_rfl) (by simp) ?_
            refine AllT.cons rfl (fun K' hK => ?_) AllT.nil
            have k3 := BP.out.frozen 0
            have kc := BP.out.cell 0
            go_simp
            have BP9 := hid (show Blk (World.setCell Y52 ⟨p, 0, none⟩ (.slice B1 (es.length + 1) b1)) p 58 #[.slice B1 (es.length + 1) b1, .slice A2 es.length c2, .slice A3 es.length c3, .slice A4 es.length c4] from BP.out.set_ 0 _)
            have J9 := hid (J.out.set 0 (.slice B1 (es.length + 1) b1))
            have KX9 := hid (KX.out.setCell (p := ⟨p, 0, none⟩) (.inl (.inl rfl)) (.slice B1 (es.length + 1) b1))
            generalize World.setCell Y52 ⟨p, 0, none⟩ (.slice B1 (es.length + 1) b1) = Z1 at BP9 J9 KX9 ⊢
            clear k3 kc BP J KX
            have BP := BP9
            have J := J9
            have KX := KX9
            clear BP9 J9 KX9
            refine hK.out _ _ (fun h => absurd h (by decide)) ?_
            clear hK
            refine wpAnyT_takeW (i := 29) (v := .pointer (some ⟨p, 0, none⟩)) rfl (by decide) (by as_aux_lemma => kernel_rfl) (fun _ _ _ h => h) (.inl ⟨by simp [Region.wanted], fun w7 _ => ?_⟩) (fun h => absurd h (by decide)) ?_
            · go_simp
            refine wpAnyT_takeW (i := 30) (v := .pointer (some ⟨p, 1, none⟩)) rfl (by decide) (by as_aux_lemma => kernel_rfl) (fun _ _ _ h => h) (.inl ⟨by simp [Region.wanted], fun w7 _ => ?_⟩) (fun h => absurd h (by decide)) ?_
            · go_simp
            refine wpAnyT_ready (rs := [31]) (by as_aux_lemma => kernel_rfl) (by simp) ?_
            refine AllT.cons rfl (fun K' hK => ?_) AllT.nil
            have k3 := BP.out.frozen 1
            have kc := BP.out.cell 1
            go_simp
            have BP9 := hid (show Blk (World.setCell Z1 ⟨p, 1, none⟩ (.slice B2 (es.length + 1) b2)) p 58 #[.slice B1 (es.length + 1) b1, .slice B2 (es.length + 1) b2, .slice A3 es.length c3, .slice A4 es.length c4] from BP.out.set_ 1 _)
            have J9 := hid (J.out.set 1 (.slice B2 (es.length + 1) b2))
            have KX9 := hid (KX.out.setCell (p := ⟨p, 1, none⟩) (.inl (.inl rfl)) (.slice B2 (es.length + 1) b2))
            generalize World.setCell Z1 ⟨p, 1, none⟩ (.slice B2 (es.length + 1) b2) = Z2 at BP9 J9 KX9 ⊢
            clear k3 kc BP J KX
            have BP := BP9
            have J := J9
            have KX := KX9
            clear BP9 J9 KX9
            refine hK.out _ _ (fun h => absurd h (by decide)) ?_
            clear hK
            refine wpAnyT_takeW (i := 32) (v := .pointer (some ⟨p, 0, none⟩)) rfl (by decide) (by as_aux_lemma => kernel_rfl) (fun _ _ _ h => h) (.inl ⟨by simp [Region.wanted], fun w7 _ => ?_⟩) (fun h => absurd h (by decide)) ?_
            · go_simp
            refine wpAnyT_takeW (i := 33) (v := .pointer (some ⟨p, 3, none⟩)) rfl (by decide) (by as_aux_lemma => kernel_rfl) (fun _ _ _ h => h) (.inl ⟨by simp [Region.wanted], fun w7 _ => ?_⟩) (fun h => absurd h (by decide)) ?_
            · go_simp
            refine wpAnyT_ready (rs := [34]) (by as_aux_lemma => kernel_rfl) (by simp) ?_
            refine AllT.cons rfl (fun K' hK => ?_) AllT.nil
            have k3 := BP.out.frozen 3
            have kc := BP.out.cell 3
            go_simp
            have BP9 := hid (show Blk (World.setCell Z2 ⟨p, 3, none⟩ (.slice B4 (es.length + 1) b4)) p 58 #[.slice B1 (es.length + 1) b1, .slice B2 (es.length + 1) b2, .slice A3 es.length c3, .slice B4 (es.length + 1) b4] from BP.out.set_ 3 _)
            have J9 := hid (J.out.set 3 (.slice B4 (es.length + 1) b4))
            have KX9 := hid (KX.out.setCell (p := ⟨p, 3, none⟩) (.inl (.inl rfl)) (.slice B4 (es.length + 1) b4))
            generalize World.setCell Z2 ⟨p, 3, none⟩ (.slice B4 (es.length + 1) b4) = Z3 at BP9 J9 KX9 ⊢
            clear k3 kc BP J KX
            have BP := BP9
            have J := J9
            have KX := KX9
            clear BP9 J9 KX9
            refine hK.out _ _ (fun h => absurd h (by decide)) ?_
            clear hK
            refine wpAnyT_done (by as_aux_lemma => kernel_rfl) ?_ _
            go_wp2_with fail
            go_meet
            exact ⟨_, _, _, BP, J, KX, hid (own_new N1.out N2.out N4.out)⟩
        · skip
          go_simp; have PN := hid (And.intro (Blk.new Y0 3 #[.int .i64 2]) KX.out.size); have b9 := al1 Y0 (.cells #[.int .i64 2] 3); generalize World.alloc Y0 (.cells #[.int .i64 2] 3) = Y53 at b9 PN ⊢; have h9 := hid (J.out.up b9); clear J; have J := h9; clear h9; have h9 := hid (BP.out.below b9 BP.out.lt); clear BP; have BP := h9; clear h9; have h9 := hid (TB.out.below b9 TB.out.lt); clear TB; have TB := h9; clear h9; have h9 := hid (Kept.after b9 KX.out); clear KX; have KX := h9; clear h9; (try (have h9 := hid (And.intro (PA.out.1.below b9 PA.out.1.lt) PA.out.2); clear PA; have PA := h9; clear h9)); (try (have h9 := hid (And.intro (PB.out.1.below b9 PB.out.1.lt) PB.out.2); clear PB; have PB := h9; clear h9)); (try (have h9 := hid (And.intro (PC.out.1.below b9 PC.out.1.lt) PC.out.2); clear PC; have PC := h9; clear h9)); have PC := PN; clear PN b9; refine hK.out _ _ (fun _ => rsG BP.out TB.out) ?_; clear hK
          refine wpAnyT_ready (rs := [9, 17]) (by as_aux_lemma => kernel_rfl) (by simp) ?_
          refine AllT.cons rfl (fun K' hK => ?_) (AllT.cons rfl (fun K' hK => ?_) (AllT.nil))
          · skip
            go_simp; have PN := hid (And.intro (Blk.new Y53 3 #[.int .i64 n]) KX.out.size); have b9 := al1 Y53 (.cells #[.int .i64 n] 3); generalize World.alloc Y53 (.cells #[.int .i64 n] 3) = Y54 at b9 PN ⊢; have h9 := hid (J.out.up b9); clear J; have J := h9; clear h9; have h9 := hid (BP.out.below b9 BP.out.lt); clear BP; have BP := h9; clear h9; have h9 := hid (TB.out.below b9 TB.out.lt); clear TB; have TB := h9; clear h9; have h9 := hid (Kept.after b9 KX.out); clear KX; have KX := h9; clear h9; (try (have h9 := hid (And.intro (PA.out.1.below b9 PA.out.1.lt) PA.out.2); clear PA; have PA := h9; clear h9)); (try (have h9 := hid (And.intro (PB.out.1.below b9 PB.out.1.lt) PB.out.2); clear PB; have PB := h9; clear h9)); (try (have h9 := hid (And.intro (PC.out.1.below b9 PC.out.1.lt) PC.out.2); clear PC; have PC := h9; clear h9)); have PA := PN; clear PN b9; refine hK.out _ _ (fun _ => rsG BP.out TB.out) ?_; clear hK
            refine wpAnyT_ready (rs := [10, 17]) (by as_aux_lemma => kernel_rfl) (by simp) ?_
            refine AllT.cons rfl (fun K' hK => ?_) (AllT.cons rfl (fun K' hK => ?_) (AllT.nil))
            · skip
              refine ap_n0 Tryd.underlying55 info_int1 rfl (by omega) (X := Y54) (u := .int .i64 n) (by with_reducible rfl) (by rfl) _ _ (by rfl) (B := p + 1) (v := .slice A1 es.length c1) (by rfl) J.out.r1 PA.out.1 (by rfl) (by rfl) (by omega) (Nat.le_trans HPw.out KX.out.size) ?_; intro v7 Y55 r1 r2 r3 r4 pd; obtain ⟨B1, b1, hv7, _⟩ := rowS r1; subst hv7; have J9 := hid (J.out.app1 r1 r2 r3); have NP := NP1; have N1 := hid (fun g e => (r3 g e).imp id (fun h9 => Nat.le_trans KX.out.size h9)); clear PA; clear J; have J := J9; clear J9; have h9 := hid (r4 _ _ _ BP.out NP.out.1); clear BP; have BP := h9; clear h9; have h9 := hid (r4 _ _ _ TB.out NP.out.2.1); clear TB; have TB := h9; clear h9; (try (have h9 := hid (And.intro (r4 _ _ _ PB.out.1 (NP.out.2.2 _ PB.out.2)) PB.out.2); clear PB; have PB := h9; clear h9)); (try (have h9 := hid (And.intro (r4 _ _ _ PC.out.1 (NP.out.2.2 _ PC.out.2)) PC.out.2); clear PC; have PC := h9; clear h9)); have h9 := hid (KX.out.then r2 (fun _ _ e => e) (fun b _ e => .inr (.inl e))); clear KX; have KX := h9; clear h9; clear r1 r2 r3 r4 pd NP; refine hK.out _ _ (fun _ => rsG BP.out TB.out) ?_; clear hK
              refine wpAnyT_ready (rs := [17]) (by as_aux_lemma => kernel_rfl) (by simp) ?_
              refine AllT.cons rfl (fun K' hK => ?_) (AllT.nil)
              go_simp; have PN := hid (And.intro (Blk.new Y55 9 #[.string s]) KX.out.size); have b9 := al1 Y55 (.cells #[.string s] 9); generalize World.alloc Y55 (.cells #[.string s] 9) = Y56 at b9 PN ⊢; have h9 := hid (J.out.up b9); clear J; have J := h9; clear h9; have h9 := hid (BP.out.below b9 BP.out.lt); clear BP; have BP := h9; clear h9; have h9 := hid (TB.out.below b9 TB.out.lt); clear TB; have TB := h9; clear h9; have h9 := hid (Kept.after b9 KX.out); clear KX; have KX := h9; clear h9; (try (have h9 := hid (And.intro (PA.out.1.below b9 PA.out.1.lt) PA.out.2); clear PA; have PA := h9; clear h9)); (try (have h9 := hid (And.intro (PB.out.1.below b9 PB.out.1.lt) PB.out.2); clear PB; have PB := h9; clear h9)); (try (have h9 := hid (And.intro (PC.out.1.below b9 PC.out.1.lt) PC.out.2); clear PC; have PC := h9; clear h9)); have PB := PN; clear PN b9; refine hK.out _ _ (fun _ => rsG BP.out TB.out) ?_; clear hK
              refine wpAnyT_ready (rs := [18]) (by as_aux_lemma => kernel_rfl) (by simp) ?_
              refine AllT.cons rfl (fun K' hK => ?_) (AllT.nil)
              refine ap_n0 Tryd.underlying56 info_str rfl (by omega) (X := Y56) (u := .string s) (by with_reducible rfl) (by rfl) _ _ (by rfl) (B := p + 1) (v := .slice A2 es.length c2) (by rfl) J.out.r2 PB.out.1 (by rfl) (by rfl) (by omega) (Nat.le_trans HPw.out KX.out.size) ?_; intro v8 Y57 r1 r2 r3 r4 pd; obtain ⟨B2, b2, hv8, _⟩ := rowS r1; subst hv8; have J9 := hid (J.out.app2 r1 r2 r3); have NP := NP2; have N2 := hid (fun g e => (r3 g e).imp id (fun h9 => Nat.le_trans KX.out.size h9)); clear PB; clear J; have J := J9; clear J9; have h9 := hid (r4 _ _ _ BP.out NP.out.1); clear BP; have BP := h9; clear h9; have h9 := hid (r4 _ _ _ TB.out NP.out.2.1); clear TB; have TB := h9; clear h9; (try (have h9 := hid (And.intro (r4 _ _ _ PB.out.1 (NP.out.2.2 _ PB.out.2)) PB.out.2); clear PB; have PB := h9; clear h9)); (try (have h9 := hid (And.intro (r4 _ _ _ PC.out.1 (NP.out.2.2 _ PC.out.2)) PC.out.2); clear PC; have PC := h9; clear h9)); have h9 := hid (KX.out.then r2 (fun _ _ e => e) (fun b _ e => .inr (.inr (.inl e)))); clear KX; have KX := h9; clear h9; clear r1 r2 r3 r4 pd NP; refine hK.out _ _ (fun _ => rsG BP.out TB.out) ?_; clear hK
              refine wpAnyT_ready (rs := [25]) (by as_aux_lemma => kernel_rfl) (by simp) ?_
              refine AllT.cons rfl (fun K' hK => ?_) (AllT.nil)
              refine ap_n0 Tryd.underlying55 info_int1 rfl (by omega) (X := Y57) (u := .int .i64 2) (by with_reducible rfl) (by rfl) _ _ (by rfl) (B := p + 1) (v := .slice A4 es.length c4) (by rfl) J.out.r4 PC.out.1 (by rfl) (by rfl) (by omega) (Nat.le_trans HPw.out KX.out.size) ?_; intro v9 Y58 r1 r2 r3 r4 pd; obtain ⟨B4, b4, hv9, _⟩ := rowS r1; subst hv9; have J9 := hid (J.out.app4 r1 r2 r3); have NP := NP4; have N4 := hid (fun g e => (r3 g e).imp id (fun h9 => Nat.le_trans KX.out.size h9)); clear PC; clear J; have J := J9; clear J9; have h9 := hid (r4 _ _ _ BP.out NP.out.1); clear BP; have BP := h9; clear h9; have h9 := hid (r4 _ _ _ TB.out NP.out.2.1); clear TB; have TB := h9; clear h9; (try (have h9 := hid (And.intro (r4 _ _ _ PB.out.1 (NP.out.2.2 _ PB.out.2)) PB.out.2); clear PB; have PB := h9; clear h9)); (try (have h9 := hid (And.intro (r4 _ _ _ PC.out.1 (NP.out.2.2 _ PC.out.2)) PC.out.2); clear PC; have PC := h9; clear h9)); have h9 := hid (KX.out.then r2 (fun _ _ e => e) (fun b _ e => .inr (.inr (.inr (.inr e))))); clear KX; have KX := h9; clear h9; clear r1 r2 r3 r4 pd NP; refine hK.out _ _ (fun _ => rsG BP.out TB.out) ?_; clear hK
              refine wpAnyT_takeW (i := 26) (v := .pointer (some ⟨p, 0, none⟩)) rfl (by decide) (by as_aux_lemma => kernel_rfl) (fun _ _ _ h => h) (.inl ⟨by simp [Region.wanted], fun w7 _ => ?_⟩) (fun _ => rsG BP.out TB.out) ?_
              · go_simp
              refine wpAnyT_takeW (i := 27) (v := .pointer (some ⟨p, 0, none⟩)) rfl (by decide) (by as_aux_lemma => kernel_rfl) (fun _ _ _ h => h) (.inl ⟨by simp [Region.wanted], fun w7 _ => ?_⟩) (fun _ => rsG BP.out TB.out) ?_
              · go_simp
              refine wpAnyT_ready (rs := [28]) (by as_aux_lemma => kernel_rfl) (by simp) ?_
              refine AllT.cons rfl (fun K' hK => ?_) AllT.nil
              have k3 := BP.out.frozen 0
              have kc := BP.out.cell 0
              go_simp
              have BP9 := hid (show Blk (World.setCell Y58 ⟨p, 0, none⟩ (.slice B1 (es.length + 1) b1)) p 58 #[.slice B1 (es.length + 1) b1, .slice A2 es.length c2, .slice A3 es.length c3, .slice A4 es.length c4] from BP.out.set_ 0 _)
              have J9 := hid (J.out.set 0 (.slice B1 (es.length + 1) b1))
              have KX9 := hid (KX.out.setCell (p := ⟨p, 0, none⟩) (.inl (.inl rfl)) (.slice B1 (es.length + 1) b1))
              generalize World.setCell Y58 ⟨p, 0, none⟩ (.slice B1 (es.length + 1) b1) = Z1 at BP9 J9 KX9 ⊢
              clear k3 kc BP J KX
              have BP := BP9
              have J := J9
              have KX := KX9
              clear BP9 J9 KX9
              refine hK.out _ _ (fun h => absurd h (by decide)) ?_
              clear hK
              refine wpAnyT_takeW (i := 29) (v := .pointer (some ⟨p, 0, none⟩)) rfl (by decide) (by as_aux_lemma => kernel_rfl) (fun _ _ _ h => h) (.inl ⟨by simp [Region.wanted], fun w7 _ => ?_⟩) (fun h => absurd h (by decide)) ?_
              · go_simp
              refine wpAnyT_takeW (i := 30) (v := .pointer (some ⟨p, 1, none⟩)) rfl (by decide) (by as_aux_lemma => kernel_rfl) (fun _ _ _ h => h) (.inl ⟨by simp [Region.wanted], fun w7 _ => ?_⟩) (fun h => absurd h (by decide)) ?_
              · go_simp
              refine wpAnyT_ready (rs := [31]) (by as_aux_lemma => kernel_rfl) (by simp) ?_
              refine AllT.cons rfl (fun K' hK => ?_) AllT.nil
              have k3 := BP.out.frozen 1
              have kc := BP.out.cell 1
              go_simp
              have BP9 := hid (show Blk (World.setCell Z1 ⟨p, 1, none⟩ (.slice B2 (es.length + 1) b2)) p 58 #[.slice B1 (es.length + 1) b1, .slice B2 (es.length + 1) b2, .slice A3 es.length c3, .slice A4 es.length c4] from BP.out.set_ 1 _)
              have J9 := hid (J.out.set 1 (.slice B2 (es.length + 1) b2))
              have KX9 := hid (KX.out.setCell (p := ⟨p, 1, none⟩) (.inl (.inl rfl)) (.slice B2 (es.length + 1) b2))
              generalize World.setCell Z1 ⟨p, 1, none⟩ (.slice B2 (es.length + 1) b2) = Z2 at BP9 J9 KX9 ⊢
              clear k3 kc BP J KX
              have BP := BP9
              have J := J9
              have KX := KX9
              clear BP9 J9 KX9
              refine hK.out _ _ (fun h => absurd h (by decide)) ?_
              clear hK
              refine wpAnyT_takeW (i := 32) (v := .pointer (some ⟨p, 0, none⟩)) rfl (by decide) (by as_aux_lemma => kernel_rfl) (fun _ _ _ h => h) (.inl ⟨by simp [Region.wanted], fun w7 _ => ?_⟩) (fun h => absurd h (by decide)) ?_
              · go_simp
              refine wpAnyT_takeW (i := 33) (v := .pointer (some ⟨p, 3, none⟩)) rfl (by decide) (by as_aux_lemma => kernel_rfl) (fun _ _ _ h => h) (.inl ⟨by simp [Region.wanted], fun w7 _ => ?_⟩) (fun h => absurd h (by decide)) ?_
              · go_simp
              refine wpAnyT_ready (rs := [34]) (by as_aux_lemma => kernel_rfl) (by simp) ?_
              refine AllT.cons rfl (fun K' hK => ?_) AllT.nil
              have k3 := BP.out.frozen 3
              have kc := BP.out.cell 3
              go_simp
              have BP9 := hid (show Blk (World.setCell Z2 ⟨p, 3, none⟩ (.slice B4 (es.length + 1) b4)) p 58 #[.slice B1 (es.length + 1) b1, .slice B2 (es.length + 1) b2, .slice A3 es.length c3, .slice B4 (es.length + 1) b4] from BP.out.set_ 3 _)
              have J9 := hid (J.out.set 3 (.slice B4 (es.length + 1) b4))
              have KX9 := hid (KX.out.setCell (p := ⟨p, 3, none⟩) (.inl (.inl rfl)) (.slice B4 (es.length + 1) b4))
              generalize World.setCell Z2 ⟨p, 3, none⟩ (.slice B4 (es.length + 1) b4) = Z3 at BP9 J9 KX9 ⊢
              clear k3 kc BP J KX
              have BP := BP9
              have J := J9
              have KX := KX9
              clear BP9 J9 KX9
              refine hK.out _ _ (fun h => absurd h (by decide)) ?_
              clear hK
              refine wpAnyT_done (by as_aux_lemma => kernel_rfl) ?_ _
              go_wp2_with fail
              go_meet
              exact ⟨_, _, _, BP, J, KX, hid (own_new N1.out N2.out N4.out)⟩
            · skip
              go_simp; have PN := hid (And.intro (Blk.new Y54 9 #[.string s]) KX.out.size); have b9 := al1 Y54 (.cells #[.string s] 9); generalize World.alloc Y54 (.cells #[.string s] 9) = Y59 at b9 PN ⊢; have h9 := hid (J.out.up b9); clear J; have J := h9; clear h9; have h9 := hid (BP.out.below b9 BP.out.lt); clear BP; have BP := h9; clear h9; have h9 := hid (TB.out.below b9 TB.out.lt); clear TB; have TB := h9; clear h9; have h9 := hid (Kept.after b9 KX.out); clear KX; have KX := h9; clear h9; (try (have h9 := hid (And.intro (PA.out.1.below b9 PA.out.1.lt) PA.out.2); clear PA; have PA := h9; clear h9)); (try (have h9 := hid (And.intro (PB.out.1.below b9 PB.out.1.lt) PB.out.2); clear PB; have PB := h9; clear h9)); (try (have h9 := hid (And.intro (PC.out.1.below b9 PC.out.1.lt) PC.out.2); clear PC; have PC := h9; clear h9)); have PB := PN; clear PN b9; refine hK.out _ _ (fun _ => rsG BP.out TB.out) ?_; clear hK
              refine wpAnyT_ready (rs := [10]) (by as_aux_lemma => kernel_rfl) (by simp) ?_
              refine AllT.cons rfl (fun K' hK => ?_) (AllT.nil)
              refine ap_n0 Tryd.underlying55 info_int1 rfl (by omega) (X := Y59) (u := .int .i64 n) (by with_reducible rfl) (by rfl) _ _ (by rfl) (B := p + 1) (v := .slice A1 es.length c1) (by rfl) J.out.r1 PA.out.1 (by rfl) (by rfl) (by omega) (Nat.le_trans HPw.out KX.out.size) ?_; intro v7 Y60 r1 r2 r3 r4 pd; obtain ⟨B1, b1, hv7, _⟩ := rowS r1; subst hv7; have J9 := hid (J.out.app1 r1 r2 r3); have NP := NP1; have N1 := hid (fun g e => (r3 g e).imp id (fun h9 => Nat.le_trans KX.out.size h9)); clear PA; clear J; have J := J9; clear J9; have h9 := hid (r4 _ _ _ BP.out NP.out.1); clear BP; have BP := h9; clear h9; have h9 := hid (r4 _ _ _ TB.out NP.out.2.1); clear TB; have TB := h9; clear h9; (try (have h9 := hid (And.intro (r4 _ _ _ PB.out.1 (NP.out.2.2 _ PB.out.2)) PB.out.2); clear PB; have PB := h9; clear h9)); (try (have h9 := hid (And.intro (r4 _ _ _ PC.out.1 (NP.out.2.2 _ PC.out.2)) PC.out.2); clear PC; have PC := h9; clear h9)); have h9 := hid (KX.out.then r2 (fun _ _ e => e) (fun b _ e => .inr (.inl e))); clear KX; have KX := h9; clear h9; clear r1 r2 r3 r4 pd NP; refine hK.out _ _ (fun _ => rsG BP.out TB.out) ?_; clear hK
              refine wpAnyT_ready (rs := [18]) (by as_aux_lemma => kernel_rfl) (by simp) ?_
              refine AllT.cons rfl (fun K' hK => ?_) (AllT.nil)
              refine ap_n0 Tryd.underlying56 info_str rfl (by omega) (X := Y60) (u := .string s) (by with_reducible rfl) (by rfl) _ _ (by rfl) (B := p + 1) (v := .slice A2 es.length c2) (by rfl) J.out.r2 PB.out.1 (by rfl) (by rfl) (by omega) (Nat.le_trans HPw.out KX.out.size) ?_; intro v8 Y61 r1 r2 r3 r4 pd; obtain ⟨B2, b2, hv8, _⟩ := rowS r1; subst hv8; have J9 := hid (J.out.app2 r1 r2 r3); have NP := NP2; have N2 := hid (fun g e => (r3 g e).imp id (fun h9 => Nat.le_trans KX.out.size h9)); clear PB; clear J; have J := J9; clear J9; have h9 := hid (r4 _ _ _ BP.out NP.out.1); clear BP; have BP := h9; clear h9; have h9 := hid (r4 _ _ _ TB.out NP.out.2.1); clear TB; have TB := h9; clear h9; (try (have h9 := hid (And.intro (r4 _ _ _ PB.out.1 (NP.out.2.2 _ PB.out.2)) PB.out.2); clear PB; have PB := h9; clear h9)); (try (have h9 := hid (And.intro (r4 _ _ _ PC.out.1 (NP.out.2.2 _ PC.out.2)) PC.out.2); clear PC; have PC := h9; clear h9)); have h9 := hid (KX.out.then r2 (fun _ _ e => e) (fun b _ e => .inr (.inr (.inl e)))); clear KX; have KX := h9; clear h9; clear r1 r2 r3 r4 pd NP; refine hK.out _ _ (fun _ => rsG BP.out TB.out) ?_; clear hK
              refine wpAnyT_ready (rs := [25]) (by as_aux_lemma => kernel_rfl) (by simp) ?_
              refine AllT.cons rfl (fun K' hK => ?_) (AllT.nil)
              refine ap_n0 Tryd.underlying55 info_int1 rfl (by omega) (X := Y61) (u := .int .i64 2) (by with_reducible rfl) (by rfl) _ _ (by rfl) (B := p + 1) (v := .slice A4 es.length c4) (by rfl) J.out.r4 PC.out.1 (by rfl) (by rfl) (by omega) (Nat.le_trans HPw.out KX.out.size) ?_; intro v9 Y62 r1 r2 r3 r4 pd; obtain ⟨B4, b4, hv9, _⟩ := rowS r1; subst hv9; have J9 := hid (J.out.app4 r1 r2 r3); have NP := NP4; have N4 := hid (fun g e => (r3 g e).imp id (fun h9 => Nat.le_trans KX.out.size h9)); clear PC; clear J; have J := J9; clear J9; have h9 := hid (r4 _ _ _ BP.out NP.out.1); clear BP; have BP := h9; clear h9; have h9 := hid (r4 _ _ _ TB.out NP.out.2.1); clear TB; have TB := h9; clear h9; (try (have h9 := hid (And.intro (r4 _ _ _ PB.out.1 (NP.out.2.2 _ PB.out.2)) PB.out.2); clear PB; have PB := h9; clear h9)); (try (have h9 := hid (And.intro (r4 _ _ _ PC.out.1 (NP.out.2.2 _ PC.out.2)) PC.out.2); clear PC; have PC := h9; clear h9)); have h9 := hid (KX.out.then r2 (fun _ _ e => e) (fun b _ e => .inr (.inr (.inr (.inr e))))); clear KX; have KX := h9; clear h9; clear r1 r2 r3 r4 pd NP; refine hK.out _ _ (fun _ => rsG BP.out TB.out) ?_; clear hK
              refine wpAnyT_takeW (i := 26) (v := .pointer (some ⟨p, 0, none⟩)) rfl (by decide) (by as_aux_lemma => kernel_rfl) (fun _ _ _ h => h) (.inl ⟨by simp [Region.wanted], fun w7 _ => ?_⟩) (fun _ => rsG BP.out TB.out) ?_
              · go_simp
              refine wpAnyT_takeW (i := 27) (v := .pointer (some ⟨p, 0, none⟩)) rfl (by decide) (by as_aux_lemma => kernel_rfl) (fun _ _ _ h => h) (.inl ⟨by simp [Region.wanted], fun w7 _ => ?_⟩) (fun _ => rsG BP.out TB.out) ?_
              · go_simp
              refine wpAnyT_ready (rs := [28]) (by as_aux_lemma => kernel_rfl) (by simp) ?_
              refine AllT.cons rfl (fun K' hK => ?_) AllT.nil
              have k3 := BP.out.frozen 0
              have kc := BP.out.cell 0
              go_simp
              have BP9 := hid (show Blk (World.setCell Y62 ⟨p, 0, none⟩ (.slice B1 (es.length + 1) b1)) p 58 #[.slice B1 (es.length + 1) b1, .slice A2 es.length c2, .slice A3 es.length c3, .slice A4 es.length c4] from BP.out.set_ 0 _)
              have J9 := hid (J.out.set 0 (.slice B1 (es.length + 1) b1))
              have KX9 := hid (KX.out.setCell (p := ⟨p, 0, none⟩) (.inl (.inl rfl)) (.slice B1 (es.length + 1) b1))
              generalize World.setCell Y62 ⟨p, 0, none⟩ (.slice B1 (es.length + 1) b1) = Z1 at BP9 J9 KX9 ⊢
              clear k3 kc BP J KX
              have BP := BP9
              have J := J9
              have KX := KX9
              clear BP9 J9 KX9
              refine hK.out _ _ (fun h => absurd h (by decide)) ?_
              clear hK
              refine wpAnyT_takeW (i := 29) (v := .pointer (some ⟨p, 0, none⟩)) rfl (by decide) (by as_aux_lemma => kernel_rfl) (fun _ _ _ h => h) (.inl ⟨by simp [Region.wanted], fun w7 _ => ?_⟩) (fun h => absurd h (by decide)) ?_
              · go_simp
              refine wpAnyT_takeW (i := 30) (v := .pointer (some ⟨p, 1, none⟩)) rfl (by decide) (by as_aux_lemma => kernel_rfl) (fun _ _ _ h => h) (.inl ⟨by simp [Region.wanted], fun w7 _ => ?_⟩) (fun h => absurd h (by decide)) ?_
              · go_simp
              refine wpAnyT_ready (rs := [31]) (by as_aux_lemma => kernel_rfl) (by simp) ?_
              refine AllT.cons rfl (fun K' hK => ?_) AllT.nil
              have k3 := BP.out.frozen 1
              have kc := BP.out.cell 1
              go_simp
              have BP9 := hid (show Blk (World.setCell Z1 ⟨p, 1, none⟩ (.slice B2 (es.length + 1) b2)) p 58 #[.slice B1 (es.length + 1) b1, .slice B2 (es.length + 1) b2, .slice A3 es.length c3, .slice A4 es.length c4] from BP.out.set_ 1 _)
              have J9 := hid (J.out.set 1 (.slice B2 (es.length + 1) b2))
              have KX9 := hid (KX.out.setCell (p := ⟨p, 1, none⟩) (.inl (.inl rfl)) (.slice B2 (es.length + 1) b2))
              generalize World.setCell Z1 ⟨p, 1, none⟩ (.slice B2 (es.length + 1) b2) = Z2 at BP9 J9 KX9 ⊢
              clear k3 kc BP J KX
              have BP := BP9
              have J := J9
              have KX := KX9
              clear BP9 J9 KX9
              refine hK.out _ _ (fun h => absurd h (by decide)) ?_
              clear hK
              refine wpAnyT_takeW (i := 32) (v := .pointer (some ⟨p, 0, none⟩)) rfl (by decide) (by as_aux_lemma => kernel_rfl) (fun _ _ _ h => h) (.inl ⟨by simp [Region.wanted], fun w7 _ => ?_⟩) (fun h => absurd h (by decide)) ?_
              · go_simp
              refine wpAnyT_takeW (i := 33) (v := .pointer (some ⟨p, 3, none⟩)) rfl (by decide) (by as_aux_lemma => kernel_rfl) (fun _ _ _ h => h) (.inl ⟨by simp [Region.wanted], fun w7 _ => ?_⟩) (fun h => absurd h (by decide)) ?_
              · go_simp
              refine wpAnyT_ready (rs := [34]) (by as_aux_lemma => kernel_rfl) (by simp) ?_
              refine AllT.cons rfl (fun K' hK => ?_) AllT.nil
              have k3 := BP.out.frozen 3
              have kc := BP.out.cell 3
              go_simp
              have BP9 := hid (show Blk (World.setCell Z2 ⟨p, 3, none⟩ (.slice B4 (es.length + 1) b4)) p 58 #[.slice B1 (es.length + 1) b1, .slice B2 (es.length + 1) b2, .slice A3 es.length c3, .slice B4 (es.length + 1) b4] from BP.out.set_ 3 _)
              have J9 := hid (J.out.set 3 (.slice B4 (es.length + 1) b4))
              have KX9 := hid (KX.out.setCell (p := ⟨p, 3, none⟩) (.inl (.inl rfl)) (.slice B4 (es.length + 1) b4))
              generalize World.setCell Z2 ⟨p, 3, none⟩ (.slice B4 (es.length + 1) b4) = Z3 at BP9 J9 KX9 ⊢
              clear k3 kc BP J KX
              have BP := BP9
              have J := J9
              have KX := KX9
              clear BP9 J9 KX9
              refine hK.out _ _ (fun h => absurd h (by decide)) ?_
              clear hK
              refine wpAnyT_done (by as_aux_lemma => kernel_rfl) ?_ _
              go_wp2_with fail
              go_meet
              exact ⟨_, _, _, BP, J, KX, hid (own_new N1.out N2.out N4.out)⟩
          · skip
            go_simp; have PN := hid (And.intro (Blk.new Y53 9 #[.string s]) KX.out.size); have b9 := al1 Y53 (.cells #[.string s] 9); generalize World.alloc Y53 (.cells #[.string s] 9) = Y63 at b9 PN ⊢; have h9 := hid (J.out.up b9); clear J; have J := h9; clear h9; have h9 := hid (BP.out.below b9 BP.out.lt); clear BP; have BP := h9; clear h9; have h9 := hid (TB.out.below b9 TB.out.lt); clear TB; have TB := h9; clear h9; have h9 := hid (Kept.after b9 KX.out); clear KX; have KX := h9; clear h9; (try (have h9 := hid (And.intro (PA.out.1.below b9 PA.out.1.lt) PA.out.2); clear PA; have PA := h9; clear h9)); (try (have h9 := hid (And.intro (PB.out.1.below b9 PB.out.1.lt) PB.out.2); clear PB; have PB := h9; clear h9)); (try (have h9 := hid (And.intro (PC.out.1.below b9 PC.out.1.lt) PC.out.2); clear PC; have PC := h9; clear h9)); have PB := PN; clear PN b9; refine hK.out _ _ (fun _ => rsG BP.out TB.out) ?_; clear hK
            refine wpAnyT_ready (rs := [9]) (by as_aux_lemma => kernel_rfl) (by simp) ?_
            refine AllT.cons rfl (fun K' hK => ?_) (AllT.nil)
            go_simp; have PN := hid (And.intro (Blk.new Y63 3 #[.int .i64 n]) KX.out.size); have b9 := al1 Y63 (.cells #[.int .i64 n] 3); generalize World.alloc Y63 (.cells #[.int .i64 n] 3) = Y64 at b9 PN ⊢; have h9 := hid (J.out.up b9); clear J; have J := h9; clear h9; have h9 := hid (BP.out.below b9 BP.out.lt); clear BP; have BP := h9; clear h9; have h9 := hid (TB.out.below b9 TB.out.lt); clear TB; have TB := h9; clear h9; have h9 := hid (Kept.after b9 KX.out); clear KX; have KX := h9; clear h9; (try (have h9 := hid (And.intro (PA.out.1.below b9 PA.out.1.lt) PA.out.2); clear PA; have PA := h9; clear h9)); (try (have h9 := hid (And.intro (PB.out.1.below b9 PB.out.1.lt) PB.out.2); clear PB; have PB := h9; clear h9)); (try (have h9 := hid (And.intro (PC.out.1.below b9 PC.out.1.lt) PC.out.2); clear PC; have PC := h9; clear h9)); have PA := PN; clear PN b9; refine hK.out _ _ (fun _ => rsG BP.out TB.out) ?_; clear hK
            refine wpAnyT_ready (rs := [10]) (by as_aux_lemma => kernel_rfl) (by simp) ?_
            refine AllT.cons rfl (fun K' hK => ?_) (AllT.nil)
            refine ap_n0 Tryd.underlying55 info_int1 rfl (by omega) (X := Y64) (u := .int .i64 n) (by with_reducible rfl) (by rfl) _ _ (by rfl) (B := p + 1) (v := .slice A1 es.length c1) (by rfl) J.out.r1 PA.out.1 (by rfl) (by rfl) (by omega) (Nat.le_trans HPw.out KX.out.size) ?_; intro v7 Y65 r1 r2 r3 r4 pd; obtain ⟨B1, b1, hv7, _⟩ := rowS r1; subst hv7; have J9 := hid (J.out.app1 r1 r2 r3); have NP := NP1; have N1 := hid (fun g e => (r3 g e).imp id (fun h9 => Nat.le_trans KX.out.size h9)); clear PA; clear J; have J := J9; clear J9; have h9 := hid (r4 _ _ _ BP.out NP.out.1); clear BP; have BP := h9; clear h9; have h9 := hid (r4 _ _ _ TB.out NP.out.2.1); clear TB; have TB := h9; clear h9; (try (have h9 := hid (And.intro (r4 _ _ _ PB.out.1 (NP.out.2.2 _ PB.out.2)) PB.out.2); clear PB; have PB := h9; clear h9)); (try (have h9 := hid (And.intro (r4 _ _ _ PC.out.1 (NP.out.2.2 _ PC.out.2)) PC.out.2); clear PC; have PC := h9; clear h9)); have h9 := hid (KX.out.then r2 (fun _ _ e => e) (fun b _ e => .inr (.inl e))); clear KX; have KX := h9; clear h9; clear r1 r2 r3 r4 pd NP; refine hK.out _ _ (fun _ => rsG BP.out TB.out) ?_; clear hK
            refine wpAnyT_ready (rs := [18]) (by as_aux_lemma => kernel_rfl) (by simp) ?_
            refine AllT.cons rfl (fun K' hK => ?_) (AllT.nil)
            refine ap_n0 Tryd.underlying56 info_str rfl (by omega) (X := Y65) (u := .string s) (by with_reducible rfl) (by rfl) _ _ (by rfl) (B := p + 1) (v := .slice A2 es.length c2) (by rfl) J.out.r2 PB.out.1 (by rfl) (by rfl) (by omega) (Nat.le_trans HPw.out KX.out.size) ?_; intro v8 Y66 r1 r2 r3 r4 pd; obtain ⟨B2, b2, hv8, _⟩ := rowS r1; subst hv8; have J9 := hid (J.out.app2 r1 r2 r3); have NP := NP2; have N2 := hid (fun g e => (r3 g e).imp id (fun h9 => Nat.le_trans KX.out.size h9)); clear PB; clear J; have J := J9; clear J9; have h9 := hid (r4 _ _ _ BP.out NP.out.1); clear BP; have BP := h9; clear h9; have h9 := hid (r4 _ _ _ TB.out NP.out.2.1); clear TB; have TB := h9; clear h9; (try (have h9 := hid (And.intro (r4 _ _ _ PB.out.1 (NP.out.2.2 _ PB.out.2)) PB.out.2); clear PB; have PB := h9; clear h9)); (try (have h9 := hid (And.intro (r4 _ _ _ PC.out.1 (NP.out.2.2 _ PC.out.2)) PC.out.2); clear PC; have PC := h9; clear h9)); have h9 := hid (KX.out.then r2 (fun _ _ e => e) (fun b _ e => .inr (.inr (.inl e)))); clear KX; have KX := h9; clear h9; clear r1 r2 r3 r4 pd NP; refine hK.out _ _ (fun _ => rsG BP.out TB.out) ?_; clear hK
            refine wpAnyT_ready (rs := [25]) (by as_aux_lemma => kernel_rfl) (by simp) ?_
            refine AllT.cons rfl (fun K' hK => ?_) (AllT.nil)
            refine ap_n0 Tryd.underlying55 info_int1 rfl (by omega) (X := Y66) (u := .int .i64 2) (by with_reducible rfl) (by rfl) _ _ (by rfl) (B := p + 1) (v := .slice A4 es.length c4) (by rfl) J.out.r4 PC.out.1 (by rfl) (by rfl) (by omega) (Nat.le_trans HPw.out KX.out.size) ?_; intro v9 Y67 r1 r2 r3 r4 pd; obtain ⟨B4, b4, hv9, _⟩ := rowS r1; subst hv9; have J9 := hid (J.out.app4 r1 r2 r3); have NP := NP4; have N4 := hid (fun g e => (r3 g e).imp id (fun h9 => Nat.le_trans KX.out.size h9)); clear PC; clear J; have J := J9; clear J9; have h9 := hid (r4 _ _ _ BP.out NP.out.1); clear BP; have BP := h9; clear h9; have h9 := hid (r4 _ _ _ TB.out NP.out.2.1); clear TB; have TB := h9; clear h9; (try (have h9 := hid (And.intro (r4 _ _ _ PB.out.1 (NP.out.2.2 _ PB.out.2)) PB.out.2); clear PB; have PB := h9; clear h9)); (try (have h9 := hid (And.intro (r4 _ _ _ PC.out.1 (NP.out.2.2 _ PC.out.2)) PC.out.2); clear PC; have PC := h9; clear h9)); have h9 := hid (KX.out.then r2 (fun _ _ e => e) (fun b _ e => .inr (.inr (.inr (.inr e))))); clear KX; have KX := h9; clear h9; clear r1 r2 r3 r4 pd NP; refine hK.out _ _ (fun _ => rsG BP.out TB.out) ?_; clear hK
            refine wpAnyT_takeW (i := 26) (v := .pointer (some ⟨p, 0, none⟩)) rfl (by decide) (by as_aux_lemma => kernel_rfl) (fun _ _ _ h => h) (.inl ⟨by simp [Region.wanted], fun w7 _ => ?_⟩) (fun _ => rsG BP.out TB.out) ?_
            · go_simp
            refine wpAnyT_takeW (i := 27) (v := .pointer (some ⟨p, 0, none⟩)) rfl (by decide) (by as_aux_lemma => kernel_rfl) (fun _ _ _ h => h) (.inl ⟨by simp [Region.wanted], fun w7 _ => ?_⟩) (fun _ => rsG BP.out TB.out) ?_
            · go_simp
            refine wpAnyT_ready (rs := [28]) (by as_aux_lemma => kernel_rfl) (by simp) ?_
            refine AllT.cons rfl (fun K' hK => ?_) AllT.nil
            have k3 := BP.out.frozen 0
            have kc := BP.out.cell 0
            go_simp
            have BP9 := hid (show Blk (World.setCell Y67 ⟨p, 0, none⟩ (.slice B1 (es.length + 1) b1)) p 58 #[.slice B1 (es.length + 1) b1, .slice A2 es.length c2, .slice A3 es.length c3, .slice A4 es.length c4] from BP.out.set_ 0 _)
            have J9 := hid (J.out.set 0 (.slice B1 (es.length + 1) b1))
            have KX9 := hid (KX.out.setCell (p := ⟨p, 0, none⟩) (.inl (.inl rfl)) (.slice B1 (es.length + 1) b1))
            generalize World.setCell Y67 ⟨p, 0, none⟩ (.slice B1 (es.length + 1) b1) = Z1 at BP9 J9 KX9 ⊢
            clear k3 kc BP J KX
            have BP := BP9
            have J := J9
            have KX := KX9
            clear BP9 J9 KX9
            refine hK.out _ _ (fun h => absurd h (by decide)) ?_
            clear hK
            refine wpAnyT_takeW (i := 29) (v := .pointer (some ⟨p, 0, none⟩)) rfl (by decide) (by as_aux_lemma => kernel_rfl) (fun _ _ _ h => h) (.inl ⟨by simp [Region.wanted], fun w7 _ => ?_⟩) (fun h => absurd h (by decide)) ?_
            · go_simp
            refine wpAnyT_takeW (i := 30) (v := .pointer (some ⟨p, 1, none⟩)) rfl (by decide) (by as_aux_lemma => kernel_rfl) (fun _ _ _ h => h) (.inl ⟨by simp [Region.wanted], fun w7 _ => ?_⟩) (fun h => absurd h (by decide)) ?_
            · go_simp
            refine wpAnyT_ready (rs := [31]) (by as_aux_lemma => kernel_rfl) (by simp) ?_
            refine AllT.cons rfl (fun K' hK => ?_) AllT.nil
            have k3 := BP.out.frozen 1
            have kc := BP.out.cell 1
            go_simp
            have BP9 := hid (show Blk (World.setCell Z1 ⟨p, 1, none⟩ (.slice B2 (es.length + 1) b2)) p 58 #[.slice B1 (es.length + 1) b1, .slice B2 (es.length + 1) b2, .slice A3 es.length c3, .slice A4 es.length c4] from BP.out.set_ 1 _)
            have J9 := hid (J.out.set 1 (.slice B2 (es.length + 1) b2))
            have KX9 := hid (KX.out.setCell (p := ⟨p, 1, none⟩) (.inl (.inl rfl)) (.slice B2 (es.length + 1) b2))
            generalize World.setCell Z1 ⟨p, 1, none⟩ (.slice B2 (es.length + 1) b2) = Z2 at BP9 J9 KX9 ⊢
            clear k3 kc BP J KX
            have BP := BP9
            have J := J9
            have KX := KX9
            clear BP9 J9 KX9
            refine hK.out _ _ (fun h => absurd h (by decide)) ?_
            clear hK
            refine wpAnyT_takeW (i := 32) (v := .pointer (some ⟨p, 0, none⟩)) rfl (by decide) (by as_aux_lemma => kernel_rfl) (fun _ _ _ h => h) (.inl ⟨by simp [Region.wanted], fun w7 _ => ?_⟩) (fun h => absurd h (by decide)) ?_
            · go_simp
            refine wpAnyT_takeW (i := 33) (v := .pointer (some ⟨p, 3, none⟩)) rfl (by decide) (by as_aux_lemma => kernel_rfl) (fun _ _ _ h => h) (.inl ⟨by simp [Region.wanted], fun w7 _ => ?_⟩) (fun h => absurd h (by decide)) ?_
            · go_simp
            refine wpAnyT_ready (rs := [34]) (by as_aux_lemma => kernel_rfl) (by simp) ?_
            refine AllT.cons rfl (fun K' hK => ?_) AllT.nil
            have k3 := BP.out.frozen 3
            have kc := BP.out.cell 3
            go_simp
            have BP9 := hid (show Blk (World.setCell Z2 ⟨p, 3, none⟩ (.slice B4 (es.length + 1) b4)) p 58 #[.slice B1 (es.length + 1) b1, .slice B2 (es.length + 1) b2, .slice A3 es.length c3, .slice B4 (es.length + 1) b4] from BP.out.set_ 3 _)
            have J9 := hid (J.out.set 3 (.slice B4 (es.length + 1) b4))
            have KX9 := hid (KX.out.setCell (p := ⟨p, 3, none⟩) (.inl (.inl rfl)) (.slice B4 (es.length + 1) b4))
            generalize World.setCell Z2 ⟨p, 3, none⟩ (.slice B4 (es.length + 1) b4) = Z3 at BP9 J9 KX9 ⊢
            clear k3 kc BP J KX
            have BP := BP9
            have J := J9
            have KX := KX9
            clear BP9 J9 KX9
            refine hK.out _ _ (fun h => absurd h (by decide)) ?_
            clear hK
            refine wpAnyT_done (by as_aux_lemma => kernel_rfl) ?_ _
            go_wp2_with fail
            go_meet
            exact ⟨_, _, _, BP, J, KX, hid (own_new N1.out N2.out N4.out)⟩
      case rest =>
        obtain ⟨u1, u2, u4, q1, q2, q3, q4⟩ := hcut
        clear J BP TB KX NP1 NP2 NP4 y0 y1 y2 y3 z1 z2 fp0
        obtain ⟨q2', hq2⟩ : ∃ x, x = q2.out := ⟨_, rfl⟩
        clear q2' hq2
        have y2 := q1.out.four.2.2.1
        have yd2 := q1.out.drew.four.2.2.1
        have f2 := q1.out.frozen 2
        go_wp2_with fail
        go_region_law (first
          | (go_simp; go_at_call 52; (refine (ref_name es.length (by omega) _).mono ?_); rintro e w5 ⟨rfl, b5⟩; have b9 := dig_bb3 b5; have BP := hid (q1.out.below b9 q1.out.lt); have J := hid (q2.out.up b9); have KX := hid (Kept.after b9 q3.out); have y5 := BP.out.four.2.2.1; have yo5 := (fun o => (BP.out.alloc o).four.2.2.1); have f5 := BP.out.frozen 2; clear b5 b9 y2 yd2 f2)
          | (refine ap_n1 Tryd.underlying56 info_str rfl (by omega) (X := w5) (u := .string (nameB es.length)) (by with_reducible rfl) (by rfl) _ _ (by rfl) (B := p + 1) (v := .slice A3 es.length c3) (by rfl) J.out.r3 (by rfl) (by rfl) (by omega) (Nat.le_trans HPw.out KX.out.size) ?_; intro v7 w6 r1 r2 r3 r4 pd; obtain ⟨B3, e3, hv7, _⟩ := rowS r1; subst hv7; have J6 := hid (J.out.app3 r1 r2 r3); have NP3 := row_nes H.out.rows.r3; have BP6 := hid (r4 _ _ _ BP.out NP3.1); have N3 := hid (fun g e => (r3 g e).imp id (fun h9 => Nat.le_trans KX.out.size h9)); have KX6 := hid (KX.out.then r2 (fun _ _ e => e) (fun b _ e => .inr (.inr (.inr (.inl e))))); have y6 := BP6.out.four.2.2.1; have f6 := BP6.out.frozen 2; clear r1 r2 r3 r4 pd NP3))
        all_goals
          obtain ⟨W, hW⟩ : ∃ W, W = w6.setCell ⟨p, 2, none⟩ (.slice B3 (es.length + 1) e3) := ⟨_, rfl⟩
          have BW := hid (show Blk W p 58 #[u1, u2, .slice B3 (es.length + 1) e3, u4] by rw [hW]; exact BP6.out.set_ 2 _)
          have JW := hid (show RR W p u1 u2 (.slice B3 (es.length + 1) e3) u4 _ _ _ _ _ _ _ _ by rw [hW]; exact J6.out.set 2 _)
          have KW := hid (show Kept (fun b => b = p ∨ own4 (.slice A1 es.length c1) (.slice A2 es.length c2) (.slice A3 es.length c3) (.slice A4 es.length c4) b) w W by rw [hW]; exact KX6.out.setCell (p := ⟨p, 2, none⟩) (.inl (.inl rfl)) _)
          rw [← hW]
          clear hW J6 BP6 KX6 y5 yo5 f5 y6 f6 BP J KX q1 q2 q3
          have y2 := BW.out.four.2.2.1
          have hr := rowC JW.out.r3 (i := es.length) (by omega) (u := .string (nameB es.length)) (by rw [List.getElem?_append_right (by simp)]; simp)
          obtain ⟨d3, rfl, k3⟩ := hr
          have hi1 : (0 : Int) ≤ (es.length : Int) := by omega
          have hi2 : (es.length : Int) < (es.length + 1 : Nat) := by omega
          have hi3 : (es.length : Int) < (es.length : Int) + 1 := by omega
          have hi4 : IntKind.i64.wrap (es.length : Int) = (es.length : Int) := IntWalk.i64_in _ (by omega)
          have hi5 : (es.length : Int) + 1 - 1 = (es.length : Int) := by omega
          go_wp2_with fail
          go_quiet (fail)
          go_wp2_with fail
          go_ret
          exact get_new H.out (pos_none hn.out) HIS.out BW.out JW.out KW.out q4.out N3.out nq
end Go.Proofs.YtnlifgcnmhakiaaDoor
