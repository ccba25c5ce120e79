/-
  THE LAW EvalLet: bound by a let around, and by a function that is applied, a whole expression is evaluated to the same.
-/
import Derived.Test.YtohdaclbgedeiaaEGb
import Derived.Test.YtohdaclbgedeiaaEOpen
import Derived.Deep.Cut
import Derived.Deep.CutRange
import Derived.Deep.CutBlock
import Derived.Deep.DeepCutAuto
import Derived.Deep.RegionHeld3
namespace Go.Proofs.Ytohdaclbgedeiaa.evalLet
set_option linter.all false
open Go.ChangeShapes Go.WideShapes Go.ChangeAt Go.RowKit
open Ev (Co RunIs nodes goodB letT appT varT lamT let_law)
theorem ap_own {w : World} {B : Nat} {A : Option Addr} {n c : Nat} {l : List Int} (h : OwnI w B (.slice A (0 + n) c) ([] ++ l)) : OwnI w B (.slice A n c) l := by simpa using h
set_option maxHeartbeats 8000000 in
set_option maxRecDepth 100000 in
theorem out_of (w : World) {v : Value} {c : Co} (hv : CAt w (fun b => b < w.heap.size) c v) (l : List Int) (A : Option Addr) (cA : Nat) (fuel : Int) (hb : (50 : Int) < l.length ∨ ¬ (50 : Int) < l.length ∧ (fuel < 0 ∨ ¬ fuel < 0 ∧ 3000 < fuel)) : Calls Try.prog 4 #[v, .slice A l.length cA, .int .i64 fuel] w fun e w' => e = .returned (.bool true) ∧ Below w.heap.size w w' := by
  have HV := hid (And.intro hv trivial)
  obtain ⟨k, x, y, m, i, T, tl, tc, A2, l2, c2, rfl⟩ := hv.agg
  clear hv
  have KA := hid (GK.start0 w #[.int .i64 k, .int .i64 x, .int .i64 y, .int .i64 m, .bool i, .slice T tl tc, .slice A2 l2 c2])
  obtain ⟨x0, x1, x2, x3, x4, x5, x6⟩ := KA.out.bx.seven; have hl0 := KA.out.bx.lt
  rcases hb with h1 | ⟨h1, h2 | ⟨h2, h3⟩⟩
  all_goals
    go_enter Try.func4, Try.ntmps4
    go_wp2_with (first | (go_at_call 7; (refine (law21_Large c _ (fun b => b < w.heap.size) _ (HV.out.1.up KA.out.bl)).mono ?_); rintro e w1 ⟨⟨lb, rfl, hlb⟩, b1⟩; have KB := hid (KA.out.up b1); clear KA b1; clear x0 x1 x2 x3 x4 x5 x6 hl0; have HL := hid hlb; clear hlb; obtain ⟨x0, x1, x2, x3, x4, x5, x6⟩ := KB.out.bx.seven; have hl0 := KB.out.bx.lt) | (go_at_call 9; (refine (law21_wakes _).mono ?_); rintro e w9 ⟨rfl, b9⟩; have KZ := hid (KB.out.up b9)))
  all_goals go_ret
  all_goals exact ⟨rfl, KZ.out.bl⟩
set_option maxHeartbeats 100000000 in
set_option maxRecDepth 100000 in
theorem in_of (w : World) {v : Value} {c : Co} (hv : CAt w (fun b => b < w.heap.size) c v) (l : List Int) (A : Option Addr) (cA : Nat) (hI : IAt w (fun b => b < w.heap.size) l A cA) (fuel : Int) (h1 : ¬ (50 : Int) < l.length) (h2 : ¬ fuel < 0) (h3 : ¬ 3000 < fuel) : Calls Try.prog 4 #[v, .slice A l.length cA, .int .i64 fuel] w fun e w' => e = .returned (.bool true) ∧ Below w.heap.size w w' := by
  have HV := hid (And.intro hv hI)
  have HI := hid (iat_ints (B := w.heap.size) hI (fun _ h _ => h))
  have HS := hid (show l.length ≤ 50 ∧ 0 ≤ fuel ∧ fuel ≤ 3000 by omega)
  obtain ⟨N, M, hN, hM, hmk⟩ := mk_big
  have HN := hid (And.intro hN hM)
  obtain ⟨k, x, y, m, i, T, tl, tc, A2, l2, c2, rfl⟩ := hv.agg
  clear hv hI hN hM
  have KA := hid (GK.start0 w #[.int .i64 k, .int .i64 x, .int .i64 y, .int .i64 m, .bool i, .slice T tl tc, .slice A2 l2 c2])
  obtain ⟨x0, x1, x2, x3, x4, x5, x6⟩ := KA.out.bx.seven; have hl0 := KA.out.bx.lt
  go_enter Try.func4, Try.ntmps4
  go_upto_block 0 with (first
    | (go_at_call 7; (refine (law21_Large c _ (fun b => b < w.heap.size) _ (HV.out.1.up KA.out.bl)).mono ?_); rintro e w1 ⟨⟨lb, rfl, hlb⟩, b1⟩; have KB := hid (KA.out.up b1); clear KA b1; clear x0 x1 x2 x3 x4 x5 x6 hl0; have HL := hid hlb; clear hlb; obtain ⟨x0, x1, x2, x3, x4, x5, x6⟩ := KB.out.bx.seven; have hl0 := KB.out.bx.lt)
    | (go_at_call 8; (refine (law21_Steep c _ (fun b => b < w.heap.size) fuel _ (HV.out.1.up KB.out.bl)).mono ?_); rintro e w2 ⟨⟨sb, rfl⟩, b2⟩; have KC := hid (KB.out.up b2); clear KB b2; clear x0 x1 x2 x3 x4 x5 x6 hl0; obtain ⟨x0, x1, x2, x3, x4, x5, x6⟩ := KC.out.bx.seven; have hl0 := KC.out.bx.lt)
    | (go_at_call 14; (refine (ref20_Good c _ (fun b => b < w.heap.size) _ (HV.out.1.up KC.out.bl) (by have := (HL.out (Bool.eq_false_iff.2 (by assumption))).1; omega)).mono ?_); rintro e w3 ⟨⟨gb, rfl, hgb⟩, b3⟩; have KD := hid (KC.out.up b3); have HG := hid hgb; clear KC b3 hgb; clear x0 x1 x2 x3 x4 x5 x6 hl0; obtain ⟨x0, x1, x2, x3, x4, x5, x6⟩ := KD.out.bx.seven; have hl0 := KD.out.bx.lt)
    | (go_at_call 15; (refine (ref20_Size c _ (fun b => b < w.heap.size) _ (by have := (HL.out (Bool.eq_false_iff.2 (by assumption))).1; omega) (HV.out.1.up KD.out.bl)).mono ?_); rintro e w4 ⟨rfl, b4⟩; have KE := hid (KD.out.up b4); clear KD b4; clear x0 x1 x2 x3 x4 x5 x6 hl0; obtain ⟨x0, x1, x2, x3, x4, x5, x6⟩ := KE.out.bx.seven; have hl0 := KE.out.bx.lt)
    | (go_at_call 16; (refine (law21_binders _ c (Nat.le_refl _) _ (fun b => b < w.heap.size) w4.heap.size N (fun _ => 0) _ HN.out.1 (HV.out.1.up (KE.out.bl.alloc KE.out.bl.size _)) (fun b hb' => (by have := KE.out.bl.size; omega)) (brow_made HN.out.1 HN.out.2)).mono ?_); rintro e w5 ⟨rfl, hB5, hg5⟩; have KF := hid (KE.out.rowed hg5); have HB5 := hid hB5; clear hB5 hg5; clear x0 x1 x2 x3 x4 x5 x6 hl0; obtain ⟨x0, x1, x2, x3, x4, x5, x6⟩ := KF.out.bx.seven; have hl0 := KF.out.bx.lt)
    | (go_at_call 9; (refine (law21_wakes _).mono ?_); rintro e w9 ⟨rfl, b9⟩; have KZ := hid (KE.out.up b9))
    | (go_at_call 9; (refine (law21_wakes _).mono ?_); rintro e w9 ⟨rfl, b9⟩; have KZ := hid (KD.out.up b9))
    | (go_at_call 9; (refine (law21_wakes _).mono ?_); rintro e w9 ⟨rfl, b9⟩; have KZ := hid (KC.out.up b9))
    | (go_at_call 9; (refine (law21_wakes _).mono ?_); rintro e w9 ⟨rfl, b9⟩; have KZ := hid (KB.out.up b9)))
  all_goals first
    | (go_ret; exact ⟨rfl, KZ.out.bl⟩)
    | skip
  have HGB := hid (HG.out (by assumption))
  have HH := hid (HL.out (Bool.eq_false_iff.2 (by assumption)))
  clear HG HL KE h1 h2 h3
  go_cut [7] (fun s7 wx => ∃ tp : Int, s7 = .int .i64 tp ∧ Hid (0 ≤ tp ∧ tp < 65537) ∧ Hid (GK w #[.int .i64 k, .int .i64 x, .int .i64 y, .int .i64 m, .bool i, .slice T tl tc, .slice A2 l2 c2] wx))
  case first =>
    as_aux_lemma =>
      go_wp2_with fail
      go_loopg [7, 9] N (fun gg z7 z9 wr => ∃ (q : Nat) (tp : Int), q + gg = N + 1 ∧ z9 = .int .i64 q ∧ z7 = .int .i64 tp ∧ Hid (0 < q ∧ 0 ≤ tp ∧ tp < N) ∧ Hid (GK w #[.int .i64 k, .int .i64 x, .int .i64 y, .int .i64 m, .bool i, .slice T tl tc, .slice A2 l2 c2] wr ∧ ∃ f, BRow wr w4.heap.size f))
      case atStart => exact ⟨1, 0, by omega, rfl, rfl, hid ⟨by omega, by omega, by have := HN.out.1; omega⟩, hid ⟨KF.out, HB5.out⟩⟩
      case round =>
        clear KF HB5
        clear x0 x1 x2 x3 x4 x5 x6 hl0
        obtain ⟨q, tp, hq, rfl, rfl, HT, HK⟩ := hrel
        have Hq := hid hq
        have hN2 := HN.out.1
        by_cases hlt : q < N
        case neg =>
          have hlt' : ¬ (q : Int) < N := by omega
          clear hq hN2
          go_wp2
          go_meet
          exact ⟨tp, rfl, hid (by have := HT.out; have := HN.out.1; omega), hid HK.out.1⟩
        have hlt' : (q : Int) < N := by omega
        have hq0 : (0 : Int) ≤ (q : Int) := by omega
        have hiw : IntKind.i64.wrap ((q : Int) + 1) = q + 1 := IntWalk.i64_in _ (by omega)
        have hq65 : q < 65537 := by omega
        obtain ⟨f, hf⟩ := HK.out.2
        have c1 := hf.cell hq65
        obtain ⟨u, hu⟩ : ∃ u, f q = u := ⟨_, rfl⟩
        rw [hu] at c1
        have hl4 := hf.lt
        clear hq hN2 hf hu hq65
        by_cases htp : tp = 0
        case neg =>
          have htp2 : (tp == 0) = false := by simpa using htp
          go_wp2
          go_meet
          exact ⟨tp, rfl, hid (by have := HT.out; have := HN.out.1; omega), hid HK.out.1⟩
        subst htp
        by_cases hu0 : u = 0
        · subst hu0
          go_wp2
          have hgk := Hq.out
          go_roundg (gk - 1)
          case rel => exact ⟨q + 1, q, by omega, by go_num, rfl, hid ⟨by omega, by omega, by omega⟩, HK⟩
          case measure => omega
        · have hu2 : (u == 0) = false := by simpa using hu0
          go_wp2
          have hgk := Hq.out
          go_roundg (gk - 1)
          case rel => exact ⟨q + 1, 0, by omega, by go_num, rfl, hid ⟨by omega, by omega, by have := HT.out; omega⟩, HK⟩
          case measure => omega
  case rest =>
    clear KF HB5
    clear x0 x1 x2 x3 x4 x5 x6 hl0
    obtain ⟨tp, rfl, HTP, KF⟩ := hcut
    obtain ⟨wa, rfl⟩ : ∃ wa, wa = wc := ⟨_, rfl⟩
    have WTP := hid (wf_small (v := tp) (by have := HTP.out; omega))
    have VG := hid (Blk.new wa 25 #[.int .i64 1, .int .i64 tp, .int .i64 0, .int .i64 0, .bool false, .slice none 0 0, .slice none 0 0])
    have KG := hid (KF.out.up (al1 wa (.cells #[.int .i64 1, .int .i64 tp, .int .i64 0, .int .i64 0, .bool false, .slice none 0 0, .slice none 0 0] 25)))
    have HW := hid (show wa.heap.size < (wa.alloc (.cells #[.int .i64 1, .int .i64 tp, .int .i64 0, .int .i64 0, .bool false, .slice none 0 0, .slice none 0 0] 25)).heap.size by simp)
    obtain ⟨x0, x1, x2, x3, x4, x5, x6⟩ := KF.out.bx.seven; have hl0 := KF.out.bx.lt
    go_upto_region 13 with (first
      | (go_at_call 11; (refine (ref20_Copy _ c (Nat.le_refl _) HH.out.2 _ (fun b => b < w.heap.size) _ (HV.out.1.up KG.out.bl)).mono ?_); rintro e w6 ⟨⟨v9, rfl, hv9⟩, b9⟩; obtain ⟨k9, x9, y9, m9, i9, T9, tl9, tc9, A9, l9, c9, rfl⟩ := hv9.agg; have KH := hid (KG.out.up b9); have VH := hid (VG.out.below b9 HW.out); have CO := hid hv9.all; clear hv9 b9; clear x0 x1 x2 x3 x4 x5 x6 hl0; obtain ⟨x0, x1, x2, x3, x4, x5, x6⟩ := KH.out.bx.seven; have hl0 := KH.out.bx.lt)
      | (at_builtin; (refine wpList_appI (by rfl) _ _ (by rfl) w6.heap.size (by rfl) (OwnI.lit0 rfl (Nat.le_refl _)) (by rfl) (HI.out.below ((KH.out.bl).alloc KH.out.bl.size _) KH.out.bl.size) (by have := HS.out.1; simp; omega) (by simp) ?_); intro A5 c5 w7 o5 g5 b5; have AP := hid (ap_of o5 rfl b5); have KI := hid (KH.out.up AP.out.low); have VI := hid (VH.out.below AP.out.low VH.out.lt); have CO2 := hid (CO.out.up AP.out.low); clear o5 g5 b5; clear x0 x1 x2 x3 x4 x5 x6 hl0; obtain ⟨x0, x1, x2, x3, x4, x5, x6⟩ := KI.out.bx.seven; have hl0 := KI.out.bx.lt)
      | (go_at_call 10; (refine (eval_Run w7 c _ (fun _ => True) (fun b => w6.heap.size ≤ b) l A5 c5 fuel CO2.out (own_iat AP.out.own (by have := HS.out.1; omega)).2).mono ?_); rintro e w8 ⟨r, n1, A1, c1, A3, c3, hR, rfl, ho1, ho2, b8⟩; have HR1 := hid hR; have RO := hid (And.intro ho1 ho2); have KJ := hid (KI.out.up b8); have VJ := hid (VI.out.below b8 VI.out.lt); clear hR ho1 ho2 b8; clear x0 x1 x2 x3 x4 x5 x6 hl0; obtain ⟨x0, x1, x2, x3, x4, x5, x6⟩ := KJ.out.bx.seven; have hl0 := KJ.out.bx.lt))
    have RW := hid (RH.mk (Blk.new w8 31 #[.int .i64 r.1, .slice A1 r.2.1.length c1, .slice A3 r.2.2.1.length c3]) (own_ints RO.out.1 (al1 _ _)) (own_ints RO.out.2 (al1 _ _)))
    have KW := hid (KJ.out.up (al1 w8 (.cells #[.int .i64 r.1, .slice A1 r.2.1.length c1, .slice A3 r.2.2.1.length c3] 31)))
    have VW := hid (VJ.out.below (al1 w8 (.cells #[.int .i64 r.1, .slice A1 r.2.1.length c1, .slice A3 r.2.2.1.length c3] 31)) VJ.out.lt)
    clear x0 x1 x2 x3 x4 x5 x6 hl0
    clear KF VG KG HW KH VH CO AP KI VI CO2 RO KJ VJ
    obtain ⟨W9, hW9⟩ : ∃ W9, w8.alloc (.cells #[.int .i64 r.1, .slice A1 r.2.1.length c1, .slice A3 r.2.2.1.length c3] 31) = W9 := ⟨_, rfl⟩
    rw [hW9] at RW KW VW ⊢
    clear hW9
    go_cut [13] (fun s13 wx => ∃ gl gA : Nat, s13 = .pointer (some ⟨gl, 0, none⟩) ∧ Hid (GK w #[.int .i64 k, .int .i64 x, .int .i64 y, .int .i64 m, .bool i, .slice T tl tc, .slice A2 l2 c2] wx) ∧ Hid (Blk wx wa.heap.size 25 #[.int .i64 1, .int .i64 tp, .int .i64 0, .int .i64 0, .bool false, .slice none 0 0, .slice none 0 0]) ∧ Hid (RH wx w8.heap.size A1 c1 A3 c3 r) ∧ Hid (LB wx gl #[.int .i64 5, .int .i64 tp, .int .i64 0, .int .i64 0, .bool false, .slice none 0 0, .slice (some ⟨gA, 0, none⟩) 2 2] (letT tp c)))
    case first =>
      -- [[
      obtain ⟨x0, x1, x2, x3, x4, x5, x6⟩ := KW.out.bx.seven
      obtain ⟨y0, y1, y2, y3, y4, y5, y6⟩ := VW.out.seven
      have HNE := hid (show w.heap.size ≠ W9.heap.size ∧ wa.heap.size ≠ W9.heap.size from ⟨Nat.ne_of_lt KW.out.bx.lt, Nat.ne_of_lt VW.out.lt⟩)
      go_region_held3 (fun w' => ((w').cell? ⟨w.heap.size, 0, none⟩ = some (.int .i64 k) ∧ (w').cell? ⟨w.heap.size, 1, none⟩ = some (.int .i64 x) ∧ (w').cell? ⟨w.heap.size, 2, none⟩ = some (.int .i64 y) ∧ (w').cell? ⟨w.heap.size, 3, none⟩ = some (.int .i64 m) ∧ (w').cell? ⟨w.heap.size, 4, none⟩ = some (.bool i) ∧ (w').cell? ⟨w.heap.size, 5, none⟩ = some (.slice T tl tc) ∧ (w').cell? ⟨w.heap.size, 6, none⟩ = some (.slice A2 l2 c2)) ∧ ((w').cell? ⟨wa.heap.size, 0, none⟩ = some (.int .i64 1) ∧ (w').cell? ⟨wa.heap.size, 1, none⟩ = some (.int .i64 tp) ∧ (w').cell? ⟨wa.heap.size, 2, none⟩ = some (.int .i64 0) ∧ (w').cell? ⟨wa.heap.size, 3, none⟩ = some (.int .i64 0) ∧ (w').cell? ⟨wa.heap.size, 4, none⟩ = some (.bool false) ∧ (w').cell? ⟨wa.heap.size, 5, none⟩ = some (.slice none 0 0) ∧ (w').cell? ⟨wa.heap.size, 6, none⟩ = some (.slice none 0 0))) (first | with_reducible exact ⟨⟨x0, x1, x2, x3, x4, x5, x6⟩, ⟨y0, y1, y2, y3, y4, y5, y6⟩⟩ | with_reducible exact ⟨(set7_keep KX.out.bx HNE.out.1 _).seven, (set7_keep VX.out HNE.out.2 _).seven⟩ | go_keep) ((go_at_call 11; (first | (refine (ref20_Copy _ c (Nat.le_refl _) HH.out.2 _ (fun b => b < w.heap.size) W9.drew (HV.out.1.up (below_hop (dr1 W9) KW.out.bl))).mono ?_; rintro e w6 ⟨⟨v9, rfl, hv9⟩, b9⟩; have B9 := hid (below_hop b9 (dr1 W9))) | (refine (ref20_Copy _ c (Nat.le_refl _) HH.out.2 _ (fun b => b < w.heap.size) _ (HV.out.1.up (below_hop (al_drew W9 _) KW.out.bl))).mono ?_; rintro e w6 ⟨⟨v9, rfl, hv9⟩, b9⟩; have B9 := hid (below_hop b9 (al_drew W9 _)); have CS := hid (hv9.mono (T := fun b => b ≠ W9.heap.size) (fun b hb _ e => (by subst e; simp at hb; omega))); (have G9 : Hid (Blk w6 W9.heap.size 25 #[.int .i64 0, .int .i64 0, .int .i64 0, .int .i64 0, .bool false, .slice none 0 0, .slice none 0 0]) := hid ((Blk.new W9.drew 25 #[.int .i64 0, .int .i64 0, .int .i64 0, .int .i64 0, .bool false, .slice none 0 0, .slice none 0 0]).below b9 (by simp))); obtain ⟨o0, o1, o2, o3, o4, o5, o6⟩ := G9.out.seven; have g0 := G9.out.frozen 0; have g1 := G9.out.frozen 1; have g2 := G9.out.frozen 2; have g3 := G9.out.frozen 3; have g4 := G9.out.frozen 4; have g5 := G9.out.frozen 5; have g6 := G9.out.frozen 6; have g7 := G9.out.lt)); obtain ⟨k9, x9, y9, m9, i9, T9, tl9, tc9, A9, l9, c9, rfl⟩ := hv9.agg; have CO := hid hv9.all; have KX := hid (KW.out.up B9.out); have VX := hid (VW.out.below B9.out VW.out.lt); have RX := hid (RW.out.up B9.out); clear hv9 b9 x0 x1 x2 x3 x4 x5 x6 y0 y1 y2 y3 y4 y5 y6; obtain ⟨x0, x1, x2, x3, x4, x5, x6⟩ := KX.out.bx.seven; obtain ⟨y0, y1, y2, y3, y4, y5, y6⟩ := VX.out.seven))
      all_goals
        go_wp2_with fail
        go_meet
      · exact ⟨_, _, rfl, hid (KW.out.up (below_hop (al2 _ _ _) B9.out)), hid (VW.out.below (below_hop (al2 _ _ _) B9.out) VW.out.lt), hid (RW.out.up (below_hop (al2 _ _ _) B9.out)), hid (let_A WTP.out CO.out)⟩
      · exact ⟨_, _, rfl, hid (KW.out.up (below_hop (al2 _ _ _) B9.out)), hid (VW.out.below (below_hop (al2 _ _ _) B9.out) VW.out.lt), hid (RW.out.up (below_hop (al2 _ _ _) B9.out)), hid (let_B WTP.out CO.out)⟩
      · exact ⟨_, _, rfl, hid (KW.out.up (set7_low B9.out (Nat.le_refl _) _)), hid (VW.out.below (set7_low B9.out (Nat.le_refl _) _) VW.out.lt), hid (RW.out.up (set7_low B9.out (Nat.le_refl _) _)), hid (let_C WTP.out CO.out G9.out CS.out)⟩
      -- ]]
    case rest =>
      clear RW KW VW
      obtain ⟨gl, gA, rfl, KW, VW, RW, LW⟩ := hcut
      obtain ⟨wb, rfl⟩ : ∃ wb, wb = wc := ⟨_, rfl⟩
      go_upto_region 14 with fail
      go_cut [14, 15] (fun s14 s15 wx => ∃ (gs : Nat) (s : Int × List Int × List Int × Int) (n2 : Nat) (A6 : Option Addr) (c6 : Nat) (A7 : Option Addr) (c7 : Nat), s14 = .pointer (some ⟨gs, 0, none⟩) ∧ s15 = .int .i64 s.2.2.2 ∧ Hid (RunIs (letT tp c) l fuel s n2) ∧ Hid (GK w #[.int .i64 k, .int .i64 x, .int .i64 y, .int .i64 m, .bool i, .slice T tl tc, .slice A2 l2 c2] wx) ∧ Hid (Blk wx wa.heap.size 25 #[.int .i64 1, .int .i64 tp, .int .i64 0, .int .i64 0, .bool false, .slice none 0 0, .slice none 0 0]) ∧ Hid (RH wx w8.heap.size A1 c1 A3 c3 r) ∧ Hid (LB wx gl #[.int .i64 5, .int .i64 tp, .int .i64 0, .int .i64 0, .bool false, .slice none 0 0, .slice (some ⟨gA, 0, none⟩) 2 2] (letT tp c)) ∧ Hid (RH wx gs A6 c6 A7 c7 s))
      case first =>
        -- [[
        as_aux_lemma =>
          obtain ⟨x0, x1, x2, x3, x4, x5, x6⟩ := LW.out.bx.seven
          have HNE := hid (Nat.ne_of_lt LW.out.bx.lt)
          go_region_held3 (fun w' => ((w').cell? ⟨gl, 0, none⟩ = some (.int .i64 5) ∧ (w').cell? ⟨gl, 1, none⟩ = some (.int .i64 tp) ∧ (w').cell? ⟨gl, 2, none⟩ = some (.int .i64 0) ∧ (w').cell? ⟨gl, 3, none⟩ = some (.int .i64 0) ∧ (w').cell? ⟨gl, 4, none⟩ = some (.bool false) ∧ (w').cell? ⟨gl, 5, none⟩ = some (.slice none 0 0) ∧ (w').cell? ⟨gl, 6, none⟩ = some (.slice (some ⟨gA, 0, none⟩) 2 2))) (first | with_reducible exact ⟨x0, x1, x2, x3, x4, x5, x6⟩ | with_reducible exact (set3_keep LY.out.bx (by have := LW.out.bx.lt; have := B6.out.size; omega)).seven | go_keep) (first | first | (refine step_appI (by rfl) _ _ (by rfl) wb.heap.size (v := .slice (some ⟨wb.heap.size, 0, none⟩) 0 0) (xs := []) (by rfl) ?_ (A := A) (n := l.length) (c := cA) (Bi := w.heap.size) (ys := l) (by rfl) ?_ ?_ ?_ ?_; (· first | exact (OwnI.lit0 (by simp) (by simp)).drew | exact ((OwnI.lit0 (by simp) (by simp)).alloc _).drew); (· exact HI.out.below (below_hop ((al1 wb _).drew) KW.out.bl) (Nat.le_refl _)); (· have := HS.out.1; simp; omega); (· first | (simp; done) | (simp; omega)); intro A5 c5 u6 ho hg hbb; have O5 := hid (ap_own ho); have B6 := hid (hbb wb.heap.size wb (Nat.le_refl _) ((al1 wb _).drew)); skip; have LX := hid (LW.out.up B6.out); clear ho hg hbb x0 x1 x2 x3 x4 x5 x6; obtain ⟨x0, x1, x2, x3, x4, x5, x6⟩ := LX.out.bx.seven) | (refine step_appI (by rfl) _ _ (by rfl) wb.heap.size (v := .slice (some ⟨wb.heap.size + 1, 0, none⟩) 0 0) (xs := []) (by rfl) ?_ (A := A) (n := l.length) (c := cA) (Bi := w.heap.size) (ys := l) (by rfl) ?_ ?_ ?_ ?_; (· first | exact (OwnI.lit0 (by simp) (by simp)).drew | exact ((OwnI.lit0 (by simp) (by simp)).alloc _).drew); (· exact HI.out.below (below_hop ((al2 wb _ _).drew) KW.out.bl) (Nat.le_refl _)); (· have := HS.out.1; simp; omega); (· first | (simp; done) | (simp; omega)); intro A5 c5 u6 ho hg hbb; have O5 := hid (ap_own ho); have B6 := hid (hbb wb.heap.size wb (Nat.le_refl _) ((al2 wb _ _).drew)); have X0 := hid (((Blk.new wb 31 #[.int .i64 0, .slice none 0 0, .slice none 0 0]).alloc (.cells #[] 3)).drew.grown hg (by simp [Value.ownBlock])); have LX := hid (LW.out.up B6.out); clear ho hg hbb x0 x1 x2 x3 x4 x5 x6; obtain ⟨x0, x1, x2, x3, x4, x5, x6⟩ := LX.out.bx.seven) | (refine step_appI (by rfl) _ _ (by rfl) wb.heap.size (v := .slice (some ⟨wb.heap.size, 0, none⟩) 0 0) (xs := []) (by rfl) ?_ (A := A) (n := l.length) (c := cA) (Bi := w.heap.size) (ys := l) (by rfl) ?_ ?_ ?_ ?_; (· first | exact (OwnI.lit0 (by simp) (by simp)).drew | exact ((OwnI.lit0 (by simp) (by simp)).alloc _).drew); (· exact HI.out.below (below_hop ((al2 wb _ _).drew) KW.out.bl) (Nat.le_refl _)); (· have := HS.out.1; simp; omega); (· first | (simp; done) | (simp; omega)); intro A5 c5 u6 ho hg hbb; have O5 := hid (ap_own ho); have B6 := hid (hbb wb.heap.size wb (Nat.le_refl _) ((al2 wb _ _).drew)); have X0 := hid ((Blk.new' (g := wb.heap.size + 1) (w := wb.alloc (.cells #[] 3)) (by simp) 31 #[.int .i64 0, .slice none 0 0, .slice none 0 0]).drew.grown hg (by simp [Value.ownBlock])); have LX := hid (LW.out.up B6.out); clear ho hg hbb x0 x1 x2 x3 x4 x5 x6; obtain ⟨x0, x1, x2, x3, x4, x5, x6⟩ := LX.out.bx.seven) | (go_at_call 10; first | (have X1 := X0; (refine (eval_Run (u6) (letT tp c) _ (fun _ => True) (fun b => wb.heap.size ≤ b) l A5 c5 (fuel) (LX.out.ct) (own_iat (O5.out) (by have := HS.out.1; omega)).2).mono ?_); rintro e u8 ⟨s, n2, A6, c6, A7, c7, hR, rfl, ho1, ho2, b8⟩; have B8 := hid (below_hop b8 B6.out); have X2 := hid (X1.out.below b8 X1.out.lt); have XL := hid X1.out.lt; obtain ⟨q0, q1, q2⟩ := X2.out.three; have f0 := X2.out.frozen 0; have f1 := X2.out.frozen 1; have f2 := X2.out.frozen 2; have hl9 := X2.out.lt; clear b8 X0 X1; have RN := hid hR; have RO := hid (And.intro ho1 ho2); have LY := hid (LW.out.up B8.out); clear hR ho1 ho2 x0 x1 x2 x3 x4 x5 x6; obtain ⟨x0, x1, x2, x3, x4, x5, x6⟩ := LY.out.bx.seven) | (have _ := B6; (refine (eval_Run (u6) (letT tp c) _ (fun _ => True) (fun b => wb.heap.size ≤ b) l A5 c5 (fuel) (LX.out.ct) (own_iat (O5.out) (by have := HS.out.1; omega)).2).mono ?_); rintro e u8 ⟨s, n2, A6, c6, A7, c7, hR, rfl, ho1, ho2, b8⟩; have B8 := hid (below_hop b8 B6.out); clear b8; have RN := hid hR; have RO := hid (And.intro ho1 ho2); have LY := hid (LW.out.up B8.out); clear hR ho1 ho2 x0 x1 x2 x3 x4 x5 x6; obtain ⟨x0, x1, x2, x3, x4, x5, x6⟩ := LY.out.bx.seven) | (have X1 := hid (Blk.new u6 31 #[.int .i64 0, .slice none 0 0, .slice none 0 0]); (refine (eval_Run (u6.alloc (.cells #[.int .i64 0, .slice none 0 0, .slice none 0 0] 31)) (letT tp c) _ (fun _ => True) (fun b => wb.heap.size ≤ b) l A5 c5 (fuel) (LX.out.ct.up (al1 _ _)) (own_iat (O5.out.alloc _) (by have := HS.out.1; omega)).2).mono ?_); rintro e u8 ⟨s, n2, A6, c6, A7, c7, hR, rfl, ho1, ho2, b8⟩; have B8 := hid (below_hop b8 (below_hop (al1 _ _) B6.out)); have X2 := hid (X1.out.below b8 X1.out.lt); have XL := hid X1.out.lt; obtain ⟨q0, q1, q2⟩ := X2.out.three; have f0 := X2.out.frozen 0; have f1 := X2.out.frozen 1; have f2 := X2.out.frozen 2; have hl9 := X2.out.lt; clear b8 X1; have RN := hid hR; have RO := hid (And.intro ho1 ho2); have LY := hid (LW.out.up B8.out); clear hR ho1 ho2 x0 x1 x2 x3 x4 x5 x6; obtain ⟨x0, x1, x2, x3, x4, x5, x6⟩ := LY.out.bx.seven)))
          all_goals
            go_wp2_with fail
            go_meet
          all_goals first
            | with_reducible exact ⟨_, s, n2, A6, c6, A7, c7, rfl, rfl, RN, hid (KW.out.up (below_hop (al1 _ _) B8.out)), hid (VW.out.below (below_hop (al1 _ _) B8.out) VW.out.lt), hid (RW.out.up (below_hop (al1 _ _) B8.out)), hid (LW.out.up (below_hop (al1 _ _) B8.out)), hid (rh_new RO.out.1 RO.out.2)⟩
            | exact ⟨_, s, n2, A6, c6, A7, c7, rfl, rfl, RN, hid (KW.out.up (set3_low B8.out (by have := B6.out.size; omega))), hid (VW.out.below (set3_low B8.out (by have := B6.out.size; omega)) VW.out.lt), hid (RW.out.up (set3_low B8.out (by have := B6.out.size; omega))), hid (LW.out.up (set3_low B8.out (by have := B6.out.size; omega))), hid (rh_set X2.out RO.out.1 RO.out.2 XL.out)⟩
        -- ]]
      case rest =>
        clear KW VW RW LW
        obtain ⟨gs, s, n2, A6, c6, A7, c7, rfl, rfl, RN, KW, VW, RW, LL, SW⟩ := hcut
        obtain ⟨wd, rfl⟩ : ∃ wd, wd = wc := ⟨_, rfl⟩
        go_upto_region 15 with fail
        go_cut [16] (fun s16 wx => ∃ gm gB : Nat, s16 = .pointer (some ⟨gm, 0, none⟩) ∧ Hid (GK w #[.int .i64 k, .int .i64 x, .int .i64 y, .int .i64 m, .bool i, .slice T tl tc, .slice A2 l2 c2] wx) ∧ Hid (RH wx w8.heap.size A1 c1 A3 c3 r) ∧ Hid (LB wx gl #[.int .i64 5, .int .i64 tp, .int .i64 0, .int .i64 0, .bool false, .slice none 0 0, .slice (some ⟨gA, 0, none⟩) 2 2] (letT tp c)) ∧ Hid (RH wx gs A6 c6 A7 c7 s) ∧ Hid (LB wx gm #[.int .i64 4, .int .i64 0, .int .i64 0, .int .i64 0, .bool false, .slice none 0 0, .slice (some ⟨gB, 0, none⟩) 2 2] (appT tp c)))
        case first =>
          -- [[
          obtain ⟨x0, x1, x2, x3, x4, x5, x6⟩ := KW.out.bx.seven
          obtain ⟨y0, y1, y2, y3, y4, y5, y6⟩ := VW.out.seven
          have HNE := hid (show w.heap.size < wd.heap.size ∧ wa.heap.size < wd.heap.size from ⟨KW.out.bx.lt, VW.out.lt⟩)
          go_region_held3 (fun w' => ((w').cell? ⟨w.heap.size, 0, none⟩ = some (.int .i64 k) ∧ (w').cell? ⟨w.heap.size, 1, none⟩ = some (.int .i64 x) ∧ (w').cell? ⟨w.heap.size, 2, none⟩ = some (.int .i64 y) ∧ (w').cell? ⟨w.heap.size, 3, none⟩ = some (.int .i64 m) ∧ (w').cell? ⟨w.heap.size, 4, none⟩ = some (.bool i) ∧ (w').cell? ⟨w.heap.size, 5, none⟩ = some (.slice T tl tc) ∧ (w').cell? ⟨w.heap.size, 6, none⟩ = some (.slice A2 l2 c2)) ∧ ((w').cell? ⟨wa.heap.size, 0, none⟩ = some (.int .i64 1) ∧ (w').cell? ⟨wa.heap.size, 1, none⟩ = some (.int .i64 tp) ∧ (w').cell? ⟨wa.heap.size, 2, none⟩ = some (.int .i64 0) ∧ (w').cell? ⟨wa.heap.size, 3, none⟩ = some (.int .i64 0) ∧ (w').cell? ⟨wa.heap.size, 4, none⟩ = some (.bool false) ∧ (w').cell? ⟨wa.heap.size, 5, none⟩ = some (.slice none 0 0) ∧ (w').cell? ⟨wa.heap.size, 6, none⟩ = some (.slice none 0 0))) (first | with_reducible exact ⟨⟨x0, x1, x2, x3, x4, x5, x6⟩, ⟨y0, y1, y2, y3, y4, y5, y6⟩⟩ | with_reducible exact ⟨(set7_keep KX.out.bx (by have := HNE.out.1; omega) _).seven, (set7_keep VX.out (by have := HNE.out.2; omega) _).seven⟩ | with_reducible exact ⟨(((KX.out.bx.alloc _).alloc _).alloc _).seven, (((VX.out.alloc _).alloc _).alloc _).seven⟩ | with_reducible exact ⟨(set7_keep2 KX.out.bx (by have := HNE.out.1; omega) _ _).seven, (set7_keep2 VX.out (by have := HNE.out.2; omega) _ _).seven⟩ | go_keep) ((go_at_call 11; (first | (refine (ref20_Copy _ c (Nat.le_refl _) HH.out.2 _ (fun b => b < w.heap.size) (wd.drew) (HV.out.1.up (below_hop (dr1 wd) KW.out.bl))).mono ?_; rintro e u6 ⟨⟨v9, rfl, hv9⟩, b9⟩; have B9 := hid (below_hop b9 (dr1 wd))) | (refine (ref20_Copy _ c (Nat.le_refl _) HH.out.2 _ (fun b => b < w.heap.size) ((wd.alloc (.cells #[.int .i64 1, .int .i64 tp, .int .i64 0, .int .i64 0, .bool false, .slice none 0 0, .slice none 0 0] 25)).drew) (HV.out.1.up (below_hop ((al1 wd (.cells #[.int .i64 1, .int .i64 tp, .int .i64 0, .int .i64 0, .bool false, .slice none 0 0, .slice none 0 0] 25)).drew) KW.out.bl))).mono ?_; rintro e u6 ⟨⟨v9, rfl, hv9⟩, b9⟩; have B9 := hid (below_hop b9 ((al1 wd (.cells #[.int .i64 1, .int .i64 tp, .int .i64 0, .int .i64 0, .bool false, .slice none 0 0, .slice none 0 0] 25)).drew)); have PV := hid ((((Blk.new wd 25 #[.int .i64 1, .int .i64 tp, .int .i64 0, .int .i64 0, .bool false, .slice none 0 0, .slice none 0 0]).drew)).below b9 (by first | (simp; done) | (simp; omega)))) | (refine (ref20_Copy _ c (Nat.le_refl _) HH.out.2 _ (fun b => b < w.heap.size) ((wd.alloc (.cells #[.int .i64 0, .int .i64 0, .int .i64 0, .int .i64 0, .bool false, .slice none 0 0, .slice none 0 0] 25)).drew) (HV.out.1.up (below_hop ((al1 wd (.cells #[.int .i64 0, .int .i64 0, .int .i64 0, .int .i64 0, .bool false, .slice none 0 0, .slice none 0 0] 25)).drew) KW.out.bl))).mono ?_; rintro e u6 ⟨⟨v9, rfl, hv9⟩, b9⟩; have B9 := hid (below_hop b9 ((al1 wd (.cells #[.int .i64 0, .int .i64 0, .int .i64 0, .int .i64 0, .bool false, .slice none 0 0, .slice none 0 0] 25)).drew)); (have G9 := hid (((Blk.new wd 25 #[.int .i64 0, .int .i64 0, .int .i64 0, .int .i64 0, .bool false, .slice none 0 0, .slice none 0 0]).drew).below b9 (by first | (simp; done) | (simp; omega)))); have CS := hid (hv9.mono (T := fun b => b ≠ wd.heap.size) (fun b hb _ e => (by subst e; simp at hb; omega))); obtain ⟨o0, o1, o2, o3, o4, o5, o6⟩ := G9.out.seven; have g0 := G9.out.frozen 0; have g1 := G9.out.frozen 1; have g2 := G9.out.frozen 2; have g3 := G9.out.frozen 3; have g4 := G9.out.frozen 4; have g5 := G9.out.frozen 5; have g6 := G9.out.frozen 6; have g7 := G9.out.lt) | (refine (ref20_Copy _ c (Nat.le_refl _) HH.out.2 _ (fun b => b < w.heap.size) (((wd.alloc (.cells #[.int .i64 1, .int .i64 tp, .int .i64 0, .int .i64 0, .bool false, .slice none 0 0, .slice none 0 0] 25)).alloc (.cells #[.int .i64 0, .int .i64 0, .int .i64 0, .int .i64 0, .bool false, .slice none 0 0, .slice none 0 0] 25)).drew) (HV.out.1.up (below_hop ((al2 wd (.cells #[.int .i64 1, .int .i64 tp, .int .i64 0, .int .i64 0, .bool false, .slice none 0 0, .slice none 0 0] 25) (.cells #[.int .i64 0, .int .i64 0, .int .i64 0, .int .i64 0, .bool false, .slice none 0 0, .slice none 0 0] 25)).drew) KW.out.bl))).mono ?_; rintro e u6 ⟨⟨v9, rfl, hv9⟩, b9⟩; have B9 := hid (below_hop b9 ((al2 wd (.cells #[.int .i64 1, .int .i64 tp, .int .i64 0, .int .i64 0, .bool false, .slice none 0 0, .slice none 0 0] 25) (.cells #[.int .i64 0, .int .i64 0, .int .i64 0, .int .i64 0, .bool false, .slice none 0 0, .slice none 0 0] 25)).drew)); have PV := hid (((((Blk.new wd 25 #[.int .i64 1, .int .i64 tp, .int .i64 0, .int .i64 0, .bool false, .slice none 0 0, .slice none 0 0]).alloc _).drew)).below b9 (by first | (simp; done) | (simp; omega))); (have G9 := hid (((Blk.new' (g := wd.heap.size + 1) (w := wd.alloc (.cells #[.int .i64 1, .int .i64 tp, .int .i64 0, .int .i64 0, .bool false, .slice none 0 0, .slice none 0 0] 25)) (by simp) 25 #[.int .i64 0, .int .i64 0, .int .i64 0, .int .i64 0, .bool false, .slice none 0 0, .slice none 0 0]).drew).below b9 (by first | (simp; done) | (simp; omega)))); have CS := hid (hv9.mono (T := fun b => b ≠ (wd.heap.size + 1)) (fun b hb _ e => (by subst e; simp at hb; omega))); obtain ⟨o0, o1, o2, o3, o4, o5, o6⟩ := G9.out.seven; have g0 := G9.out.frozen 0; have g1 := G9.out.frozen 1; have g2 := G9.out.frozen 2; have g3 := G9.out.frozen 3; have g4 := G9.out.frozen 4; have g5 := G9.out.frozen 5; have g6 := G9.out.frozen 6; have g7 := G9.out.lt) | (refine (ref20_Copy _ c (Nat.le_refl _) HH.out.2 _ (fun b => b < w.heap.size) (((wd.alloc (.cells #[.int .i64 0, .int .i64 0, .int .i64 0, .int .i64 0, .bool false, .slice none 0 0, .slice none 0 0] 25)).alloc (.cells #[.int .i64 1, .int .i64 tp, .int .i64 0, .int .i64 0, .bool false, .slice none 0 0, .slice none 0 0] 25)).drew) (HV.out.1.up (below_hop ((al2 wd (.cells #[.int .i64 0, .int .i64 0, .int .i64 0, .int .i64 0, .bool false, .slice none 0 0, .slice none 0 0] 25) (.cells #[.int .i64 1, .int .i64 tp, .int .i64 0, .int .i64 0, .bool false, .slice none 0 0, .slice none 0 0] 25)).drew) KW.out.bl))).mono ?_; rintro e u6 ⟨⟨v9, rfl, hv9⟩, b9⟩; have B9 := hid (below_hop b9 ((al2 wd (.cells #[.int .i64 0, .int .i64 0, .int .i64 0, .int .i64 0, .bool false, .slice none 0 0, .slice none 0 0] 25) (.cells #[.int .i64 1, .int .i64 tp, .int .i64 0, .int .i64 0, .bool false, .slice none 0 0, .slice none 0 0] 25)).drew)); have PV := hid ((((Blk.new' (g := wd.heap.size + 1) (w := wd.alloc (.cells #[.int .i64 0, .int .i64 0, .int .i64 0, .int .i64 0, .bool false, .slice none 0 0, .slice none 0 0] 25)) (by simp) 25 #[.int .i64 1, .int .i64 tp, .int .i64 0, .int .i64 0, .bool false, .slice none 0 0, .slice none 0 0]).drew)).below b9 (by first | (simp; done) | (simp; omega))); (have G9 := hid ((((Blk.new wd 25 #[.int .i64 0, .int .i64 0, .int .i64 0, .int .i64 0, .bool false, .slice none 0 0, .slice none 0 0]).alloc _).drew).below b9 (by first | (simp; done) | (simp; omega)))); have CS := hid (hv9.mono (T := fun b => b ≠ wd.heap.size) (fun b hb _ e => (by subst e; simp at hb; omega))); obtain ⟨o0, o1, o2, o3, o4, o5, o6⟩ := G9.out.seven; have g0 := G9.out.frozen 0; have g1 := G9.out.frozen 1; have g2 := G9.out.frozen 2; have g3 := G9.out.frozen 3; have g4 := G9.out.frozen 4; have g5 := G9.out.frozen 5; have g6 := G9.out.frozen 6; have g7 := G9.out.lt)); obtain ⟨k9, x9, y9, m9, i9, T9, tl9, tc9, A9, l9, c9, rfl⟩ := hv9.agg; have CO := hid hv9.all; have KX := hid (KW.out.up B9.out); have VX := hid (VW.out.below B9.out VW.out.lt); clear hv9 b9 x0 x1 x2 x3 x4 x5 x6 y0 y1 y2 y3 y4 y5 y6; obtain ⟨x0, x1, x2, x3, x4, x5, x6⟩ := KX.out.bx.seven; obtain ⟨y0, y1, y2, y3, y4, y5, y6⟩ := VX.out.seven))
          all_goals
            go_wp2_with fail
            go_meet
          · exact ⟨_, _, rfl, hid (KW.out.up (below_hop (al2 _ _ _) B9.out)), hid (RW.out.up (below_hop (al2 _ _ _) B9.out)), hid (LL.out.up (below_hop (al2 _ _ _) B9.out)), hid (SW.out.up (below_hop (al2 _ _ _) B9.out)), hid (app_a WTP.out CO.out PV.out)⟩
          · exact ⟨_, _, rfl, hid (KW.out.up (below_hop (al2 _ _ _) B9.out)), hid (RW.out.up (below_hop (al2 _ _ _) B9.out)), hid (LL.out.up (below_hop (al2 _ _ _) B9.out)), hid (SW.out.up (below_hop (al2 _ _ _) B9.out)), hid (app_b WTP.out CO.out PV.out)⟩
          · exact ⟨_, _, rfl, hid (KW.out.up (set7_low B9.out (by omega) _)), hid (RW.out.up (set7_low B9.out (by omega) _)), hid (LL.out.up (set7_low B9.out (by omega) _)), hid (SW.out.up (set7_low B9.out (by omega) _)), hid (app_c WTP.out PV.out G9.out CS.out (by omega))⟩
          · exact ⟨_, _, rfl, hid (KW.out.up (below_hop (alc3 _ _ _ _) B9.out)), hid (RW.out.up (below_hop (alc3 _ _ _ _) B9.out)), hid (LL.out.up (below_hop (alc3 _ _ _ _) B9.out)), hid (SW.out.up (below_hop (alc3 _ _ _ _) B9.out)), hid (app_e WTP.out CO.out)⟩
          · exact ⟨_, _, rfl, hid (KW.out.up (below_hop (alc3 _ _ _ _) B9.out)), hid (RW.out.up (below_hop (alc3 _ _ _ _) B9.out)), hid (LL.out.up (below_hop (alc3 _ _ _ _) B9.out)), hid (SW.out.up (below_hop (alc3 _ _ _ _) B9.out)), hid (app_f WTP.out CO.out)⟩
          · exact ⟨_, _, rfl, hid (KW.out.up (below_hop (alc3 _ _ _ _) B9.out)), hid (RW.out.up (below_hop (alc3 _ _ _ _) B9.out)), hid (LL.out.up (below_hop (alc3 _ _ _ _) B9.out)), hid (SW.out.up (below_hop (alc3 _ _ _ _) B9.out)), hid (app_g WTP.out CO.out)⟩
          · exact ⟨_, _, rfl, hid (KW.out.up (set7_low B9.out (by omega) _)), hid (RW.out.up (set7_low B9.out (by omega) _)), hid (LL.out.up (set7_low B9.out (by omega) _)), hid (SW.out.up (set7_low B9.out (by omega) _)), hid (app_c WTP.out PV.out G9.out CS.out (by omega))⟩
          · exact ⟨_, _, rfl, hid (KW.out.up (set7_low2 B9.out (by omega) _ _)), hid (RW.out.up (set7_low2 B9.out (by omega) _ _)), hid (LL.out.up (set7_low2 B9.out (by omega) _ _)), hid (SW.out.up (set7_low2 B9.out (by omega) _ _)), hid (app_h WTP.out G9.out CS.out)⟩
          -- ]]
        case rest =>
          clear KW VW RW LL SW
          obtain ⟨gm, gB, rfl, KW, RW, LL, SW, LW⟩ := hcut
          obtain ⟨wb, rfl⟩ : ∃ wb, wb = wc := ⟨_, rfl⟩
          have hfw : IntKind.i64.wrap (fuel + 1) = fuel + 1 := IntWalk.i64_in _ (by have := HS.out; omega)
          go_upto_region 16 with fail
          go_cut [17, 18] (fun s17 s18 wx => ∃ (gt : Nat) (t : Int × List Int × List Int × Int) (n3 : Nat) (A8 : Option Addr) (c8 : Nat) (A9 : Option Addr) (c9 : Nat), s17 = .pointer (some ⟨gt, 0, none⟩) ∧ s18 = .int .i64 t.2.2.2 ∧ Hid (RunIs (appT tp c) l (fuel + 1) t n3) ∧ Hid (GK w #[.int .i64 k, .int .i64 x, .int .i64 y, .int .i64 m, .bool i, .slice T tl tc, .slice A2 l2 c2] wx) ∧ Hid (RH wx w8.heap.size A1 c1 A3 c3 r) ∧ Hid (LB wx gl #[.int .i64 5, .int .i64 tp, .int .i64 0, .int .i64 0, .bool false, .slice none 0 0, .slice (some ⟨gA, 0, none⟩) 2 2] (letT tp c)) ∧ Hid (RH wx gs A6 c6 A7 c7 s) ∧ Hid (LB wx gm #[.int .i64 4, .int .i64 0, .int .i64 0, .int .i64 0, .bool false, .slice none 0 0, .slice (some ⟨gB, 0, none⟩) 2 2] (appT tp c)) ∧ Hid (RH wx gt A8 c8 A9 c9 t))
          case first =>
            -- [[
            as_aux_lemma =>
              obtain ⟨x0, x1, x2, x3, x4, x5, x6⟩ := LW.out.bx.seven
              go_region_held3 (fun w' => ((w').cell? ⟨gm, 0, none⟩ = some (.int .i64 4) ∧ (w').cell? ⟨gm, 1, none⟩ = some (.int .i64 0) ∧ (w').cell? ⟨gm, 2, none⟩ = some (.int .i64 0) ∧ (w').cell? ⟨gm, 3, none⟩ = some (.int .i64 0) ∧ (w').cell? ⟨gm, 4, none⟩ = some (.bool false) ∧ (w').cell? ⟨gm, 5, none⟩ = some (.slice none 0 0) ∧ (w').cell? ⟨gm, 6, none⟩ = some (.slice (some ⟨gB, 0, none⟩) 2 2))) (first | with_reducible exact ⟨x0, x1, x2, x3, x4, x5, x6⟩ | with_reducible exact (set3_keep LY.out.bx (by have := LW.out.bx.lt; have := B6.out.size; omega)).seven | go_keep) (first | first | (refine step_appI (by rfl) _ _ (by rfl) wb.heap.size (v := .slice (some ⟨wb.heap.size, 0, none⟩) 0 0) (xs := []) (by rfl) ?_ (A := A) (n := l.length) (c := cA) (Bi := w.heap.size) (ys := l) (by rfl) ?_ ?_ ?_ ?_; (· first | exact (OwnI.lit0 (by simp) (by simp)).drew | exact ((OwnI.lit0 (by simp) (by simp)).alloc _).drew); (· exact HI.out.below (below_hop ((al1 wb _).drew) KW.out.bl) (Nat.le_refl _)); (· have := HS.out.1; simp; omega); (· first | (simp; done) | (simp; omega)); intro A5 c5 u6 ho hg hbb; have O5 := hid (ap_own ho); have B6 := hid (hbb wb.heap.size wb (Nat.le_refl _) ((al1 wb _).drew)); skip; have LX := hid (LW.out.up B6.out); clear ho hg hbb x0 x1 x2 x3 x4 x5 x6; obtain ⟨x0, x1, x2, x3, x4, x5, x6⟩ := LX.out.bx.seven) | (refine step_appI (by rfl) _ _ (by rfl) wb.heap.size (v := .slice (some ⟨wb.heap.size + 1, 0, none⟩) 0 0) (xs := []) (by rfl) ?_ (A := A) (n := l.length) (c := cA) (Bi := w.heap.size) (ys := l) (by rfl) ?_ ?_ ?_ ?_; (· first | exact (OwnI.lit0 (by simp) (by simp)).drew | exact ((OwnI.lit0 (by simp) (by simp)).alloc _).drew); (· exact HI.out.below (below_hop ((al2 wb _ _).drew) KW.out.bl) (Nat.le_refl _)); (· have := HS.out.1; simp; omega); (· first | (simp; done) | (simp; omega)); intro A5 c5 u6 ho hg hbb; have O5 := hid (ap_own ho); have B6 := hid (hbb wb.heap.size wb (Nat.le_refl _) ((al2 wb _ _).drew)); have X0 := hid (((Blk.new wb 31 #[.int .i64 0, .slice none 0 0, .slice none 0 0]).alloc (.cells #[] 3)).drew.grown hg (by simp [Value.ownBlock])); have LX := hid (LW.out.up B6.out); clear ho hg hbb x0 x1 x2 x3 x4 x5 x6; obtain ⟨x0, x1, x2, x3, x4, x5, x6⟩ := LX.out.bx.seven) | (refine step_appI (by rfl) _ _ (by rfl) wb.heap.size (v := .slice (some ⟨wb.heap.size, 0, none⟩) 0 0) (xs := []) (by rfl) ?_ (A := A) (n := l.length) (c := cA) (Bi := w.heap.size) (ys := l) (by rfl) ?_ ?_ ?_ ?_; (· first | exact (OwnI.lit0 (by simp) (by simp)).drew | exact ((OwnI.lit0 (by simp) (by simp)).alloc _).drew); (· exact HI.out.below (below_hop ((al2 wb _ _).drew) KW.out.bl) (Nat.le_refl _)); (· have := HS.out.1; simp; omega); (· first | (simp; done) | (simp; omega)); intro A5 c5 u6 ho hg hbb; have O5 := hid (ap_own ho); have B6 := hid (hbb wb.heap.size wb (Nat.le_refl _) ((al2 wb _ _).drew)); have X0 := hid ((Blk.new' (g := wb.heap.size + 1) (w := wb.alloc (.cells #[] 3)) (by simp) 31 #[.int .i64 0, .slice none 0 0, .slice none 0 0]).drew.grown hg (by simp [Value.ownBlock])); have LX := hid (LW.out.up B6.out); clear ho hg hbb x0 x1 x2 x3 x4 x5 x6; obtain ⟨x0, x1, x2, x3, x4, x5, x6⟩ := LX.out.bx.seven) | (go_at_call 10; first | (have X1 := X0; (refine (eval_Run (u6) (appT tp c) _ (fun _ => True) (fun b => wb.heap.size ≤ b) l A5 c5 (fuel + 1) (LX.out.ct) (own_iat (O5.out) (by have := HS.out.1; omega)).2).mono ?_); rintro e u8 ⟨s, n2, A6, c6, A7, c7, hR, rfl, ho1, ho2, b8⟩; have B8 := hid (below_hop b8 B6.out); have X2 := hid (X1.out.below b8 X1.out.lt); have XL := hid X1.out.lt; obtain ⟨q0, q1, q2⟩ := X2.out.three; have f0 := X2.out.frozen 0; have f1 := X2.out.frozen 1; have f2 := X2.out.frozen 2; have hl9 := X2.out.lt; clear b8 X0 X1; have RN := hid hR; have RO := hid (And.intro ho1 ho2); have LY := hid (LW.out.up B8.out); clear hR ho1 ho2 x0 x1 x2 x3 x4 x5 x6; obtain ⟨x0, x1, x2, x3, x4, x5, x6⟩ := LY.out.bx.seven) | (have _ := B6; (refine (eval_Run (u6) (appT tp c) _ (fun _ => True) (fun b => wb.heap.size ≤ b) l A5 c5 (fuel + 1) (LX.out.ct) (own_iat (O5.out) (by have := HS.out.1; omega)).2).mono ?_); rintro e u8 ⟨s, n2, A6, c6, A7, c7, hR, rfl, ho1, ho2, b8⟩; have B8 := hid (below_hop b8 B6.out); clear b8; have RN := hid hR; have RO := hid (And.intro ho1 ho2); have LY := hid (LW.out.up B8.out); clear hR ho1 ho2 x0 x1 x2 x3 x4 x5 x6; obtain ⟨x0, x1, x2, x3, x4, x5, x6⟩ := LY.out.bx.seven) | (have X1 := hid (Blk.new u6 31 #[.int .i64 0, .slice none 0 0, .slice none 0 0]); (refine (eval_Run (u6.alloc (.cells #[.int .i64 0, .slice none 0 0, .slice none 0 0] 31)) (appT tp c) _ (fun _ => True) (fun b => wb.heap.size ≤ b) l A5 c5 (fuel + 1) (LX.out.ct.up (al1 _ _)) (own_iat (O5.out.alloc _) (by have := HS.out.1; omega)).2).mono ?_); rintro e u8 ⟨s, n2, A6, c6, A7, c7, hR, rfl, ho1, ho2, b8⟩; have B8 := hid (below_hop b8 (below_hop (al1 _ _) B6.out)); have X2 := hid (X1.out.below b8 X1.out.lt); have XL := hid X1.out.lt; obtain ⟨q0, q1, q2⟩ := X2.out.three; have f0 := X2.out.frozen 0; have f1 := X2.out.frozen 1; have f2 := X2.out.frozen 2; have hl9 := X2.out.lt; clear b8 X1; have RN := hid hR; have RO := hid (And.intro ho1 ho2); have LY := hid (LW.out.up B8.out); clear hR ho1 ho2 x0 x1 x2 x3 x4 x5 x6; obtain ⟨x0, x1, x2, x3, x4, x5, x6⟩ := LY.out.bx.seven)))
              all_goals
                go_wp2_with fail
                go_meet
              all_goals first
                | with_reducible exact ⟨_, s, n2, A6, c6, A7, c7, rfl, rfl, RN, hid (KW.out.up (below_hop (al1 _ _) B8.out)), hid (RW.out.up (below_hop (al1 _ _) B8.out)), hid (LL.out.up (below_hop (al1 _ _) B8.out)), hid (SW.out.up (below_hop (al1 _ _) B8.out)), hid (LW.out.up (below_hop (al1 _ _) B8.out)), hid (rh_new RO.out.1 RO.out.2)⟩
                | exact ⟨_, s, n2, A6, c6, A7, c7, rfl, rfl, RN, hid (KW.out.up (set3_low B8.out (by have := B6.out.size; omega))), hid (RW.out.up (set3_low B8.out (by have := B6.out.size; omega))), hid (LL.out.up (set3_low B8.out (by have := B6.out.size; omega))), hid (SW.out.up (set3_low B8.out (by have := B6.out.size; omega))), hid (LW.out.up (set3_low B8.out (by have := B6.out.size; omega))), hid (rh_set X2.out RO.out.1 RO.out.2 XL.out)⟩
            -- ]]
          case rest =>
            as_aux_lemma =>
              clear KW RW LL SW LW
              obtain ⟨gt, t, n3, A8, c8, A9, c9, rfl, rfl, TN, KW, RW, LL, SW, LW, TW⟩ := hcut
              obtain ⟨we, rfl⟩ : ∃ we, we = wc := ⟨_, rfl⟩
              clear hfw
              have hn1 := hid (show nodes (letT tp c) ≤ 65536 by have := HH.out.1; rw [nodes_let]; omega)
              have hn2 := hid (show nodes (appT tp c) ≤ 65536 by have := HH.out.1; rw [nodes_app]; omega)
              obtain ⟨x0, x1, x2, x3, x4, x5, x6⟩ := LL.out.bx.seven; have hl0 := LL.out.bx.lt
              go_upto_region 19 with (first
                | (go_at_call 14; (refine (ref20_Good (appT tp c) _ (fun _ => True) wf LX.out.ct hn2.out).mono ?_); rintro e wg ⟨⟨q2, rfl, hq2⟩, b1⟩; have HQ2 := hid hq2; have KY := hid (KX.out.up b1); have RY := hid (RX.out.up b1); have SY := hid (SX.out.up b1); have TY := hid (TX.out.up b1); clear hq2 b1; clear x0 x1 x2 x3 x4 x5 x6 hl0)
                | (go_at_call 14; (refine (ref20_Good (letT tp c) _ (fun _ => True) we LL.out.ct hn1.out).mono ?_); rintro e wf ⟨⟨q1, rfl, hq1⟩, b1⟩; have HQ1 := hid hq1; have KX := hid (KW.out.up b1); have RX := hid (RW.out.up b1); have SX := hid (SW.out.up b1); have TX := hid (TW.out.up b1); have LX := hid (LW.out.up b1); clear hq1 b1; clear x0 x1 x2 x3 x4 x5 x6 hl0; obtain ⟨x0, x1, x2, x3, x4, x5, x6⟩ := LX.out.bx.seven; have hl0 := LX.out.bx.lt)
                | (go_at_call 9; (refine (law21_wakes _).mono ?_); rintro e w9 ⟨rfl, b9⟩; have KZ := hid (KY.out.up b9))
                | (go_at_call 9; (refine (law21_wakes _).mono ?_); rintro e w9 ⟨rfl, b9⟩; have KZ := hid (KX.out.up b9)))
              all_goals first
                | (go_ret; exact ⟨rfl, KZ.out.bl⟩)
                | skip
              have hq2 : q2 = true := by simpa using (by assumption : (!q2) = false)
              obtain ⟨hrs, hrt⟩ := let_law HGB.out (HQ1.out (by assumption)) (HQ2.out hq2) (by have := HS.out.1; omega) HS.out.2.1 HS.out.2.2 HR1.out RN.out TN.out
              subst hrs
              clear HR1 RN TN HQ1 HQ2 KW RW SW TW LL LW KX RX SX TX LX
              have hp : r = t ∨ t.2.2.2 ≠ 0 ∨ r.2.1 <+: t.2.1 := hrt.imp id (fun h => h.2.2)
              have hn : ¬ (r.2.2.2 = 0 ∧ r.1 = 3) → r = t := fun h => hrt.resolve_right (fun h2 => h ⟨h2.2.1, h2.1⟩)
              clear hrt
              obtain ⟨e1, W1, S1, r1⟩ := r
              obtain ⟨g0, g1, g2⟩ := RY.out.bx.three
              obtain ⟨p0, p1, p2⟩ := SY.out.bx.three
              have hlg := RY.out.bx.lt
              have hlp := SY.out.bx.lt
              have hlt := TY.out.bx.lt
              by_cases hc : r1 = 0 ∧ e1 = 3
              · obtain ⟨rfl, rfl⟩ := hc
                obtain ⟨e3, W3, S3, r3⟩ := t
                obtain ⟨t0, t1, t2⟩ := TY.out.bx.three
                have hp2 : r3 ≠ 0 ∨ W1 <+: W3 := by
                  rcases hp with h | h
                  · simp only [Prod.mk.injEq] at h
                    exact .inr (by rw [h.2.1]; exact List.prefix_refl _)
                  · exact h
                clear hp hn
                dsimp only at g0 g1 g2 p0 p1 p2 t0 t1 t2 ⊢
                by_cases h8 : r3 = 0
                · subst h8
                  have HP := hid (hp2.resolve_left (fun h => h rfl))
                  clear hp2
                  go_wp2_with (first
                    | (go_at_call 13; (refine (keep_Begins _ A8 A1 _ _ _ _ W3 W1 wh (Nat.le_refl _) TV.out.i1 RV.out.i1).mono ?_); rw [decide_eq_true HP.out]; rintro e wi ⟨rfl, b9⟩; have KU := hid (KV.out.up b9); clear b9)
                    | (go_at_call 12; (refine (ref18_Same _ _ _ A1 A6 A3 A7 _ _ _ _ _ _ _ _ W1 W1 S1 S1 wg (Nat.le_refl _) RY.out.i1 SY.out.i1 RY.out.i2 SY.out.i2).mono ?_); rw [decide_eq_true ⟨rfl, rfl, rfl⟩]; rintro e wh ⟨rfl, b9⟩; have KV := hid (KY.out.up b9); have RV := hid (RY.out.up b9); have TV := hid (TY.out.up b9); clear b9 g0 g1 g2 p0 p1 p2 t0 t1 t2 hlg hlp hlt; obtain ⟨g0, g1, g2⟩ := RV.out.bx.three; obtain ⟨t0, t1, t2⟩ := TV.out.bx.three; have hlg := RV.out.bx.lt; have hlt := TV.out.bx.lt; dsimp only at g0 g1 g2 t0 t1 t2)
                    | (go_at_call 9; (refine (law21_wakes _).mono ?_); rintro e w9 ⟨rfl, b9⟩; have KZ := hid (KU.out.up b9)))
                  go_ret
                  exact ⟨rfl, KZ.out.bl⟩
                · have h8' : (r3 == 0) = false := by simpa using h8
                  clear hp2
                  go_wp2_with (first
                    | (go_at_call 12; (refine (ref18_Same _ _ _ A1 A6 A3 A7 _ _ _ _ _ _ _ _ W1 W1 S1 S1 wg (Nat.le_refl _) RY.out.i1 SY.out.i1 RY.out.i2 SY.out.i2).mono ?_); rw [decide_eq_true ⟨rfl, rfl, rfl⟩]; rintro e wh ⟨rfl, b9⟩; have KV := hid (KY.out.up b9); have RV := hid (RY.out.up b9); have TV := hid (TY.out.up b9); clear b9 g0 g1 g2 p0 p1 p2 t0 t1 t2 hlg hlp hlt; obtain ⟨g0, g1, g2⟩ := RV.out.bx.three; obtain ⟨t0, t1, t2⟩ := TV.out.bx.three; have hlg := RV.out.bx.lt; have hlt := TV.out.bx.lt; dsimp only at g0 g1 g2 t0 t1 t2)
                    | (go_at_call 9; (refine (law21_wakes _).mono ?_); rintro e w9 ⟨rfl, b9⟩; have KZ := hid (KV.out.up b9)))
                  go_ret
                  exact ⟨rfl, KZ.out.bl⟩
              · obtain rfl := hn hc
                obtain ⟨t0, t1, t2⟩ := TY.out.bx.three
                clear hp hn
                dsimp only at hc g0 g1 g2 p0 p1 p2 t0 t1 t2 ⊢
                by_cases h8 : r1 = 0
                · subst h8
                  have h9 : ¬ e1 = 3 := fun h => hc ⟨rfl, h⟩
                  have h9' : (e1 == 3) = false := by simpa using h9
                  clear hc
                  go_wp2_with (first
                    | (go_at_call 12; (refine (ref18_Same _ e1 e1 A1 A8 A3 A9 _ _ _ _ _ _ _ _ W1 W1 S1 S1 wh (Nat.le_refl _) RV.out.i1 TV.out.i1 RV.out.i2 TV.out.i2).mono ?_); rw [decide_eq_true ⟨rfl, rfl, rfl⟩]; rintro e wi ⟨rfl, b9⟩; have KU := hid (KV.out.up b9); clear b9)
                    | (go_at_call 12; (refine (ref18_Same _ _ _ A1 A6 A3 A7 _ _ _ _ _ _ _ _ W1 W1 S1 S1 wg (Nat.le_refl _) RY.out.i1 SY.out.i1 RY.out.i2 SY.out.i2).mono ?_); rw [decide_eq_true ⟨rfl, rfl, rfl⟩]; rintro e wh ⟨rfl, b9⟩; have KV := hid (KY.out.up b9); have RV := hid (RY.out.up b9); have TV := hid (TY.out.up b9); clear b9 g0 g1 g2 p0 p1 p2 t0 t1 t2 hlg hlp hlt; obtain ⟨g0, g1, g2⟩ := RV.out.bx.three; obtain ⟨t0, t1, t2⟩ := TV.out.bx.three; have hlg := RV.out.bx.lt; have hlt := TV.out.bx.lt; dsimp only at g0 g1 g2 t0 t1 t2)
                    | (go_at_call 9; (refine (law21_wakes _).mono ?_); rintro e w9 ⟨rfl, b9⟩; have KZ := hid (KU.out.up b9)))
                  go_ret
                  exact ⟨rfl, KZ.out.bl⟩
                · have h8' : (r1 == 0) = false := by simpa using h8
                  clear hc
                  go_wp2_with (first
                    | (go_at_call 12; (refine (ref18_Same _ e1 e1 A1 A8 A3 A9 _ _ _ _ _ _ _ _ W1 W1 S1 S1 wh (Nat.le_refl _) RV.out.i1 TV.out.i1 RV.out.i2 TV.out.i2).mono ?_); rw [decide_eq_true ⟨rfl, rfl, rfl⟩]; rintro e wi ⟨rfl, b9⟩; have KU := hid (KV.out.up b9); clear b9)
                    | (go_at_call 12; (refine (ref18_Same _ _ _ A1 A6 A3 A7 _ _ _ _ _ _ _ _ W1 W1 S1 S1 wg (Nat.le_refl _) RY.out.i1 SY.out.i1 RY.out.i2 SY.out.i2).mono ?_); rw [decide_eq_true ⟨rfl, rfl, rfl⟩]; rintro e wh ⟨rfl, b9⟩; have KV := hid (KY.out.up b9); have RV := hid (RY.out.up b9); have TV := hid (TY.out.up b9); clear b9 g0 g1 g2 p0 p1 p2 t0 t1 t2 hlg hlp hlt; obtain ⟨g0, g1, g2⟩ := RV.out.bx.three; obtain ⟨t0, t1, t2⟩ := TV.out.bx.three; have hlg := RV.out.bx.lt; have hlt := TV.out.bx.lt; dsimp only at g0 g1 g2 t0 t1 t2)
                    | (go_at_call 9; (refine (law21_wakes _).mono ?_); rintro e w9 ⟨rfl, b9⟩; have KZ := hid (KU.out.up b9)))
                  go_ret
                  exact ⟨rfl, KZ.out.bl⟩
theorem walk (w : World) {v : Value} {c : Co} (hv : CAt w (fun b => b < w.heap.size) c v) {l : List Int} {A : Option Addr} {cA : Nat} (hI : IAt w (fun b => b < w.heap.size) l A cA) (fuel : Int) (_ : (Lit.int .i64 fuel).wf = true) : Calls Try.prog 4 #[v, .slice A l.length cA, .int .i64 fuel] w fun e w' => e = .returned (.bool true) ∧ Below w.heap.size w w' := by
  by_cases h : (50 : Int) < l.length ∨ ¬ (50 : Int) < l.length ∧ (fuel < 0 ∨ ¬ fuel < 0 ∧ 3000 < fuel)
  · exact out_of w hv l A cA fuel h
  · exact in_of w hv l A cA hI fuel (by omega) (by omega) (by omega)
set_option maxRecDepth 100000 in
theorem answers {H : Type} (enc : TypeId × Value → H) : Answers enc Try.prog 4 Try.f4 := by
  intro W base args ds ps hA hval hlt hwt
  rw [Try.params4] at hA hval
  obtain ⟨v0, vs0, d0, ds0, p0, q0, hargs, rfl, rfl, h0, r0⟩ := trodAll_cons hA
  obtain ⟨v1, vs1, d1, ds1, p1, q1, rfl, rfl, rfl, h1, r1⟩ := trodAll_cons r0
  obtain ⟨v2, vs2, d2, ds2, p2, q2, rfl, rfl, rfl, h2, r2⟩ := trodAll_cons r1
  obtain ⟨rfl, rfl, rfl⟩ := trodAll_nil r2
  obtain rfl : args = #[v0, v1, v2] := Array.ext' hargs
  obtain ⟨x0, i0⟩ := open_core (B := W.heap.size) (hval 0 25 v0 rfl rfl) h0 (fun p hp => hlt p (by simp [hp])) (wt_of hwt (j := 0) rfl rfl)
  obtain ⟨x1, A1, c1, rfl, i1⟩ := open_iat (B := W.heap.size) (hval 1 22 v1 rfl rfl) h1 (fun p hp => hlt p (by simp [hp])) (wt_of hwt (j := 1) rfl rfl)
  obtain ⟨a2, rfl, rfl, rfl, w2⟩ := open_int Try.underlying3 (hval 2 3 v2 rfl rfl) h2
  exact walk W i0 i1 a2 w2
theorem hspec {H : Type} (ds : List (DataW H)) (h : ds.length = (Try.f4).params.toList.length) : Rows.evalLetSpec.fn H ds = { results := [.lit (.bool true)], args := ds } := by
  rw [Try.params4] at h
  match ds, h with
  | [_, _, _], _ => rfl
theorem lifted (os : Os) (started : os.Started) (H : Type) (enc : TypeId × Value → H) : ReturnsInHanded {} Try.checked os 4 .any (Rows.evalLetSpec.pre6 enc Try.prog Try.f4 Rows.evalLetRow.domain false) (Rows.evalLetSpec.post enc Try.prog Try.f4 false true false false) :=
  lifted_of_walk (tb := 4) (by kernel_rfl) started (by kernel_rfl) Try.func4 rfl hspec rfl Try.underlying4 (by kernel_rfl) (by kernel_rfl)
    (ChangeSpec.witness6 (enc := enc) (C := Try.checked) false ⟨#[], #[.agg #[.int .i64 0, .int .i64 0, .int .i64 0, .int .i64 0, .bool false, .slice none 0 0, .slice none 0 0], .slice none 0 0, .int .i64 0], []⟩ 8 (by kernel_rfl) (by kernel_rfl) (by kernel_rfl) (by kernel_rfl)) (answers enc)
theorem over : Rows.evalLetRow.holds Try.pinned (OpenSpec.ofChange Rows.evalLetSpec) :=
  OpenClaim.holds_of_wide 4 Try.f4 rfl rfl rfl rfl rfl rfl rfl ⟨rfl, rfl, rfl, rfl, rfl⟩ rfl rfl rfl rfl rfl (by kernel_rfl) Try.func4 (by kernel_rfl)
    (of_decide_eq_true (by kernel_rfl)) (by unfold Func.isWrapper; first | (rw [if_pos (by decide +kernel)]; kernel_rfl) | (rw [if_neg (by decide +kernel)]; exact ⟨rfl, rfl⟩))
    (fun os started H enc _ => lifted os started H enc)
/-- THE STATEMENT. -/
theorem proved : Rows.EvalLetSaid := over
#print axioms proved
end Go.Proofs.Ytohdaclbgedeiaa.evalLet
