/-
  THE LAW EvalRuns: a run is the reference's.
-/
import Derived.Test.YtohdaclbgedeiaaRGa
import Derived.Test.YtohdaclbgedeiaaEOpen
import Derived.Test.YtohdaclbgedeiaaRGc
import Derived.Deep.Cut
import Derived.Deep.CutRange
import Derived.Deep.CutBlock
import Derived.Deep.DeepCutAuto
import Derived.Deep.RegionHeld3
namespace Go.Proofs.Ytohdaclbgedeiaa.evalRuns
set_option linter.all false
open Go.ChangeShapes Go.WideShapes Go.ChangeAt Go.RowKit
open Ev (Co RunIs nodes goodB run_one)
theorem wpList_unguard {P : Program} {ops : Array Oper} {Q : Exit → Act → World → Prop} {a : Act} {w : World} {rest : List Oper} {o : Oper} (hw : Region.wanted o (yielded ops a.tmps) = true) (h : wpList P ops Q ({ o with guard := none } :: rest) a w) : wpList P ops Q (o :: rest) a w := by
  unfold wpList at h ⊢
  rw [if_pos hw]
  rw [if_pos (by rfl)] at h
  exact h
theorem ap_own {w : World} {B : Nat} {A : Option Addr} {n c : Nat} {l : List Int} (h : OwnI w B (.slice A (0 + n) c) ([] ++ l)) : OwnI w B (.slice A n c) l := by simpa using h
set_option maxHeartbeats 8000000 in
set_option maxRecDepth 100000 in
theorem out_of (w : World) {v : Value} {c : Co} (hv : CAt w (fun b => b < w.heap.size) c v) (l : List Int) (A : Option Addr) (cA : Nat) (fuel : Int) (hb : (300 : Int) < l.length ∨ ¬ (300 : Int) < l.length ∧ 3000 < fuel ∧ fuel ≤ 65536) : Calls Try.prog 6 #[v, .slice A l.length cA, .int .i64 fuel] w fun e w' => e = .returned (.bool true) ∧ Below w.heap.size w w' := by
  have HV := hid (And.intro hv trivial)
  obtain ⟨k, x, y, m, i, T, tl, tc, A2, l2, c2, rfl⟩ := hv.agg
  clear hv
  have KA := hid (GK.start0 w #[.int .i64 k, .int .i64 x, .int .i64 y, .int .i64 m, .bool i, .slice T tl tc, .slice A2 l2 c2])
  obtain ⟨x0, x1, x2, x3, x4, x5, x6⟩ := KA.out.bx.seven; have hl0 := KA.out.bx.lt
  rcases hb with h1 | ⟨h1, h2, h3⟩
  all_goals
    go_enter Try.func6, Try.ntmps6
    go_wp2_with (first | (go_at_call 7; (refine (law21_Large c _ (fun b => b < w.heap.size) _ (HV.out.1.up KA.out.bl)).mono ?_); rintro e w1 ⟨⟨lb, rfl, hlb⟩, b1⟩; have KB := hid (KA.out.up b1); clear KA b1; clear x0 x1 x2 x3 x4 x5 x6 hl0; have HL := hid hlb; clear hlb; obtain ⟨x0, x1, x2, x3, x4, x5, x6⟩ := KB.out.bx.seven; have hl0 := KB.out.bx.lt) | (go_at_call 9; (refine (law21_wakes _).mono ?_); rintro e w9 ⟨rfl, b9⟩; have KZ := hid (KB.out.up b9)))
  all_goals go_ret
  all_goals exact ⟨rfl, KZ.out.bl⟩

set_option maxHeartbeats 100000000 in
set_option maxRecDepth 100000 in
theorem in_a (w : World) {v : Value} {c : Co} (hv : CAt w (fun b => b < w.heap.size) c v) (l : List Int) (A : Option Addr) (cA : Nat) (hI : IAt w (fun b => b < w.heap.size) l A cA) (fuel : Int) (h1 : ¬ (300 : Int) < l.length) (h2 : ¬ 3000 < fuel) : Calls Try.prog 6 #[v, .slice A l.length cA, .int .i64 fuel] w fun e w' => e = .returned (.bool true) ∧ Below w.heap.size w w' := by
  have HV := hid (And.intro hv hI)
  have HI := hid (iat_ints (B := w.heap.size) hI (fun _ h _ => h))
  have HS := hid (show l.length ≤ 300 ∧ True from ⟨by omega, trivial⟩)
  obtain ⟨k, x, y, m, i, T, tl, tc, A2, l2, c2, rfl⟩ := hv.agg
  clear hv hI
  have KA := hid (GK.start0 w #[.int .i64 k, .int .i64 x, .int .i64 y, .int .i64 m, .bool i, .slice T tl tc, .slice A2 l2 c2])
  obtain ⟨x0, x1, x2, x3, x4, x5, x6⟩ := KA.out.bx.seven; have hl0 := KA.out.bx.lt
  go_enter Try.func6, Try.ntmps6
  go_upto_region 3 with (first
    | (go_at_call 7; (refine (law21_Large c _ (fun b => b < w.heap.size) _ (HV.out.1.up KA.out.bl)).mono ?_); rintro e w1 ⟨⟨lb, rfl, hlb⟩, b1⟩; have KB := hid (KA.out.up b1); clear KA b1; clear x0 x1 x2 x3 x4 x5 x6 hl0; have HL := hid hlb; clear hlb; obtain ⟨x0, x1, x2, x3, x4, x5, x6⟩ := KB.out.bx.seven; have hl0 := KB.out.bx.lt)
    | (go_at_call 8; (refine (law21_Steep c _ (fun b => b < w.heap.size) fuel _ (HV.out.1.up KB.out.bl)).mono ?_); rintro e w2 ⟨⟨sb, rfl⟩, b2⟩; have KC := hid (KB.out.up b2); clear KB b2; clear x0 x1 x2 x3 x4 x5 x6 hl0; obtain ⟨x0, x1, x2, x3, x4, x5, x6⟩ := KC.out.bx.seven; have hl0 := KC.out.bx.lt)
    | (go_at_call 9; (refine (law21_wakes _).mono ?_); rintro e w9 ⟨rfl, b9⟩; have KZ := hid (KC.out.up b9))
    | (go_at_call 9; (refine (law21_wakes _).mono ?_); rintro e w9 ⟨rfl, b9⟩; have KZ := hid (KB.out.up b9)))
  all_goals first
    | (go_ret; exact ⟨rfl, KZ.out.bl⟩)
    | skip
  have HH := hid (HL.out (Bool.eq_false_iff.2 (by assumption)))
  clear HL h1 h2
  go_upto_region 4 with (go_at_call 11; (refine (ref20_Copy _ c (Nat.le_refl _) HH.out.2 _ (fun b => b < w.heap.size) _ (HV.out.1.up KC.out.bl)).mono ?_); rintro e w3 ⟨⟨v9, rfl, hv9⟩, b9⟩; obtain ⟨k9, x9, y9, m9, i9, T9, tl9, tc9, A9, l9, c9, rfl⟩ := hv9.agg; have KD := hid (KC.out.up b9); have CO := hid hv9.all; clear hv9 b9; clear x0 x1 x2 x3 x4 x5 x6 hl0; obtain ⟨x0, x1, x2, x3, x4, x5, x6⟩ := KD.out.bx.seven; have hl0 := KD.out.bx.lt)
  have LX := hid (LB.mk (Blk.new w3 25 #[.int .i64 k9, .int .i64 x9, .int .i64 y9, .int .i64 m9, .bool i9, .slice T9 tl9 tc9, .slice A9 l9 c9]) (CO.out.up (al1 _ _)) : LB (w3.alloc (.cells #[.int .i64 k9, .int .i64 x9, .int .i64 y9, .int .i64 m9, .bool i9, .slice T9 tl9 tc9, .slice A9 l9 c9] 25)) w3.heap.size #[.int .i64 k9, .int .i64 x9, .int .i64 y9, .int .i64 m9, .bool i9, .slice T9 tl9 tc9, .slice A9 l9 c9] c)
  have KW := hid (KD.out.up (al1 w3 (.cells #[.int .i64 k9, .int .i64 x9, .int .i64 y9, .int .i64 m9, .bool i9, .slice T9 tl9 tc9, .slice A9 l9 c9] 25)))
  have HL9 := hid (show w3.heap.size < (w3.alloc (.cells #[.int .i64 k9, .int .i64 x9, .int .i64 y9, .int .i64 m9, .bool i9, .slice T9 tl9 tc9, .slice A9 l9 c9] 25)).heap.size by simp)
  clear x0 x1 x2 x3 x4 x5 x6 hl0
  clear KC KD CO
  obtain ⟨wb, hwb⟩ : ∃ wb, w3.alloc (.cells #[.int .i64 k9, .int .i64 x9, .int .i64 y9, .int .i64 m9, .bool i9, .slice T9 tl9 tc9, .slice A9 l9 c9] 25) = wb := ⟨_, rfl⟩
  rw [hwb] at LX KW HL9 ⊢
  have LW := LX
  obtain ⟨gl, hgl⟩ : ∃ gl, w3.heap.size = gl := ⟨_, rfl⟩
  rw [hgl] at LX LW HL9 ⊢
  clear hwb hgl LX HL9
  go_cut [8, 9] (fun s8 s9 wx => ∃ (gs : Nat) (s : Int × List Int × List Int × Int) (n2 : Nat) (A6 : Option Addr) (c6 : Nat) (A7 : Option Addr) (c7 : Nat), s8 = .pointer (some ⟨gs, 0, none⟩) ∧ s9 = .int .i64 s.2.2.2 ∧ Hid (RunIs c l fuel s n2) ∧ Hid (GK w #[.int .i64 k, .int .i64 x, .int .i64 y, .int .i64 m, .bool i, .slice T tl tc, .slice A2 l2 c2] wx) ∧ Hid (LB wx gl #[.int .i64 k9, .int .i64 x9, .int .i64 y9, .int .i64 m9, .bool i9, .slice T9 tl9 tc9, .slice A9 l9 c9] c) ∧ Hid (RH wx gs A6 c6 A7 c7 s))
  case first =>
    as_aux_lemma =>
      obtain ⟨x0, x1, x2, x3, x4, x5, x6⟩ := LW.out.bx.seven
      have HNE := hid (Nat.ne_of_lt LW.out.bx.lt)
      go_region_held3 (fun w' => ((w').cell? ⟨gl, 0, none⟩ = some (.int .i64 k9) ∧ (w').cell? ⟨gl, 1, none⟩ = some (.int .i64 x9) ∧ (w').cell? ⟨gl, 2, none⟩ = some (.int .i64 y9) ∧ (w').cell? ⟨gl, 3, none⟩ = some (.int .i64 m9) ∧ (w').cell? ⟨gl, 4, none⟩ = some (.bool i9) ∧ (w').cell? ⟨gl, 5, none⟩ = some (.slice T9 tl9 tc9) ∧ (w').cell? ⟨gl, 6, none⟩ = some (.slice A9 l9 c9))) (first | with_reducible exact ⟨x0, x1, x2, x3, x4, x5, x6⟩ | with_reducible exact (set3_keep LY.out.bx (by have := LW.out.bx.lt; have := B6.out.size; omega)).seven | go_keep) (first | first | (refine step_appI (by rfl) _ _ (by rfl) wb.heap.size (v := .slice (some ⟨wb.heap.size, 0, none⟩) 0 0) (xs := []) (by rfl) ?_ (A := A) (n := l.length) (c := cA) (Bi := w.heap.size) (ys := l) (by rfl) ?_ ?_ ?_ ?_; (· first | exact (OwnI.lit0 (by simp) (by simp)).drew | exact ((OwnI.lit0 (by simp) (by simp)).alloc _).drew); (· exact HI.out.below (below_hop ((al1 wb _).drew) KW.out.bl) (Nat.le_refl _)); (· have := HS.out.1; simp; omega); (· first | (simp; done) | (simp; omega)); intro A5 c5 u6 ho hg hbb; have O5 := hid (ap_own ho); have B6 := hid (hbb wb.heap.size wb (Nat.le_refl _) ((al1 wb _).drew)); skip; have LX := hid (LW.out.up B6.out); clear ho hg hbb x0 x1 x2 x3 x4 x5 x6; obtain ⟨x0, x1, x2, x3, x4, x5, x6⟩ := LX.out.bx.seven) | (refine step_appI (by rfl) _ _ (by rfl) wb.heap.size (v := .slice (some ⟨wb.heap.size + 1, 0, none⟩) 0 0) (xs := []) (by rfl) ?_ (A := A) (n := l.length) (c := cA) (Bi := w.heap.size) (ys := l) (by rfl) ?_ ?_ ?_ ?_; (· first | exact (OwnI.lit0 (by simp) (by simp)).drew | exact ((OwnI.lit0 (by simp) (by simp)).alloc _).drew); (· exact HI.out.below (below_hop ((al2 wb _ _).drew) KW.out.bl) (Nat.le_refl _)); (· have := HS.out.1; simp; omega); (· first | (simp; done) | (simp; omega)); intro A5 c5 u6 ho hg hbb; have O5 := hid (ap_own ho); have B6 := hid (hbb wb.heap.size wb (Nat.le_refl _) ((al2 wb _ _).drew)); have X0 := hid (((Blk.new wb 31 #[.int .i64 0, .slice none 0 0, .slice none 0 0]).alloc (.cells #[] 3)).drew.grown hg (by simp [Value.ownBlock])); have LX := hid (LW.out.up B6.out); clear ho hg hbb x0 x1 x2 x3 x4 x5 x6; obtain ⟨x0, x1, x2, x3, x4, x5, x6⟩ := LX.out.bx.seven) | (refine step_appI (by rfl) _ _ (by rfl) wb.heap.size (v := .slice (some ⟨wb.heap.size, 0, none⟩) 0 0) (xs := []) (by rfl) ?_ (A := A) (n := l.length) (c := cA) (Bi := w.heap.size) (ys := l) (by rfl) ?_ ?_ ?_ ?_; (· first | exact (OwnI.lit0 (by simp) (by simp)).drew | exact ((OwnI.lit0 (by simp) (by simp)).alloc _).drew); (· exact HI.out.below (below_hop ((al2 wb _ _).drew) KW.out.bl) (Nat.le_refl _)); (· have := HS.out.1; simp; omega); (· first | (simp; done) | (simp; omega)); intro A5 c5 u6 ho hg hbb; have O5 := hid (ap_own ho); have B6 := hid (hbb wb.heap.size wb (Nat.le_refl _) ((al2 wb _ _).drew)); have X0 := hid ((Blk.new' (g := wb.heap.size + 1) (w := wb.alloc (.cells #[] 3)) (by simp) 31 #[.int .i64 0, .slice none 0 0, .slice none 0 0]).drew.grown hg (by simp [Value.ownBlock])); have LX := hid (LW.out.up B6.out); clear ho hg hbb x0 x1 x2 x3 x4 x5 x6; obtain ⟨x0, x1, x2, x3, x4, x5, x6⟩ := LX.out.bx.seven) | (go_at_call 10; first | (have X1 := X0; (refine (eval_Run (u6) (c) _ (fun _ => True) (fun b => wb.heap.size ≤ b) l A5 c5 (fuel) (LX.out.ct) (own_iat (O5.out) (by have := HS.out.1; omega)).2).mono ?_); rintro e u8 ⟨s, n2, A6, c6, A7, c7, hR, rfl, ho1, ho2, b8⟩; have B8 := hid (below_hop b8 B6.out); have X2 := hid (X1.out.below b8 X1.out.lt); have XL := hid X1.out.lt; obtain ⟨q0, q1, q2⟩ := X2.out.three; have f0 := X2.out.frozen 0; have f1 := X2.out.frozen 1; have f2 := X2.out.frozen 2; have hl9 := X2.out.lt; clear b8 X0 X1; have RN := hid hR; have RO := hid (And.intro ho1 ho2); have LY := hid (LW.out.up B8.out); clear hR ho1 ho2 x0 x1 x2 x3 x4 x5 x6; obtain ⟨x0, x1, x2, x3, x4, x5, x6⟩ := LY.out.bx.seven) | (have _ := B6; (refine (eval_Run (u6) (c) _ (fun _ => True) (fun b => wb.heap.size ≤ b) l A5 c5 (fuel) (LX.out.ct) (own_iat (O5.out) (by have := HS.out.1; omega)).2).mono ?_); rintro e u8 ⟨s, n2, A6, c6, A7, c7, hR, rfl, ho1, ho2, b8⟩; have B8 := hid (below_hop b8 B6.out); clear b8; have RN := hid hR; have RO := hid (And.intro ho1 ho2); have LY := hid (LW.out.up B8.out); clear hR ho1 ho2 x0 x1 x2 x3 x4 x5 x6; obtain ⟨x0, x1, x2, x3, x4, x5, x6⟩ := LY.out.bx.seven) | (have X1 := hid (Blk.new u6 31 #[.int .i64 0, .slice none 0 0, .slice none 0 0]); (refine (eval_Run (u6.alloc (.cells #[.int .i64 0, .slice none 0 0, .slice none 0 0] 31)) (c) _ (fun _ => True) (fun b => wb.heap.size ≤ b) l A5 c5 (fuel) (LX.out.ct.up (al1 _ _)) (own_iat (O5.out.alloc _) (by have := HS.out.1; omega)).2).mono ?_); rintro e u8 ⟨s, n2, A6, c6, A7, c7, hR, rfl, ho1, ho2, b8⟩; have B8 := hid (below_hop b8 (below_hop (al1 _ _) B6.out)); have X2 := hid (X1.out.below b8 X1.out.lt); have XL := hid X1.out.lt; obtain ⟨q0, q1, q2⟩ := X2.out.three; have f0 := X2.out.frozen 0; have f1 := X2.out.frozen 1; have f2 := X2.out.frozen 2; have hl9 := X2.out.lt; clear b8 X1; have RN := hid hR; have RO := hid (And.intro ho1 ho2); have LY := hid (LW.out.up B8.out); clear hR ho1 ho2 x0 x1 x2 x3 x4 x5 x6; obtain ⟨x0, x1, x2, x3, x4, x5, x6⟩ := LY.out.bx.seven)))
      all_goals
        go_wp2_with fail
        go_meet
      all_goals first
        | with_reducible exact ⟨_, s, n2, A6, c6, A7, c7, rfl, rfl, RN, hid (KW.out.up (below_hop (al1 _ _) B8.out)), hid (LW.out.up (below_hop (al1 _ _) B8.out)), hid (rh_new RO.out.1 RO.out.2)⟩
        | exact ⟨_, s, n2, A6, c6, A7, c7, rfl, rfl, RN, hid (KW.out.up (set3_low B8.out (by have := B6.out.size; omega))), hid (LW.out.up (set3_low B8.out (by have := B6.out.size; omega))), hid (rh_set X2.out RO.out.1 RO.out.2 XL.out)⟩
  case rest =>
    clear KW LW
    obtain ⟨gs, s, n2, A6, c6, A7, c7, rfl, rfl, RN, KW, LW, SW⟩ := hcut
    obtain ⟨wd, rfl⟩ : ∃ wd, wd = wc := ⟨_, rfl⟩
    obtain ⟨x0, x1, x2, x3, x4, x5, x6⟩ := KW.out.bx.seven; have hl0 := KW.out.bx.lt
    go_upto_region 6 with (go_at_call 19; (refine (run21 wd c _ (fun b => b < w.heap.size) (fun b => b < w.heap.size) l A cA fuel (HV.out.1.up KW.out.bl) (HV.out.2.keep (fun b hb1 hl9 => ⟨KW.out.bl.block b hl9, hb1⟩)) (by have := HH.out.1; omega)).mono ?_); rintro e we ⟨q, m2, A8, c8, A9', c9', hQ, rfl, ho1, ho2, b8⟩; have RO := hid (And.intro ho1 ho2); have HQ := hid (run_one RN.out hQ); have KX := hid (KW.out.up b8); have LX := hid (LW.out.up b8); have SX := hid (SW.out.up b8); clear hQ ho1 ho2 b8; clear x0 x1 x2 x3 x4 x5 x6 hl0; obtain ⟨x0, x1, x2, x3, x4, x5, x6⟩ := KX.out.bx.seven; have hl0 := KX.out.bx.lt)
    obtain ⟨hq1, hq2⟩ := HQ.out
    subst hq1 hq2
    clear HQ KW LW SW
    clear x0 x1 x2 x3 x4 x5 x6 hl0
    have TX := hid (rh_new RO.out.1 RO.out.2)
    have bF := al1 we (.cells #[.int .i64 s.1, .slice A8 s.2.1.length c8, .slice A9' s.2.2.1.length c9'] 31)
    have KY := hid (KX.out.up bF)
    have LY := hid (LX.out.up bF)
    have SY := hid (SX.out.up bF)
    obtain ⟨ge, hge⟩ : ∃ ge, we.heap.size = ge := ⟨_, rfl⟩
    obtain ⟨wf, hwf⟩ : ∃ wf, we.alloc (.cells #[.int .i64 s.1, .slice A8 s.2.1.length c8, .slice A9' s.2.2.1.length c9'] 31) = wf := ⟨_, rfl⟩
    rw [hwf] at KY LY SY TX ⊢
    rw [hge] at TX ⊢
    have TY := TX
    clear hwf hge bF RO KX LX SX TX
    obtain ⟨e1, W1, S1, r1⟩ := s
    dsimp only at SY TY RN ⊢
    obtain ⟨x0, x1, x2, x3, x4, x5, x6⟩ := KY.out.bx.seven; have hl0 := KY.out.bx.lt; obtain ⟨y0, y1, y2, y3, y4, y5, y6⟩ := LY.out.bx.seven; have hl1 := LY.out.bx.lt; obtain ⟨g0, g1, g2⟩ := SY.out.bx.three; have hl2 := SY.out.bx.lt; obtain ⟨p0, p1, p2⟩ := TY.out.bx.three; have hl3 := TY.out.bx.lt; dsimp only at g0 g1 g2 p0 p1 p2
    as_aux_lemma =>
      go_wp2_with (first
        | (go_at_call 12; (refine (ref18_Same _ e1 e1 A6 A8 A7 A9' _ _ _ _ _ _ _ _ W1 W1 S1 S1 wf (Nat.le_refl _) SY.out.i1 TY.out.i1 SY.out.i2 TY.out.i2).mono ?_); rw [decide_eq_true ⟨rfl, rfl, rfl⟩]; rintro e wg ⟨rfl, b9⟩; have KV := hid (KY.out.up b9); have LV := hid (LY.out.up b9); have SV := hid (SY.out.up b9); have TV := hid (TY.out.up b9); clear b9 KY LY SY TY; clear x0 x1 x2 x3 x4 x5 x6 hl0 y0 y1 y2 y3 y4 y5 y6 hl1 g0 g1 g2 hl2 p0 p1 p2 hl3; obtain ⟨x0, x1, x2, x3, x4, x5, x6⟩ := KV.out.bx.seven; have hl0 := KV.out.bx.lt; obtain ⟨y0, y1, y2, y3, y4, y5, y6⟩ := LV.out.bx.seven; have hl1 := LV.out.bx.lt; obtain ⟨g0, g1, g2⟩ := SV.out.bx.three; have hl2 := SV.out.bx.lt; obtain ⟨p0, p1, p2⟩ := TV.out.bx.three; have hl3 := TV.out.bx.lt; dsimp only at g0 g1 g2 p0 p1 p2)
        | (go_at_call 11; (refine (ref20_Copy _ c (Nat.le_refl _) HH.out.2 _ (fun b => b < w.heap.size) _ (HV.out.1.up KV.out.bl)).mono ?_); rintro e wh ⟨⟨v9, rfl, hv9⟩, b9⟩; have CO := hid hv9.all; have KU := hid (KV.out.up b9); have LU := hid (LV.out.up b9); have SU := hid (SV.out.up b9); have TU := hid (TV.out.up b9); clear hv9 b9 KV LV SV TV; clear x0 x1 x2 x3 x4 x5 x6 hl0 y0 y1 y2 y3 y4 y5 y6 hl1 g0 g1 g2 hl2 p0 p1 p2 hl3; obtain ⟨x0, x1, x2, x3, x4, x5, x6⟩ := KU.out.bx.seven; have hl0 := KU.out.bx.lt; obtain ⟨y0, y1, y2, y3, y4, y5, y6⟩ := LU.out.bx.seven; have hl1 := LU.out.bx.lt; obtain ⟨g0, g1, g2⟩ := SU.out.bx.three; have hl2 := SU.out.bx.lt; obtain ⟨p0, p1, p2⟩ := TU.out.bx.three; have hl3 := TU.out.bx.lt; dsimp only at g0 g1 g2 p0 p1 p2)
        | (at_builtin; refine wpList_unguard (by rfl) ?_; (refine wpList_appI (by rfl) _ _ (by rfl) wh.heap.size (by rfl) (OwnI.lit0 rfl (Nat.le_refl _)) (by rfl) (HI.out.below ((KU.out.bl).alloc KU.out.bl.size _) KU.out.bl.size) (by have := HS.out; simp; omega) (by simp) ?_); intro A5 c5 wi o5 g5 b5; have AP := hid (ap_of o5 rfl b5); have KT := hid (KU.out.up AP.out.low); have LT := hid (LU.out.up AP.out.low); have CP := hid (CO.out.up AP.out.low); clear o5 g5 b5 KU LU SU TU; clear x0 x1 x2 x3 x4 x5 x6 hl0 y0 y1 y2 y3 y4 y5 y6 hl1 g0 g1 g2 hl2 p0 p1 p2 hl3; obtain ⟨x0, x1, x2, x3, x4, x5, x6⟩ := KT.out.bx.seven; have hl0 := KT.out.bx.lt)
        | (go_at_call 20; (refine (eval_Steps wi c _ (fun _ => True) (fun b => wh.heap.size ≤ b) l A5 c5 fuel CP.out (own_iat AP.out.own (by have := HS.out; omega)).2).mono ?_); rintro e wj ⟨⟨r9, n9, hR9, rfl⟩, b9⟩; have hn9 := (run_one RN.out hR9).2; subst hn9; have KS := hid (KT.out.up b9); have LS := hid (LT.out.up b9); clear hR9 b9; clear x0 x1 x2 x3 x4 x5 x6 hl0; obtain ⟨x0, x1, x2, x3, x4, x5, x6⟩ := KS.out.bx.seven; have hl0 := KS.out.bx.lt; obtain ⟨y0, y1, y2, y3, y4, y5, y6⟩ := LS.out.bx.seven; have hl1 := LS.out.bx.lt)
        | (go_at_call 21; (refine (r20_same _ c (Nat.le_refl _) _ _ (fun _ => True) (fun b => b < w.heap.size) wj LS.out.ct (HV.out.1.up KS.out.bl)).mono ?_); rintro e wk ⟨rfl, b9⟩; have KR := hid (KS.out.up b9); clear b9)
        | (go_at_call 9; (refine (law21_wakes _).mono ?_); rintro e w9 ⟨rfl, b9⟩; have KZ := hid (KR.out.up b9)))
      go_ret
      exact ⟨rfl, KZ.out.bl⟩
set_option maxHeartbeats 100000000 in
set_option maxRecDepth 100000 in
theorem in_b (w : World) {v : Value} {c : Co} (hv : CAt w (fun b => b < w.heap.size) c v) (l : List Int) (A : Option Addr) (cA : Nat) (hI : IAt w (fun b => b < w.heap.size) l A cA) (fuel : Int) (h1 : ¬ (300 : Int) < l.length) (h2 : 3000 < fuel) (h3 : ¬ fuel ≤ 65536) : Calls Try.prog 6 #[v, .slice A l.length cA, .int .i64 fuel] w fun e w' => e = .returned (.bool true) ∧ Below w.heap.size w w' := by
  have HV := hid (And.intro hv hI)
  have HI := hid (iat_ints (B := w.heap.size) hI (fun _ h _ => h))
  have HS := hid (show l.length ≤ 300 ∧ True from ⟨by omega, trivial⟩)
  obtain ⟨k, x, y, m, i, T, tl, tc, A2, l2, c2, rfl⟩ := hv.agg
  clear hv hI
  have KA := hid (GK.start0 w #[.int .i64 k, .int .i64 x, .int .i64 y, .int .i64 m, .bool i, .slice T tl tc, .slice A2 l2 c2])
  obtain ⟨x0, x1, x2, x3, x4, x5, x6⟩ := KA.out.bx.seven; have hl0 := KA.out.bx.lt
  go_enter Try.func6, Try.ntmps6
  go_upto_region 3 with (first
    | (go_at_call 7; (refine (law21_Large c _ (fun b => b < w.heap.size) _ (HV.out.1.up KA.out.bl)).mono ?_); rintro e w1 ⟨⟨lb, rfl, hlb⟩, b1⟩; have KB := hid (KA.out.up b1); clear KA b1; clear x0 x1 x2 x3 x4 x5 x6 hl0; have HL := hid hlb; clear hlb; obtain ⟨x0, x1, x2, x3, x4, x5, x6⟩ := KB.out.bx.seven; have hl0 := KB.out.bx.lt)
    | (go_at_call 8; (refine (law21_Steep c _ (fun b => b < w.heap.size) fuel _ (HV.out.1.up KB.out.bl)).mono ?_); rintro e w2 ⟨⟨sb, rfl⟩, b2⟩; have KC := hid (KB.out.up b2); clear KB b2; clear x0 x1 x2 x3 x4 x5 x6 hl0; obtain ⟨x0, x1, x2, x3, x4, x5, x6⟩ := KC.out.bx.seven; have hl0 := KC.out.bx.lt)
    | (go_at_call 9; (refine (law21_wakes _).mono ?_); rintro e w9 ⟨rfl, b9⟩; have KZ := hid (KC.out.up b9))
    | (go_at_call 9; (refine (law21_wakes _).mono ?_); rintro e w9 ⟨rfl, b9⟩; have KZ := hid (KB.out.up b9)))
  all_goals first
    | (go_ret; exact ⟨rfl, KZ.out.bl⟩)
    | skip
  have HH := hid (HL.out (Bool.eq_false_iff.2 (by assumption)))
  clear HL h1 h2 h3
  go_upto_region 4 with (go_at_call 11; (refine (ref20_Copy _ c (Nat.le_refl _) HH.out.2 _ (fun b => b < w.heap.size) _ (HV.out.1.up KC.out.bl)).mono ?_); rintro e w3 ⟨⟨v9, rfl, hv9⟩, b9⟩; obtain ⟨k9, x9, y9, m9, i9, T9, tl9, tc9, A9, l9, c9, rfl⟩ := hv9.agg; have KD := hid (KC.out.up b9); have CO := hid hv9.all; clear hv9 b9; clear x0 x1 x2 x3 x4 x5 x6 hl0; obtain ⟨x0, x1, x2, x3, x4, x5, x6⟩ := KD.out.bx.seven; have hl0 := KD.out.bx.lt)
  have LX := hid (LB.mk (Blk.new w3 25 #[.int .i64 k9, .int .i64 x9, .int .i64 y9, .int .i64 m9, .bool i9, .slice T9 tl9 tc9, .slice A9 l9 c9]) (CO.out.up (al1 _ _)) : LB (w3.alloc (.cells #[.int .i64 k9, .int .i64 x9, .int .i64 y9, .int .i64 m9, .bool i9, .slice T9 tl9 tc9, .slice A9 l9 c9] 25)) w3.heap.size #[.int .i64 k9, .int .i64 x9, .int .i64 y9, .int .i64 m9, .bool i9, .slice T9 tl9 tc9, .slice A9 l9 c9] c)
  have KW := hid (KD.out.up (al1 w3 (.cells #[.int .i64 k9, .int .i64 x9, .int .i64 y9, .int .i64 m9, .bool i9, .slice T9 tl9 tc9, .slice A9 l9 c9] 25)))
  have HL9 := hid (show w3.heap.size < (w3.alloc (.cells #[.int .i64 k9, .int .i64 x9, .int .i64 y9, .int .i64 m9, .bool i9, .slice T9 tl9 tc9, .slice A9 l9 c9] 25)).heap.size by simp)
  clear x0 x1 x2 x3 x4 x5 x6 hl0
  clear KC KD CO
  obtain ⟨wb, hwb⟩ : ∃ wb, w3.alloc (.cells #[.int .i64 k9, .int .i64 x9, .int .i64 y9, .int .i64 m9, .bool i9, .slice T9 tl9 tc9, .slice A9 l9 c9] 25) = wb := ⟨_, rfl⟩
  rw [hwb] at LX KW HL9 ⊢
  have LW := LX
  obtain ⟨gl, hgl⟩ : ∃ gl, w3.heap.size = gl := ⟨_, rfl⟩
  rw [hgl] at LX LW HL9 ⊢
  clear hwb hgl LX HL9
  go_cut [8, 9] (fun s8 s9 wx => ∃ (gs : Nat) (s : Int × List Int × List Int × Int) (n2 : Nat) (A6 : Option Addr) (c6 : Nat) (A7 : Option Addr) (c7 : Nat), s8 = .pointer (some ⟨gs, 0, none⟩) ∧ s9 = .int .i64 s.2.2.2 ∧ Hid (RunIs c l fuel s n2) ∧ Hid (GK w #[.int .i64 k, .int .i64 x, .int .i64 y, .int .i64 m, .bool i, .slice T tl tc, .slice A2 l2 c2] wx) ∧ Hid (LB wx gl #[.int .i64 k9, .int .i64 x9, .int .i64 y9, .int .i64 m9, .bool i9, .slice T9 tl9 tc9, .slice A9 l9 c9] c) ∧ Hid (RH wx gs A6 c6 A7 c7 s))
  case first =>
    as_aux_lemma =>
      obtain ⟨x0, x1, x2, x3, x4, x5, x6⟩ := LW.out.bx.seven
      have HNE := hid (Nat.ne_of_lt LW.out.bx.lt)
      go_region_held3 (fun w' => ((w').cell? ⟨gl, 0, none⟩ = some (.int .i64 k9) ∧ (w').cell? ⟨gl, 1, none⟩ = some (.int .i64 x9) ∧ (w').cell? ⟨gl, 2, none⟩ = some (.int .i64 y9) ∧ (w').cell? ⟨gl, 3, none⟩ = some (.int .i64 m9) ∧ (w').cell? ⟨gl, 4, none⟩ = some (.bool i9) ∧ (w').cell? ⟨gl, 5, none⟩ = some (.slice T9 tl9 tc9) ∧ (w').cell? ⟨gl, 6, none⟩ = some (.slice A9 l9 c9))) (first | with_reducible exact ⟨x0, x1, x2, x3, x4, x5, x6⟩ | with_reducible exact (set3_keep LY.out.bx (by have := LW.out.bx.lt; have := B6.out.size; omega)).seven | go_keep) (first | first | (refine step_appI (by rfl) _ _ (by rfl) wb.heap.size (v := .slice (some ⟨wb.heap.size, 0, none⟩) 0 0) (xs := []) (by rfl) ?_ (A := A) (n := l.length) (c := cA) (Bi := w.heap.size) (ys := l) (by rfl) ?_ ?_ ?_ ?_; (· first | exact (OwnI.lit0 (by simp) (by simp)).drew | exact ((OwnI.lit0 (by simp) (by simp)).alloc _).drew); (· exact HI.out.below (below_hop ((al1 wb _).drew) KW.out.bl) (Nat.le_refl _)); (· have := HS.out.1; simp; omega); (· first | (simp; done) | (simp; omega)); intro A5 c5 u6 ho hg hbb; have O5 := hid (ap_own ho); have B6 := hid (hbb wb.heap.size wb (Nat.le_refl _) ((al1 wb _).drew)); skip; have LX := hid (LW.out.up B6.out); clear ho hg hbb x0 x1 x2 x3 x4 x5 x6; obtain ⟨x0, x1, x2, x3, x4, x5, x6⟩ := LX.out.bx.seven) | (refine step_appI (by rfl) _ _ (by rfl) wb.heap.size (v := .slice (some ⟨wb.heap.size + 1, 0, none⟩) 0 0) (xs := []) (by rfl) ?_ (A := A) (n := l.length) (c := cA) (Bi := w.heap.size) (ys := l) (by rfl) ?_ ?_ ?_ ?_; (· first | exact (OwnI.lit0 (by simp) (by simp)).drew | exact ((OwnI.lit0 (by simp) (by simp)).alloc _).drew); (· exact HI.out.below (below_hop ((al2 wb _ _).drew) KW.out.bl) (Nat.le_refl _)); (· have := HS.out.1; simp; omega); (· first | (simp; done) | (simp; omega)); intro A5 c5 u6 ho hg hbb; have O5 := hid (ap_own ho); have B6 := hid (hbb wb.heap.size wb (Nat.le_refl _) ((al2 wb _ _).drew)); have X0 := hid (((Blk.new wb 31 #[.int .i64 0, .slice none 0 0, .slice none 0 0]).alloc (.cells #[] 3)).drew.grown hg (by simp [Value.ownBlock])); have LX := hid (LW.out.up B6.out); clear ho hg hbb x0 x1 x2 x3 x4 x5 x6; obtain ⟨x0, x1, x2, x3, x4, x5, x6⟩ := LX.out.bx.seven) | (refine step_appI (by rfl) _ _ (by rfl) wb.heap.size (v := .slice (some ⟨wb.heap.size, 0, none⟩) 0 0) (xs := []) (by rfl) ?_ (A := A) (n := l.length) (c := cA) (Bi := w.heap.size) (ys := l) (by rfl) ?_ ?_ ?_ ?_; (· first | exact (OwnI.lit0 (by simp) (by simp)).drew | exact ((OwnI.lit0 (by simp) (by simp)).alloc _).drew); (· exact HI.out.below (below_hop ((al2 wb _ _).drew) KW.out.bl) (Nat.le_refl _)); (· have := HS.out.1; simp; omega); (· first | (simp; done) | (simp; omega)); intro A5 c5 u6 ho hg hbb; have O5 := hid (ap_own ho); have B6 := hid (hbb wb.heap.size wb (Nat.le_refl _) ((al2 wb _ _).drew)); have X0 := hid ((Blk.new' (g := wb.heap.size + 1) (w := wb.alloc (.cells #[] 3)) (by simp) 31 #[.int .i64 0, .slice none 0 0, .slice none 0 0]).drew.grown hg (by simp [Value.ownBlock])); have LX := hid (LW.out.up B6.out); clear ho hg hbb x0 x1 x2 x3 x4 x5 x6; obtain ⟨x0, x1, x2, x3, x4, x5, x6⟩ := LX.out.bx.seven) | (go_at_call 10; first | (have X1 := X0; (refine (eval_Run (u6) (c) _ (fun _ => True) (fun b => wb.heap.size ≤ b) l A5 c5 (fuel) (LX.out.ct) (own_iat (O5.out) (by have := HS.out.1; omega)).2).mono ?_); rintro e u8 ⟨s, n2, A6, c6, A7, c7, hR, rfl, ho1, ho2, b8⟩; have B8 := hid (below_hop b8 B6.out); have X2 := hid (X1.out.below b8 X1.out.lt); have XL := hid X1.out.lt; obtain ⟨q0, q1, q2⟩ := X2.out.three; have f0 := X2.out.frozen 0; have f1 := X2.out.frozen 1; have f2 := X2.out.frozen 2; have hl9 := X2.out.lt; clear b8 X0 X1; have RN := hid hR; have RO := hid (And.intro ho1 ho2); have LY := hid (LW.out.up B8.out); clear hR ho1 ho2 x0 x1 x2 x3 x4 x5 x6; obtain ⟨x0, x1, x2, x3, x4, x5, x6⟩ := LY.out.bx.seven) | (have _ := B6; (refine (eval_Run (u6) (c) _ (fun _ => True) (fun b => wb.heap.size ≤ b) l A5 c5 (fuel) (LX.out.ct) (own_iat (O5.out) (by have := HS.out.1; omega)).2).mono ?_); rintro e u8 ⟨s, n2, A6, c6, A7, c7, hR, rfl, ho1, ho2, b8⟩; have B8 := hid (below_hop b8 B6.out); clear b8; have RN := hid hR; have RO := hid (And.intro ho1 ho2); have LY := hid (LW.out.up B8.out); clear hR ho1 ho2 x0 x1 x2 x3 x4 x5 x6; obtain ⟨x0, x1, x2, x3, x4, x5, x6⟩ := LY.out.bx.seven) | (have X1 := hid (Blk.new u6 31 #[.int .i64 0, .slice none 0 0, .slice none 0 0]); (refine (eval_Run (u6.alloc (.cells #[.int .i64 0, .slice none 0 0, .slice none 0 0] 31)) (c) _ (fun _ => True) (fun b => wb.heap.size ≤ b) l A5 c5 (fuel) (LX.out.ct.up (al1 _ _)) (own_iat (O5.out.alloc _) (by have := HS.out.1; omega)).2).mono ?_); rintro e u8 ⟨s, n2, A6, c6, A7, c7, hR, rfl, ho1, ho2, b8⟩; have B8 := hid (below_hop b8 (below_hop (al1 _ _) B6.out)); have X2 := hid (X1.out.below b8 X1.out.lt); have XL := hid X1.out.lt; obtain ⟨q0, q1, q2⟩ := X2.out.three; have f0 := X2.out.frozen 0; have f1 := X2.out.frozen 1; have f2 := X2.out.frozen 2; have hl9 := X2.out.lt; clear b8 X1; have RN := hid hR; have RO := hid (And.intro ho1 ho2); have LY := hid (LW.out.up B8.out); clear hR ho1 ho2 x0 x1 x2 x3 x4 x5 x6; obtain ⟨x0, x1, x2, x3, x4, x5, x6⟩ := LY.out.bx.seven)))
      all_goals
        go_wp2_with fail
        go_meet
      all_goals first
        | with_reducible exact ⟨_, s, n2, A6, c6, A7, c7, rfl, rfl, RN, hid (KW.out.up (below_hop (al1 _ _) B8.out)), hid (LW.out.up (below_hop (al1 _ _) B8.out)), hid (rh_new RO.out.1 RO.out.2)⟩
        | exact ⟨_, s, n2, A6, c6, A7, c7, rfl, rfl, RN, hid (KW.out.up (set3_low B8.out (by have := B6.out.size; omega))), hid (LW.out.up (set3_low B8.out (by have := B6.out.size; omega))), hid (rh_set X2.out RO.out.1 RO.out.2 XL.out)⟩
  case rest =>
    clear KW LW
    obtain ⟨gs, s, n2, A6, c6, A7, c7, rfl, rfl, RN, KW, LW, SW⟩ := hcut
    obtain ⟨wd, rfl⟩ : ∃ wd, wd = wc := ⟨_, rfl⟩
    obtain ⟨x0, x1, x2, x3, x4, x5, x6⟩ := KW.out.bx.seven; have hl0 := KW.out.bx.lt
    go_upto_region 6 with (go_at_call 19; (refine (run21 wd c _ (fun b => b < w.heap.size) (fun b => b < w.heap.size) l A cA fuel (HV.out.1.up KW.out.bl) (HV.out.2.keep (fun b hb1 hl9 => ⟨KW.out.bl.block b hl9, hb1⟩)) (by have := HH.out.1; omega)).mono ?_); rintro e we ⟨q, m2, A8, c8, A9', c9', hQ, rfl, ho1, ho2, b8⟩; have RO := hid (And.intro ho1 ho2); have HQ := hid (run_one RN.out hQ); have KX := hid (KW.out.up b8); have LX := hid (LW.out.up b8); have SX := hid (SW.out.up b8); clear hQ ho1 ho2 b8; clear x0 x1 x2 x3 x4 x5 x6 hl0; obtain ⟨x0, x1, x2, x3, x4, x5, x6⟩ := KX.out.bx.seven; have hl0 := KX.out.bx.lt)
    obtain ⟨hq1, hq2⟩ := HQ.out
    subst hq1 hq2
    clear HQ KW LW SW
    clear x0 x1 x2 x3 x4 x5 x6 hl0
    have TX := hid (rh_new RO.out.1 RO.out.2)
    have bF := al1 we (.cells #[.int .i64 s.1, .slice A8 s.2.1.length c8, .slice A9' s.2.2.1.length c9'] 31)
    have KY := hid (KX.out.up bF)
    have LY := hid (LX.out.up bF)
    have SY := hid (SX.out.up bF)
    obtain ⟨ge, hge⟩ : ∃ ge, we.heap.size = ge := ⟨_, rfl⟩
    obtain ⟨wf, hwf⟩ : ∃ wf, we.alloc (.cells #[.int .i64 s.1, .slice A8 s.2.1.length c8, .slice A9' s.2.2.1.length c9'] 31) = wf := ⟨_, rfl⟩
    rw [hwf] at KY LY SY TX ⊢
    rw [hge] at TX ⊢
    have TY := TX
    clear hwf hge bF RO KX LX SX TX
    obtain ⟨e1, W1, S1, r1⟩ := s
    dsimp only at SY TY RN ⊢
    obtain ⟨x0, x1, x2, x3, x4, x5, x6⟩ := KY.out.bx.seven; have hl0 := KY.out.bx.lt; obtain ⟨y0, y1, y2, y3, y4, y5, y6⟩ := LY.out.bx.seven; have hl1 := LY.out.bx.lt; obtain ⟨g0, g1, g2⟩ := SY.out.bx.three; have hl2 := SY.out.bx.lt; obtain ⟨p0, p1, p2⟩ := TY.out.bx.three; have hl3 := TY.out.bx.lt; dsimp only at g0 g1 g2 p0 p1 p2
    as_aux_lemma =>
      go_wp2_with (first
        | (go_at_call 12; (refine (ref18_Same _ e1 e1 A6 A8 A7 A9' _ _ _ _ _ _ _ _ W1 W1 S1 S1 wf (Nat.le_refl _) SY.out.i1 TY.out.i1 SY.out.i2 TY.out.i2).mono ?_); rw [decide_eq_true ⟨rfl, rfl, rfl⟩]; rintro e wg ⟨rfl, b9⟩; have KV := hid (KY.out.up b9); have LV := hid (LY.out.up b9); have SV := hid (SY.out.up b9); have TV := hid (TY.out.up b9); clear b9 KY LY SY TY; clear x0 x1 x2 x3 x4 x5 x6 hl0 y0 y1 y2 y3 y4 y5 y6 hl1 g0 g1 g2 hl2 p0 p1 p2 hl3; obtain ⟨x0, x1, x2, x3, x4, x5, x6⟩ := KV.out.bx.seven; have hl0 := KV.out.bx.lt; obtain ⟨y0, y1, y2, y3, y4, y5, y6⟩ := LV.out.bx.seven; have hl1 := LV.out.bx.lt; obtain ⟨g0, g1, g2⟩ := SV.out.bx.three; have hl2 := SV.out.bx.lt; obtain ⟨p0, p1, p2⟩ := TV.out.bx.three; have hl3 := TV.out.bx.lt; dsimp only at g0 g1 g2 p0 p1 p2)
        | (go_at_call 11; (refine (ref20_Copy _ c (Nat.le_refl _) HH.out.2 _ (fun b => b < w.heap.size) _ (HV.out.1.up KV.out.bl)).mono ?_); rintro e wh ⟨⟨v9, rfl, hv9⟩, b9⟩; have CO := hid hv9.all; have KU := hid (KV.out.up b9); have LU := hid (LV.out.up b9); have SU := hid (SV.out.up b9); have TU := hid (TV.out.up b9); clear hv9 b9 KV LV SV TV; clear x0 x1 x2 x3 x4 x5 x6 hl0 y0 y1 y2 y3 y4 y5 y6 hl1 g0 g1 g2 hl2 p0 p1 p2 hl3; obtain ⟨x0, x1, x2, x3, x4, x5, x6⟩ := KU.out.bx.seven; have hl0 := KU.out.bx.lt; obtain ⟨y0, y1, y2, y3, y4, y5, y6⟩ := LU.out.bx.seven; have hl1 := LU.out.bx.lt; obtain ⟨g0, g1, g2⟩ := SU.out.bx.three; have hl2 := SU.out.bx.lt; obtain ⟨p0, p1, p2⟩ := TU.out.bx.three; have hl3 := TU.out.bx.lt; dsimp only at g0 g1 g2 p0 p1 p2)
        | (at_builtin; refine wpList_unguard (by rfl) ?_; (refine wpList_appI (by rfl) _ _ (by rfl) wh.heap.size (by rfl) (OwnI.lit0 rfl (Nat.le_refl _)) (by rfl) (HI.out.below ((KU.out.bl).alloc KU.out.bl.size _) KU.out.bl.size) (by have := HS.out; simp; omega) (by simp) ?_); intro A5 c5 wi o5 g5 b5; have AP := hid (ap_of o5 rfl b5); have KT := hid (KU.out.up AP.out.low); have LT := hid (LU.out.up AP.out.low); have CP := hid (CO.out.up AP.out.low); clear o5 g5 b5 KU LU SU TU; clear x0 x1 x2 x3 x4 x5 x6 hl0 y0 y1 y2 y3 y4 y5 y6 hl1 g0 g1 g2 hl2 p0 p1 p2 hl3; obtain ⟨x0, x1, x2, x3, x4, x5, x6⟩ := KT.out.bx.seven; have hl0 := KT.out.bx.lt)
        | (go_at_call 20; (refine (eval_Steps wi c _ (fun _ => True) (fun b => wh.heap.size ≤ b) l A5 c5 fuel CP.out (own_iat AP.out.own (by have := HS.out; omega)).2).mono ?_); rintro e wj ⟨⟨r9, n9, hR9, rfl⟩, b9⟩; have hn9 := (run_one RN.out hR9).2; subst hn9; have KS := hid (KT.out.up b9); have LS := hid (LT.out.up b9); clear hR9 b9; clear x0 x1 x2 x3 x4 x5 x6 hl0; obtain ⟨x0, x1, x2, x3, x4, x5, x6⟩ := KS.out.bx.seven; have hl0 := KS.out.bx.lt; obtain ⟨y0, y1, y2, y3, y4, y5, y6⟩ := LS.out.bx.seven; have hl1 := LS.out.bx.lt)
        | (go_at_call 21; (refine (r20_same _ c (Nat.le_refl _) _ _ (fun _ => True) (fun b => b < w.heap.size) wj LS.out.ct (HV.out.1.up KS.out.bl)).mono ?_); rintro e wk ⟨rfl, b9⟩; have KR := hid (KS.out.up b9); clear b9)
        | (go_at_call 9; (refine (law21_wakes _).mono ?_); rintro e w9 ⟨rfl, b9⟩; have KZ := hid (KR.out.up b9)))
      go_ret
      exact ⟨rfl, KZ.out.bl⟩

theorem walk (w : World) {v : Value} {c : Co} (hv : CAt w (fun b => b < w.heap.size) c v) {l : List Int} {A : Option Addr} {cA : Nat} (hI : IAt w (fun b => b < w.heap.size) l A cA) (fuel : Int) (_ : (Lit.int .i64 fuel).wf = true) : Calls Try.prog 6 #[v, .slice A l.length cA, .int .i64 fuel] w fun e w' => e = .returned (.bool true) ∧ Below w.heap.size w w' := by
  by_cases h : (300 : Int) < l.length ∨ ¬ (300 : Int) < l.length ∧ 3000 < fuel ∧ fuel ≤ 65536
  · exact out_of w hv l A cA fuel h
  · by_cases h2 : 3000 < fuel
    · exact in_b w hv l A cA hI fuel (by omega) h2 (by omega)
    · exact in_a w hv l A cA hI fuel (by omega) h2
set_option maxRecDepth 100000 in
theorem answers {H : Type} (enc : TypeId × Value → H) : Answers enc Try.prog 6 Try.f6 := by
  intro W base args ds ps hA hval hlt hwt
  rw [Try.params6] at hA hval
  obtain ⟨v0, vs0, d0, ds0, p0, q0, hargs, rfl, rfl, h0, r0⟩ := trodAll_cons hA
  obtain ⟨v1, vs1, d1, ds1, p1, q1, rfl, rfl, rfl, h1, r1⟩ := trodAll_cons r0
  obtain ⟨v2, vs2, d2, ds2, p2, q2, rfl, rfl, rfl, h2, r2⟩ := trodAll_cons r1
  obtain ⟨rfl, rfl, rfl⟩ := trodAll_nil r2
  obtain rfl : args = #[v0, v1, v2] := Array.ext' hargs
  obtain ⟨x0, i0⟩ := open_core (B := W.heap.size) (hval 0 25 v0 rfl rfl) h0 (fun p hp => hlt p (by simp [hp])) (wt_of hwt (j := 0) rfl rfl)
  obtain ⟨x1, A1, c1, rfl, i1⟩ := open_iat (B := W.heap.size) (hval 1 22 v1 rfl rfl) h1 (fun p hp => hlt p (by simp [hp])) (wt_of hwt (j := 1) rfl rfl)
  obtain ⟨a2, rfl, rfl, rfl, w2⟩ := open_int Try.underlying3 (hval 2 3 v2 rfl rfl) h2
  exact walk W i0 i1 a2 w2
theorem hspec {H : Type} (ds : List (DataW H)) (h : ds.length = (Try.f6).params.toList.length) : Rows.evalRunsSpec.fn H ds = { results := [.lit (.bool true)], args := ds } := by
  rw [Try.params6] at h
  match ds, h with
  | [_, _, _], _ => rfl
theorem lifted (os : Os) (started : os.Started) (H : Type) (enc : TypeId × Value → H) : ReturnsInHanded {} Try.checked os 6 .any (Rows.evalRunsSpec.pre6 enc Try.prog Try.f6 Rows.evalRunsRow.domain false) (Rows.evalRunsSpec.post enc Try.prog Try.f6 false true false false) :=
  lifted_of_walk (tb := 4) (by kernel_rfl) started (by kernel_rfl) Try.func6 rfl hspec rfl Try.underlying4 (by kernel_rfl) (by kernel_rfl)
    (ChangeSpec.witness6 (enc := enc) (C := Try.checked) false ⟨#[], #[.agg #[.int .i64 0, .int .i64 0, .int .i64 0, .int .i64 0, .bool false, .slice none 0 0, .slice none 0 0], .slice none 0 0, .int .i64 0], []⟩ 8 (by kernel_rfl) (by kernel_rfl) (by kernel_rfl) (by kernel_rfl)) (answers enc)
theorem over : Rows.evalRunsRow.holds Try.pinned (OpenSpec.ofChange Rows.evalRunsSpec) :=
  OpenClaim.holds_of_wide 6 Try.f6 rfl rfl rfl rfl rfl rfl rfl ⟨rfl, rfl, rfl, rfl, rfl⟩ rfl rfl rfl rfl rfl (by kernel_rfl) Try.func6 (by kernel_rfl)
    (of_decide_eq_true (by kernel_rfl)) (by unfold Func.isWrapper; first | (rw [if_pos (by decide +kernel)]; kernel_rfl) | (rw [if_neg (by decide +kernel)]; exact ⟨rfl, rfl⟩))
    (fun os started H enc _ => lifted os started H enc)
/-- THE STATEMENT. -/
theorem proved : Rows.EvalRunsSaid := over
#print axioms proved
end Go.Proofs.Ytohdaclbgedeiaa.evalRuns
