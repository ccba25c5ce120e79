/-
  THE LAW CpsrunFuel: with more fuel a result is the same, or goes on from what was written.
-/
import Derived.Test.YtdmkjndlobichaaKGa
import Derived.Test.YtdmkjndlobichaaKWeigh
import Derived.ProofKit
namespace Go.Proofs.Ytdmkjndlobichaa.cpsrunFuel
set_option linter.all false
open Go.ChangeShapes Go.WideShapes Go.ChangeAt Go.RowKit
open Tm (Te RunP runP_fuel)
set_option maxRecDepth 100000 in
theorem open_two {H : Type} {enc : TypeId × Value → H} {W : World} {b0 b1 : Nat} {sp : Nat → Bool} {hd : Bool} {v : Value} {d : DataW H} {ps : List MemPlace} (hval : Value.okWide Try.prog W .any b1 28 v) (h : DataW.Trod enc Try.prog W b0 sp hd 28 v d ps) : ∃ a b, v = .agg #[.int .i64 a, .int .i64 b] ∧ (Lit.int .i64 a).wf = true ∧ (Lit.int .i64 b).wf = true := by
  have hc : Try.prog.cellsOf 28 = 2 := by kernel_rfl
  have hci : Try.prog.cellsOf 3 = 1 := by kernel_rfl
  simp only [Value.okWide, Try.underlying28] at hval
  obtain ⟨cs, rfl, hsz, _⟩ := hval
  obtain ⟨fuel, hf⟩ := h
  obtain ⟨xs, m, _, _, hl, hx, he⟩ := DataW.trod_array Try.underlying28 hf
  have h0 := he 0 (by omega)
  have h1 := he 1 (by omega)
  dsimp only [Value.cells] at h0 h1 hl
  rw [hc] at hl
  match xs, hx with
  | [x0, x1], _ =>
  obtain ⟨l⟩ := cs
  match l, hl with
  | [c0, c1], _ =>
  simp only [hci, Nat.zero_mul, Nat.one_mul, List.drop_zero, List.drop_succ_cons, List.take_succ_cons, List.take_zero, List.getElem?_cons_zero, List.getElem?_cons_succ] at h0 h1
  obtain ⟨a, e0, _, ha⟩ := DataW.trod_int Try.underlying3 h0
  obtain ⟨b, e1, _, hb⟩ := DataW.trod_int Try.underlying3 h1
  simp only [List.cons.injEq, and_true] at e0 e1
  subst e0 e1
  exact ⟨a, b, rfl, ha, hb⟩
/-- The handed-in expression's box. -/
structure K (w : World) (core : Array Value) (wk : World) : Prop where
  bx : Blk wk w.heap.size 27 core
  bl : Below w.heap.size w wk
theorem K.up {w wk wx : World} {core : Array Value} (h : K w core wk) (hb : Below wk.heap.size wk wx) : K w core wx := ⟨h.bx.below hb h.bx.lt, below_hop hb h.bl⟩
set_option maxHeartbeats 8000000 in
set_option maxRecDepth 100000 in
theorem out_of (w : World) {v : Value} {c : Te} (hv : TAt w (fun b => b < w.heap.size) c v) (l : List Int) (A : Option Addr) (cA : Nat) (a b : Int) (hb : (300 : Int) < l.length ∨ ¬ (300 : Int) < l.length ∧ (a < 0 ∨ ¬ a < 0 ∧ (b < a ∨ ¬ b < a ∧ 20000 < b))) : Calls Try.prog 3 #[v, .slice A l.length cA, .agg #[.int .i64 a, .int .i64 b]] w fun e w' => e = .returned (.bool true) ∧ Below w.heap.size w w' := by
  have HV := hid (And.intro hv trivial)
  obtain ⟨k, x, m, i, T, tl, tc, A2, al, ac, F9, fl, fc, U, ul, uc, rfl⟩ := hv.agg
  clear hv
  rcases hb with h1 | ⟨h1, h2 | ⟨h2, h3 | ⟨h3, h4⟩⟩⟩
  all_goals
  go_enter Try.func3, Try.ntmps3
  go_wp2
  go_region
  have K0 : K w #[.int .i64 k, .int .i64 x, .int .i64 m, .bool i, .slice T tl tc, .slice A2 al ac, .slice F9 fl fc, .slice U ul uc] ((((w.alloc (.cells #[.int .i64 k, .int .i64 x, .int .i64 m, .bool i, .slice T tl tc, .slice A2 al ac, .slice F9 fl fc, .slice U ul uc] 27)).alloc (.cells #[.int .i64 a, .int .i64 b] 28)))).drew := ⟨Blk.drew ((Blk.new _ _ _).alloc _), Below.drew (al2 _ _ _)⟩
  obtain ⟨W0, hW0⟩ : ∃ W0, ((((w.alloc (.cells #[.int .i64 k, .int .i64 x, .int .i64 m, .bool i, .slice T tl tc, .slice A2 al ac, .slice F9 fl fc, .slice U ul uc] 27)).alloc (.cells #[.int .i64 a, .int .i64 b] 28)))).drew = W0 := ⟨_, rfl⟩
  rw [hW0] at K0 ⊢
  clear hW0
  have KA := hid K0
  clear K0
  obtain ⟨x0, x1, x2, x3, x4, x5, x6, x7⟩ := KA.out.bx.eight; have hl0 := KA.out.bx.lt
  go_wp2_with (first | (go_at_call 7; (refine (law22_Large c _ (fun b => b < w.heap.size) _ (HV.out.1.up KA.out.bl)).mono ?_); rintro e w1 ⟨⟨lb, rfl, hlb⟩, b1⟩; have KB := hid (KA.out.up b1); clear KA b1 x0 x1 x2 x3 x4 x5 x6 x7 hl0; have HL := hid hlb; clear hlb; obtain ⟨x0, x1, x2, x3, x4, x5, x6, x7⟩ := KB.out.bx.eight; have hl0 := KB.out.bx.lt) | (go_at_call 8; (refine (law23_wakes _).mono ?_); rintro e w9 ⟨rfl, b9⟩; have KZ := hid (KB.out.up b9)))
  all_goals go_ret
  all_goals exact ⟨rfl, KZ.out.bl⟩
/-- Behind append([]int{}, inputs...). -/
structure Ap (w w3 w4 : World) (B : Nat) (l : List Int) (A : Option Addr) (n cA : Nat) : Prop where
  own : OwnI w4 B (.slice A n cA) l
  len : n = l.length
  low : Below w3.heap.size w3 w4
theorem ap_of {w w3 w4 : World} {l : List Int} {A : Option Addr} {n cA : Nat} (ho : OwnI w4 w3.heap.size (.slice A (0 + n) cA) ([] ++ l)) (hn : n = l.length) (hb : ∀ B0 w0, B0 ≤ w3.heap.size → Below B0 w0 (w3.alloc (.cells #[] 3)) → Below B0 w0 w4) : Ap w w3 w4 w3.heap.size l A n cA := ⟨by simpa using ho, hn, hb _ _ (Nat.le_refl _) (al1 _ _)⟩
set_option maxHeartbeats 8000000 in
set_option maxRecDepth 100000 in
theorem in_of (w : World) {v : Value} {c : Te} (hv : TAt w (fun b => b < w.heap.size) c v) (l : List Int) (A : Option Addr) (cA : Nat) (hI : IAt w (fun b => b < w.heap.size) l A cA) (a b : Int) (h1 : ¬ (300 : Int) < l.length) (h2 : ¬ a < 0) (h3 : ¬ b < a) (h4 : ¬ 20000 < b) : Calls Try.prog 3 #[v, .slice A l.length cA, .agg #[.int .i64 a, .int .i64 b]] w fun e w' => e = .returned (.bool true) ∧ Below w.heap.size w w' := by
  have HV := hid (And.intro hv hI)
  have HN := hid (iat_ints (B := w.heap.size) hI (fun _ h _ => h))
  have HS := hid (show l.length ≤ 300 ∧ 0 ≤ a ∧ a ≤ b ∧ b ≤ 20000 by omega)
  obtain ⟨k, x, m, i, T, tl, tc, A2, al, ac, F9, fl, fc, U, ul, uc, rfl⟩ := hv.agg
  clear hv hI
  have P0 := hid trivial
  have P1 := hid trivial
  go_enter Try.func3, Try.ntmps3
  go_wp2
  go_region
  have K0 : K w #[.int .i64 k, .int .i64 x, .int .i64 m, .bool i, .slice T tl tc, .slice A2 al ac, .slice F9 fl fc, .slice U ul uc] ((((w.alloc (.cells #[.int .i64 k, .int .i64 x, .int .i64 m, .bool i, .slice T tl tc, .slice A2 al ac, .slice F9 fl fc, .slice U ul uc] 27)).alloc (.cells #[.int .i64 a, .int .i64 b] 28)))).drew := ⟨Blk.drew ((Blk.new _ _ _).alloc _), Below.drew (al2 _ _ _)⟩
  obtain ⟨W0, hW0⟩ : ∃ W0, ((((w.alloc (.cells #[.int .i64 k, .int .i64 x, .int .i64 m, .bool i, .slice T tl tc, .slice A2 al ac, .slice F9 fl fc, .slice U ul uc] 27)).alloc (.cells #[.int .i64 a, .int .i64 b] 28)))).drew = W0 := ⟨_, rfl⟩
  rw [hW0] at K0 ⊢
  clear hW0
  have KA := hid K0
  clear K0
  obtain ⟨x0, x1, x2, x3, x4, x5, x6, x7⟩ := KA.out.bx.eight; have hl0 := KA.out.bx.lt
  go_wp2_with (first
    | (go_at_call 7; (refine (law22_Large c _ (fun b => b < w.heap.size) _ (HV.out.1.up KA.out.bl)).mono ?_); rintro e w1 ⟨⟨lb, rfl, hlb⟩, b1⟩; have KB := hid (KA.out.up b1); clear KA b1 x0 x1 x2 x3 x4 x5 x6 x7 hl0; have HL := hid hlb; clear hlb; obtain ⟨x0, x1, x2, x3, x4, x5, x6, x7⟩ := KB.out.bx.eight; have hl0 := KB.out.bx.lt)
    | (go_at_call 8; (refine (law23_wakes _).mono ?_); rintro e w9 ⟨rfl, b9⟩; have KZ := hid (KB.out.up b9)))
  all_goals first
    | (go_ret; exact ⟨rfl, KZ.out.bl⟩)
    | skip
  have HH := hid (HL.out (Bool.eq_false_iff.2 (by assumption)))
  have HNM := hid (show Tm.names c ≤ 1000000000000 by have := HH.out; have := Tm.names_heft c; omega)
  refine (ref22_Copy _ c (Nat.le_refl _) HH.out _ (fun b => b < w.heap.size) _ (HV.out.1.up KB.out.bl)).mono ?_
  rintro e w3 ⟨⟨v9, rfl, hv9⟩, b9⟩
  obtain ⟨k9, x9, m9, i9, T9, tl9, tc9, A9, al9, ac9, G9, fl9, fc9, U9, ul9, uc9, rfl⟩ := hv9.agg
  have KD := hid (KB.out.up b9)
  have CO := hid hv9
  clear hv9 b9 x0 x1 x2 x3 x4 x5 x6 x7 hl0
  obtain ⟨x0, x1, x2, x3, x4, x5, x6, x7⟩ := KD.out.bx.eight; have hl0 := KD.out.bx.lt
  go_wp2_with (at_builtin; (refine wpList_appI (by rfl) _ _ (by rfl) w3.heap.size (by rfl) (OwnI.lit0 rfl (Nat.le_refl _)) (by rfl) (HN.out.below ((KD.out.bl).alloc KD.out.bl.size _) KD.out.bl.size) (by have := HS.out.1; simp; omega) (by simp) ?_); intro A5 c5 w4 o5 g5 b5; have AP := hid (ap_of (w := w) o5 rfl b5); have KE := hid (KD.out.up AP.out.low); clear o5 g5 b5 x0 x1 x2 x3 x4 x5 x6 x7 hl0; obtain ⟨x0, x1, x2, x3, x4, x5, x6, x7⟩ := KE.out.bx.eight; have hl0 := KE.out.bx.lt)
  refine (cpsrun_Run w4 c _ (fun b => w1.heap.size ≤ b) (fun b => w3.heap.size ≤ b) l A5 c5 a (CO.out.up AP.out.low) (own_iat AP.out.own (by have := HS.out.1; omega)).2 HNM.out (.inl (by have := HS.out; omega))).mono ?_
  rintro e w5 ⟨r, n, A1, c1, A3, c3, hR, rfl, ho1, ho2, b5⟩
  have R1 := hid (And.intro hR (And.intro ho1 ho2))
  have KF := hid (KE.out.up b5)
  have BT := hid (Blk.new w5 32 #[.int .i64 r.1, .slice A1 r.2.1.length c1, .slice A3 r.2.2.1.length c3])
  have KG := hid (KF.out.up (al1 w5 (.cells #[.int .i64 r.1, .slice A1 r.2.1.length c1, .slice A3 r.2.2.1.length c3] 32)))
  clear hR ho1 ho2 b5 x0 x1 x2 x3 x4 x5 x6 x7 hl0 AP CO KB KD KE
  obtain ⟨x0, x1, x2, x3, x4, x5, x6, x7⟩ := KF.out.bx.eight; have hl0 := KF.out.bx.lt
  go_wp2_with fail
  obtain ⟨WG, hWG⟩ : ∃ WG, w5.alloc (.cells #[.int .i64 r.1, .slice A1 r.2.1.length c1, .slice A3 r.2.2.1.length c3] 32) = WG := ⟨_, rfl⟩
  rw [hWG] at KG ⊢
  rw [show (w5.heap.size : Nat) = w5.heap.size from rfl]
  have HWG := hid hWG
  have BG := hid (show Blk WG w5.heap.size 32 #[.int .i64 r.1, .slice A1 r.2.1.length c1, .slice A3 r.2.2.1.length c3] by rw [← hWG]; exact BT.out)
  have BW := hid (show Below w5.heap.size w5 WG by rw [← hWG]; exact al1 _ _)
  clear hWG
  refine (ref22_Copy _ c (Nat.le_refl _) HH.out _ (fun b => b < w.heap.size) _ (HV.out.1.up KG.out.bl)).mono ?_
  rintro e w6 ⟨⟨v9, rfl, hv9⟩, b9⟩
  obtain ⟨k8, x8, m8, i8, T8, tl8, tc8, A8, al8, ac8, G8, fl8, fc8, U8, ul8, uc8, rfl⟩ := hv9.agg
  have KH := hid (KG.out.up b9)
  have CO := hid (And.intro hv9 b9)
  clear hv9 b9 x0 x1 x2 x3 x4 x5 x6 x7 hl0 KF BT
  obtain ⟨x0, x1, x2, x3, x4, x5, x6, x7⟩ := KH.out.bx.eight; have hl0 := KH.out.bx.lt
  go_wp2_with (at_builtin; (refine wpList_appI (by rfl) _ _ (by rfl) w6.heap.size (by rfl) (OwnI.lit0 rfl (Nat.le_refl _)) (by rfl) (HN.out.below ((KH.out.bl).alloc KH.out.bl.size _) KH.out.bl.size) (by have := HS.out.1; simp; omega) (by simp) ?_); intro A5 c5 w7 o5 g5 b5; have AP := hid (ap_of (w := w) o5 rfl b5); have KI := hid (KH.out.up AP.out.low); clear o5 g5 b5 x0 x1 x2 x3 x4 x5 x6 x7 hl0; obtain ⟨x0, x1, x2, x3, x4, x5, x6, x7⟩ := KI.out.bx.eight; have hl0 := KI.out.bx.lt)
  have b67 := below_hop AP.out.low CO.out.2
  refine (cpsrun_Run w7 c _ (fun b => WG.heap.size ≤ b) (fun b => w6.heap.size ≤ b) l A5 c5 b (CO.out.1.up AP.out.low) (own_iat AP.out.own (by have := HS.out.1; omega)).2 HNM.out (.inl (by have := HS.out; omega))).mono ?_
  rintro e w8 ⟨q, n2, A4, c4, A6, c6, hQ, rfl, hq1, hq2, b8⟩
  have KJ := hid (KI.out.up b8)
  have b58 := below_hop b8 b67
  have R2 := hid (And.intro hQ (And.intro hq1 hq2))
  have BJ := hid (BG.out.below b58 BG.out.lt)
  have B5 := hid (below_hop b58 BW.out)
  clear hQ hq1 hq2 b8 x0 x1 x2 x3 x4 x5 x6 x7 hl0 AP CO KG KH KI b67 b58 BG BW HWG
  obtain ⟨g0, g1, g2⟩ := BJ.out.three
  have hg := BJ.out.lt
  have HF := hid (runP_fuel HS.out.2.1 HS.out.2.2.1 (by have := HS.out.2.2.2; omega) R1.out.1 R2.out.1)
  obtain ⟨e1, W1, S1, r1⟩ := r
  obtain ⟨e2, W2, S2, r2⟩ := q
  dsimp only at R1 R2 BJ g0 g1 g2 ⊢
  obtain ⟨f1, f2, f3⟩ := HF.out
  dsimp only at f1 f2 f3
  clear HF
  have KL := hid (KJ.out.up (al1 w8 (.cells #[.int .i64 e2, .slice A4 W2.length c4, .slice A6 S2.length c6] 32)))
  have Z5 := hid (below_hop (al1 w8 (.cells #[.int .i64 e2, .slice A4 W2.length c4, .slice A6 S2.length c6] 32)) B5.out)
  have Z8 := hid (al1 w8 (.cells #[.int .i64 e2, .slice A4 W2.length c4, .slice A6 S2.length c6] 32))
  have I1 := hid (R1.out.2.1.ints Z5.out)
  have I2 := hid (R1.out.2.2.ints Z5.out)
  have I3 := hid (R2.out.2.1.ints Z8.out)
  have I4 := hid (R2.out.2.2.ints Z8.out)
  clear Z5 Z8 R1 R2 B5 BJ
  by_cases hr : r1 = 0
  · subst hr
    by_cases h9 : e1 = 3
    · subst h9
      have f4 := hid (f3 rfl rfl)
      clear f1 f2 f3
      by_cases h8 : r2 = 220
      · subst h8
        go_wp2_with (go_at_call 8; go_must ((refine (law23_wakes _).mono ?_); rintro e w9 ⟨rfl, b9⟩; have KZ := hid (KL.out.up b9)))
        go_ret
        exact ⟨rfl, KZ.out.bl⟩
      · have F := hid (f4.out.resolve_left h8)
        clear f4
        go_wp2_with (first
          | (go_at_call 12; (refine (keep_Begins _ A4 A1 _ _ _ _ W2 W1 _ (Nat.le_refl _) I3.out I1.out).mono ?_); rw [decide_eq_true F.out]; rintro e w10 ⟨rfl, b9⟩; have KM := hid (KL.out.up b9); clear KL)
          | (go_at_call 8; go_must ((refine (law23_wakes _).mono ?_); rintro e w9 ⟨rfl, b9⟩; have KZ := hid (KM.out.up b9))))
        go_ret
        exact ⟨rfl, KZ.out.bl⟩
    · have h6 := (f2 rfl h9).symm
      simp only [Prod.mk.injEq] at h6
      obtain ⟨rfl, rfl, rfl, rfl⟩ := h6
      clear f1 f2 f3
      go_wp2_with (first
        | (go_at_call 11; (refine (ref18_Same _ e1 e1 A1 A4 A3 A6 _ _ _ _ _ _ _ _ W1 W1 S1 S1 _ (Nat.le_refl _) I1.out I3.out I2.out I4.out).mono ?_); rw [decide_eq_true ⟨rfl, rfl, rfl⟩]; rintro e w10 ⟨rfl, b9⟩; have KM := hid (KL.out.up b9); clear KL)
        | (go_at_call 8; go_must ((refine (law23_wakes _).mono ?_); rintro e w9 ⟨rfl, b9⟩; have KZ := hid (KM.out.up b9))))
      go_ret
      exact ⟨rfl, KZ.out.bl⟩
  · obtain ⟨rfl, rfl⟩ := f1 hr
    clear f1 f2 f3
    go_wp2_with (go_at_call 8; go_must ((refine (law23_wakes _).mono ?_); rintro e w9 ⟨rfl, b9⟩; have KZ := hid (KL.out.up b9)))
    go_ret
    exact ⟨rfl, KZ.out.bl⟩
theorem walk (w : World) {v : Value} {c : Te} (hv : TAt w (fun b => b < w.heap.size) c v) {l : List Int} {A : Option Addr} {cA : Nat} (hI : IAt w (fun b => b < w.heap.size) l A cA) (a b : Int) (_ : (Lit.int .i64 a).wf = true) (_ : (Lit.int .i64 b).wf = true) : Calls Try.prog 3 #[v, .slice A l.length cA, .agg #[.int .i64 a, .int .i64 b]] w fun e w' => e = .returned (.bool true) ∧ Below w.heap.size w w' := by
  by_cases h : (300 : Int) < l.length ∨ ¬ (300 : Int) < l.length ∧ (a < 0 ∨ ¬ a < 0 ∧ (b < a ∨ ¬ b < a ∧ 20000 < b))
  · exact out_of w hv l A cA a b h
  · exact in_of w hv l A cA hI a b (by omega) (by omega) (by omega) (by omega)
set_option maxRecDepth 100000 in
theorem answers {H : Type} (enc : TypeId × Value → H) : Answers enc Try.prog 3 Try.f3 := by
  intro W base args ds ps hA hval hlt hwt
  rw [Try.params3] at hA hval
  obtain ⟨v0, vs0, d0, ds0, p0, q0, hargs, rfl, rfl, h0, r0⟩ := trodAll_cons hA
  obtain ⟨v1, vs1, d1, ds1, p1, q1, rfl, rfl, rfl, h1, r1⟩ := trodAll_cons r0
  obtain ⟨v2, vs2, d2, ds2, p2, q2, rfl, rfl, rfl, h2, r2⟩ := trodAll_cons r1
  obtain ⟨rfl, rfl, rfl⟩ := trodAll_nil r2
  obtain rfl : args = #[v0, v1, v2] := Array.ext' hargs
  obtain ⟨x0, i0⟩ := open_term (B := W.heap.size) (hval 0 27 v0 rfl rfl) h0 (fun p hp => hlt p (by simp [hp])) (wt_of hwt (j := 0) rfl rfl)
  obtain ⟨x1, A1, c1, rfl, i1⟩ := open_iat (B := W.heap.size) (hval 1 22 v1 rfl rfl) h1 (fun p hp => hlt p (by simp [hp])) (wt_of hwt (j := 1) rfl rfl)
  obtain ⟨a2, b2, rfl, w2, u2⟩ := open_two (hval 2 28 v2 rfl rfl) h2
  exact walk W i0 i1 a2 b2 w2 u2
theorem hspec {H : Type} (ds : List (DataW H)) (h : ds.length = (Try.f3).params.toList.length) : Rows.cpsrunFuelSpec.fn H ds = { results := [.lit (.bool true)], args := ds } := by
  rw [Try.params3] at h
  match ds, h with
  | [_, _, _], _ => rfl
theorem lifted (os : Os) (started : os.Started) (H : Type) (enc : TypeId × Value → H) : ReturnsInHanded {} Try.checked os 3 .any (Rows.cpsrunFuelSpec.pre6 enc Try.prog Try.f3 Rows.cpsrunFuelRow.domain false) (Rows.cpsrunFuelSpec.post enc Try.prog Try.f3 false true false false) :=
  lifted_of_walk (tb := 4) (by kernel_rfl) started (by kernel_rfl) Try.func3 rfl hspec rfl Try.underlying4 (by kernel_rfl) (by kernel_rfl)
    (ChangeSpec.witness6 (enc := enc) (C := Try.checked) false ⟨#[], #[.agg #[.int .i64 0, .int .i64 0, .int .i64 0, .bool false, .slice none 0 0, .slice none 0 0, .slice none 0 0, .slice none 0 0], .slice none 0 0, .agg #[.int .i64 0, .int .i64 0]], []⟩ 8 (by kernel_rfl) (by kernel_rfl) (by kernel_rfl) (by kernel_rfl)) (answers enc)
theorem over : Rows.cpsrunFuelRow.holds Try.pinned (OpenSpec.ofChange Rows.cpsrunFuelSpec) :=
  OpenClaim.holds_of_wide 3 Try.f3 rfl rfl rfl rfl rfl rfl rfl ⟨rfl, rfl, rfl, rfl, rfl⟩ rfl rfl rfl rfl rfl (by kernel_rfl) Try.func3 (by kernel_rfl)
    (of_decide_eq_true (by kernel_rfl)) (by unfold Func.isWrapper; first | (rw [if_pos (by decide +kernel)]; kernel_rfl) | (rw [if_neg (by decide +kernel)]; exact ⟨rfl, rfl⟩))
    (fun os started H enc _ => lifted os started H enc)
/-- THE STATEMENT. -/
theorem proved : Rows.CpsrunFuelSaid := over
#print axioms proved
end Go.Proofs.Ytdmkjndlobichaa.cpsrunFuel
