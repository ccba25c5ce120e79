/-
  THE LAW TypMost.
-/
import Derived.Test.YtnlifgcnmhakiaaDoorPostL
import Derived.Test.YtnlifgcnmhakiaaDoorTMostL
import Derived.Test.YtnlifgcnmhakiaaDoorRegTail
import Derived.Test.YtnlifgcnmhakiaaDoorTSymP
import Derived.Test.YtnlifgcnmhakiaaDoorTie
import Derived.Test.YtnlifgcnmhakiaaDoorCards
import Derived.SevenTiedAt
import Derived.Deep.CutBlock
namespace Go.Proofs.YtnlifgcnmhakiaaDoor.typMost
open Go.ChangeShapes Go.WideShapes Go.ChangeAt Go.RowKit
def RS (R gt gu : Nat) (va vb a0 a1 a2 a3 b0 b1 b2 b3 : Value) (w' : World) : Prop := w'.cell? ⟨gt, 0, none⟩ = some a0 ∧ w'.cell? ⟨gt, 1, none⟩ = some a1 ∧ w'.cell? ⟨gt, 2, none⟩ = some a2 ∧ w'.cell? ⟨gt, 3, none⟩ = some a3 ∧ w'.cell? ⟨gu, 0, none⟩ = some b0 ∧ w'.cell? ⟨gu, 1, none⟩ = some b1 ∧ w'.cell? ⟨gu, 2, none⟩ = some b2 ∧ w'.cell? ⟨gu, 3, none⟩ = some b3 ∧ w'.cell? ⟨R, 3, none⟩ = some va ∧ w'.cell? ⟨R + 1, 3, none⟩ = some vb
theorem rs {R gt gu : Nat} {va vb x0 x1 x2 y0 y1 y2 a0 a1 a2 a3 b0 b1 b2 b3 : Value} {w' : World} (h : Blk w' gt 24 #[a0, a1, a2, a3]) (k : Blk w' gu 24 #[b0, b1, b2, b3]) (p : Blk w' R 24 #[x0, x1, x2, va]) (q : Blk w' (R + 1) 24 #[y0, y1, y2, vb]) : RS R gt gu va vb a0 a1 a2 a3 b0 b1 b2 b3 w' :=
  ⟨h.cell 0, h.cell 1, h.cell 2, h.cell 3, k.cell 0, k.cell 1, k.cell 2, k.cell 3, p.cell 3, q.cell 3⟩
set_option maxHeartbeats 16000000 in
set_option maxRecDepth 100000 in
theorem walk (w : World) (nv : Int) (hnv : (Lit.int .u8 nv).wf = true) {l : Value} {ps : List (Ty × Ty)} (hp : PsAt w (fun b => b < w.heap.size) ps l) :
    Calls Tryd.prog 4 #[.int .u8 nv, l] w fun e w' => e = .returned (.bool true) ∧ Below w.heap.size w w' := by
  have HPs := hid hp
  obtain ⟨A0, c0, rfl, hpl1, hpl2, hrow⟩ := hp
  have HR := hid hrow
  have hL : ps.length ≤ 9223372036854775807 := by unfold maxLen at hpl2; omega
  have Hnv := hid hnv
  obtain ⟨k9, hk9⟩ : ∃ k : Nat, k = min ps.length 8 := ⟨_, rfl⟩
  have hk1 : k9 ≤ 8 := by omega
  have HK9 := hid (show k9 ≤ ps.length by omega)
  have hmin : min (ps.length : Int) 8 = (k9 : Int) := by omega
  clear hrow hpl1 hpl2 hnv hk9
  go_enter Tryd.func4, Tryd.ntmps4
  go_upto_region 7 with (first
    | (go_at_call 12; (with_reducible refine (law15_large ps _ (fun b => b < w.heap.size) w HPs.out).mono ?_); rintro e w1 ⟨⟨l1, rfl, hl1⟩, b1⟩; go_must (have HB := hid b1; have HL1 := hid hl1; clear b1 hl1))
    | (go_at_call 6; go_must (refine (law15_wakes _).mono ?_); rintro e w9 ⟨rfl, b9⟩)
    | (go_at_call 13; go_must (refine (law15_few nv Hnv.out _).mono ?_); rintro e w3 ⟨rfl, rfl⟩)
    | (go_at_call 14; (with_reducible refine (law15_both (fewF nv) (by have := fewF_le nv; omega) w1).mono ?_); rintro e w4 ⟨⟨v1, v2, rfl, F1, F2⟩, b9⟩; go_must (have HF := hid F1; have h9 := hid (below_hop b9 HB.out); have hw1 := hid HB.out.size; clear HB; have HB := h9; clear h9; clear b9 F1 F2))
    | (go_at_call 14; (with_reducible refine (law15_both (fewF nv) (by have := fewF_le nv; omega) w4).mono ?_); rintro e w5 ⟨⟨v3, v4, rfl, F3, F4⟩, b9⟩; go_must (have HF2 := hid (And.intro (HF.out.keep (b9.block _ HF.out.blk.lt) (fun g hg => b9.block _ (HF.out.row.lt g hg).2)) (And.intro F3 (And.intro (fun g hg => (HF.out.row.lt g hg).2 : ∀ g, v1.ownBlock = some g → g < w4.heap.size) HF.out.blk.lt))); have h9 := hid (below_hop b9 HB.out); clear HB; have HB := h9; clear h9; clear b9 F3 F4)))
  · go_ret
    exact ⟨rfl, below_hop b9 HB.out⟩
  have HFew := hid (HL1.out (by cases l1 <;> simp_all))
  have hfw := fewF_le nv
  have hf2 := HF2.out
  obtain ⟨F, pv1, c1, pv2, c2, S1, S2, ne1, ne2, ne3⟩ := two_sols (B := w1.heap.size) hf2.1 (hf2.2.1.weak (Nat.le_of_lt hf2.2.2.2)) (Nat.le_refl _) (Nat.le_of_lt hf2.2.2.2) (by omega) (by omega) (fun g hg e => by have h1 := hf2.2.2.1 g hg; have h2 := (hf2.2.1.rowBlk e).1; omega)
  have HT : Hid (TS2 F w1.heap.size w w1.heap.size pv1 c1 w4.heap.size pv2 c2 ((List.replicate (fewF nv) none)) ((List.replicate (fewF nv) none)) (w5)) := hid ⟨HB.out, S1, S2, ⟨ne1, ne2, ne3⟩, hw1.out⟩
  have HRn := hid (Rn.start (fewF nv) (ps.take k9))
  clear S1 S2 HF HF2 hf2 HL1 HB ne1 ne2 ne3 hw1
  obtain ⟨nf, hnf⟩ : ∃ nf, nf = fewF nv := ⟨_, rfl⟩
  have HNF := hid (show 1 ≤ nf ∧ nf ≤ 12 by omega)
  rw [← hnf] at HT HRn ⊢
  clear hnf hfw
  generalize hσ : List.replicate nf none = σ0 at HT HRn
  go_cut [10, 11] (fun s10 s11 wx => s10 = .int .i64 k9 ∧ s11 = .int .i64 0 ∧ Hid (TS2 F w1.heap.size w w1.heap.size pv1 c1 w4.heap.size pv2 c2 (σ0) (σ0) (wx)))
  case first =>
    go_wp2_with fail
    all_goals
      go_meet
      exact ⟨by congr 1; omega, rfl, HT⟩
  case rest =>
  clear HT
  obtain ⟨rfl, rfl, HT⟩ := hcut
  clear hmin
  go_wp2_with fail
  go_loopg [11] k9 (fun g y wr => ∃ (i : Nat) (σ τ : Sg), i + g = k9 ∧ y = .int .i64 i ∧ Hid (TS2 F w1.heap.size w w1.heap.size pv1 c1 w4.heap.size pv2 c2 (σ) (τ) (wr)) ∧ Hid (Rn nf (ps.take k9) i σ τ))
  case atStart => exact ⟨0, _, _, by omega, rfl, HT, HRn⟩
  case round =>
    clear HT HRn
    obtain ⟨i, σ, τ, hi, rfl, HT, HRn⟩ := hrel
    have Hi := hid hi
    by_cases hlt : i < k9
    case neg =>
      obtain rfl : i = k9 := by omega
      clear hi
      have hlt' : ¬ (i : Int) < i := by omega
      have HMo := hid (HRn.out.all HK9.out)
      clear HRn hlt
      go_wp2_with fail
      have HL0 := HT.out.still.up (al2 wr (.cells #[.int .i64 4, .string ⟨#[97, 108, 108]⟩, .int .i64 0, .slice none 0 0] 24) (.cells #[.int .i64 4, .string ⟨#[97, 108, 108]⟩, .int .i64 0, .slice none 0 0] 24))
      have BA0 := bk20 wr 24 #[.int .i64 4, .string ⟨#[97, 108, 108]⟩, .int .i64 0, .slice none 0 0] (.cells #[.int .i64 4, .string ⟨#[97, 108, 108]⟩, .int .i64 0, .slice none 0 0] 24)
      have BB0 := bk21 wr 24 #[.int .i64 4, .string ⟨#[97, 108, 108]⟩, .int .i64 0, .slice none 0 0] (.cells #[.int .i64 4, .string ⟨#[97, 108, 108]⟩, .int .i64 0, .slice none 0 0] 24)
      obtain ⟨W2, hW2⟩ : ∃ W2, W2 = (wr.alloc (.cells #[.int .i64 4, .string ⟨#[97, 108, 108]⟩, .int .i64 0, .slice none 0 0] 24)).alloc (.cells #[.int .i64 4, .string ⟨#[97, 108, 108]⟩, .int .i64 0, .slice none 0 0] 24) := ⟨_, rfl⟩
      have hR2 : W2.heap.size = wr.heap.size + 2 := by rw [hW2]; simp
      rw [← hW2] at HL0 BA0 BB0 ⊢
      obtain ⟨R, hR⟩ : ∃ R, R = wr.heap.size := ⟨_, rfl⟩
      rw [← hR] at HL0 BA0 BB0 hR2 ⊢
      obtain ⟨FR, hFR⟩ : ∃ FR : Nat → Prop, FR = fun b => F b ∧ b < R := ⟨_, rfl⟩
      rw [← hFR] at HL0
      have HL1 := hid HL0
      have BA1 := hid BA0
      have BB1 := hid BB0
      clear HT HL0 BA0 BB0 hW2 hR hFR hlt'
      go_loopg [16] nf (fun g y wq => ∃ (n : Nat) (A A' : Option Addr) (c c' : Nat) (xs ys : List Value), n + g = nf ∧ y = .int .i64 (n + 1) ∧ Hid (L2 FR R w w1.heap.size pv1 c1 w4.heap.size pv2 c2 σ τ (wq)) ∧ Hid (Blk (wq) R 24 #[.int .i64 4, .string ⟨#[97, 108, 108]⟩, .int .i64 0, .slice (A) (n) (c)]) ∧ Hid (Blk (wq) (R + 1) 24 #[.int .i64 4, .string ⟨#[97, 108, 108]⟩, .int .i64 0, .slice (A') (n) (c')]) ∧ Hid (Bn (R + 2) (mostL σ n) (n) (.slice (A) (n) (c)) xs (.slice (A') (n) (c')) (wq) ∧ Bn (R + 2) (mostL τ n) (n) (.slice (A') (n) (c')) ys (.slice (A) (n) (c)) (wq)) ∧ Hid (R + 2 ≤ wq.heap.size))
      case atStart => exact ⟨0, none, none, 0, 0, [], [], by omega, rfl, HL1, BA1, BB1, hid ⟨Bn.start _ _ _, Bn.start _ _ _⟩, hid (by omega)⟩
      case round =>
        clear HL1 BA1 BB1 hR2
        obtain ⟨n, A, A', c, c', xs, ys, hi2, rfl, HL, BA, BB, BN, HW⟩ := hrel
        have Hi2 := hid hi2
        by_cases hln : n < nf
        case neg =>
          obtain rfl : n = nf := by omega
          have hle : ¬ (n : Int) + 1 ≤ n := by omega
          clear hi2 hln
          obtain ⟨r, hr⟩ : ∃ r, r = canonF (allT ⟨#[97, 108, 108]⟩ (mostL σ n)) := ⟨_, rfl⟩
          have HRA := hid hr.symm
          have HRB := hid ((HMo.out.canon ⟨#[97, 108, 108]⟩ (by decide) (Nat.le_refl n)).symm.trans hr.symm)
          clear hr
          obtain ⟨u, g⟩ := r
          have hsame := hid ((sameT_iff u u).2 rfl)
          have y0 := BA.out.four.1
          have y1 := BA.out.four.2.1
          have y2 := BA.out.four.2.2.1
          have y3 := BA.out.four.2.2.2.1
          go_wp2_with (first
            | (go_at_call 7; (with_reducible refine (typ_Canon (allT ⟨#[97, 108, 108]⟩ (mostL σ n)) _ _ _ (fun _ h => h) (most_end BN.out.1)).mono ?_); unfold CanonP; rw [HRA.out]; rintro e w2 ⟨⟨v, rfl, hv⟩, b9⟩; obtain ⟨qt, st, nt, At, mt, ct, rfl⟩ := hv.agg; have TV0 := hid hv.all; have h9 := hid (HL.out.up b9); clear HL; have HL := h9; clear h9; have h9 := hid (BA.out.below b9 BA.out.lt); clear BA; have BA := h9; clear h9; have h9 := hid (BB.out.below b9 BB.out.lt); clear BB; have BB := h9; clear h9; have h9 := hid (And.intro (BN.out.1.upB b9) (BN.out.2.upB b9)); clear BN; have BN := h9; clear h9; (try (have h9 := hid (TV1.out.up b9); clear TV1; have TV1 := h9; clear h9)); (try (have h9 := hid (BT1.out.below b9 BT1.out.lt); clear BT1; have BT1 := h9; clear h9)); (try (have h9 := hid (TV2.out.up b9); clear TV2; have TV2 := h9; clear h9)); (try (have h9 := hid (BT2.out.below b9 BT2.out.lt); clear BT2; have BT2 := h9; clear h9)); have BX := hid (And.intro TV0.out (Blk.new w2 24 #[.int .i64 qt, .string st, .int .i64 nt, .slice At mt ct])); have yy := (BB.out.alloc (.cells #[.int .i64 qt, .string st, .int .i64 nt, .slice At mt ct] 24)).four; have z0 := yy.1; have z1 := yy.2.1; have z2 := yy.2.2.1; have z3 := yy.2.2.2.1; have x0 := BB.out.four.1; have x1 := BB.out.four.2.1; have x2 := BB.out.four.2.2.1; have x3 := BB.out.four.2.2.2.1; clear hv b9 TV0 y0 y1 y2 y3 yy)
            | (go_at_call 7; (with_reducible refine (typ_Canon (allT ⟨#[97, 108, 108]⟩ (mostL τ n)) _ _ _ (fun _ h => h) (most_end (BN.out.2.upB (al1 w2 _)))).mono ?_); unfold CanonP; rw [HRB.out]; rintro e w3 ⟨⟨v, rfl, hv⟩, b8⟩; obtain ⟨qu, su, nu, Au, mu, cu, rfl⟩ := hv.agg; have b9 := below_hop b8 (al1 w2 _); have h9 := hid (HL.out.up b9); clear HL; have HL := h9; clear h9; have h9 := hid (BA.out.below b9 BA.out.lt); clear BA; have BA := h9; clear h9; have h9 := hid (BB.out.below b9 BB.out.lt); clear BB; have BB := h9; clear h9; have h9 := hid (And.intro (BN.out.1.upB b9) (BN.out.2.upB b9)); clear BN; have BN := h9; clear h9; (try (have h9 := hid (TV1.out.up b9); clear TV1; have TV1 := h9; clear h9)); (try (have h9 := hid (BT1.out.below b9 BT1.out.lt); clear BT1; have BT1 := h9; clear h9)); (try (have h9 := hid (TV2.out.up b9); clear TV2; have TV2 := h9; clear h9)); (try (have h9 := hid (BT2.out.below b9 BT2.out.lt); clear BT2; have BT2 := h9; clear h9)); have BX2 := hid (And.intro (BX.out.1.up b9) (BX.out.2.below b8 (by simp))); have TV2 := hid (And.intro hv.all BX2.out.2.lt); clear b8 b9 hv z0 z1 z2 z3 x0 x1 x2 x3 BX; have yx := (BX2.out.2.alloc (.cells #[.int .i64 qu, .string su, .int .i64 nu, .slice Au mu cu] 24)).four; have yy := (Blk.new w3 24 #[.int .i64 qu, .string su, .int .i64 nu, .slice Au mu cu]).four; have y0 := yx.1; have y1 := yx.2.1; have y2 := yx.2.2.1; have y3 := yx.2.2.2.1; have z0 := yy.1; have z1 := yy.2.1; have z2 := yy.2.2.1; have z3 := yy.2.2.2.1; clear yx yy)
            | (go_at_call 10; (with_reducible refine (ref15_Same u u _ _ _ _ _ (BX2.out.1.up (al1 w3 _)) (TV2.out.1.up (al1 w3 _))).mono ?_); unfold SameP; rw [hsame.out]; rintro e w6 ⟨rfl, b8⟩; have b9 := below_hop b8 (al1 w3 _); have h9 := hid (HL.out.up b9); clear HL; have HL := h9; clear h9; have h9 := hid (BA.out.below b9 BA.out.lt); clear BA; have BA := h9; clear h9; have h9 := hid (BB.out.below b9 BB.out.lt); clear BB; have BB := h9; clear h9; have h9 := hid (And.intro (BN.out.1.upB b9) (BN.out.2.upB b9)); clear BN; have BN := h9; clear h9; (try (have h9 := hid (TV1.out.up b9); clear TV1; have TV1 := h9; clear h9)); (try (have h9 := hid (BT1.out.below b9 BT1.out.lt); clear BT1; have BT1 := h9; clear h9)); (try (have h9 := hid (TV2.out.up b9); clear TV2; have TV2 := h9; clear h9)); (try (have h9 := hid (BT2.out.below b9 BT2.out.lt); clear BT2; have BT2 := h9; clear h9)); clear b8 b9)
            | (go_at_call 6; go_must (refine (law15_wakes _).mono ?_); rintro e w9 ⟨rfl, b9⟩))
          go_ret
          exact ⟨rfl, below_hop b9 HL.out.hb⟩
        have hle : (n : Int) + 1 ≤ nf := by omega
        have hnf12 := HNF.out
        have hw0 : IntKind.i64.wrap ((n : Int) + 1 + 1) = (n : Int) + 1 + 1 := IntWalk.i64_in _ (by omega)
        have HN1 := hid (show (Lit.int .i64 ((n : Int) + 1)).wf = true by simp [Lit.wf, IntKind.min, IntKind.max, IntKind.signed, IntKind.bits]; omega)
        have hc1 := HMo.out.code1 (n := (n : Int) + 1) (by omega) (by omega)
        have hc2 := HMo.out.symm.code1 (n := (n : Int) + 1) (by omega) (by omega)
        have hnd := HMo.out.nodes_eq (n := (n : Int) + 1) (by omega) (by omega)
        rw [hnd] at hc2
        have HOW := hid (fun b (hb : wr.heap.size ≤ b) => (⟨by have := HW.out; omega, fun e => by have := BN.out.1.row.lt b e; omega, fun e => by have := BN.out.2.row.lt b e; omega⟩ : R + 2 ≤ b ∧ (Value.slice A n c).ownBlock ≠ some b ∧ (Value.slice A' n c').ownBlock ≠ some b))
        by_cases hno : nodes (wrT σ (vT ((n : Int) + 1))) ≤ 1024
        case neg =>
          rw [if_neg hno] at hc1 hc2
          have HC1 := hid hc1
          have HC2 := hid hc2
          clear hc1 hc2 hnd hno hi2 hln hnf12
          go_wp2_with (first
            | (go_at_call 16; (with_reducible refine (HL.out.app1 HN1.out).mono ?_); rw [HC1.out]; rintro e w2 ⟨⟨v, rfl, hv⟩, b9⟩; obtain ⟨qt, st, nt, At, mt, ct, rfl⟩ := hv.agg; have TV0 := hid (hv.mono (T := fun b => R + 2 ≤ b ∧ (Value.slice A n c).ownBlock ≠ some b ∧ (Value.slice A' n c').ownBlock ≠ some b) (fun b hb _ => HOW.out b hb)); have HW2 := hid b9.size; have h9 := hid (HL.out.up b9); clear HL; have HL := h9; clear h9; have h9 := hid (BA.out.below b9 BA.out.lt); clear BA; have BA := h9; clear h9; have h9 := hid (BB.out.below b9 BB.out.lt); clear BB; have BB := h9; clear h9; have h9 := hid (And.intro (BN.out.1.upB b9) (BN.out.2.upB b9)); clear BN; have BN := h9; clear h9; (try (have h9 := hid (TV1.out.up b9); clear TV1; have TV1 := h9; clear h9)); (try (have h9 := hid (BT1.out.below b9 BT1.out.lt); clear BT1; have BT1 := h9; clear h9)); (try (have h9 := hid (TV2.out.up b9); clear TV2; have TV2 := h9; clear h9)); (try (have h9 := hid (BT2.out.below b9 BT2.out.lt); clear BT2; have BT2 := h9; clear h9)); have TV1 := TV0; clear TV0 hv b9)
            | (go_at_call 16; (with_reducible refine ((HL.out.up (al1 w2 _)).app2 HN1.out).mono ?_); rw [HC2.out]; rintro e w3 ⟨⟨v, rfl, hv⟩, b8⟩; obtain ⟨qu, su, nu, Au, mu, cu, rfl⟩ := hv.agg; have hsz := b8.size; have TV0 := hid (hv.mono (T := fun b => R + 2 ≤ b ∧ (Value.slice A n c).ownBlock ≠ some b ∧ (Value.slice A' n c').ownBlock ≠ some b) (fun b hb _ => HOW.out b (by have := HW2.out; simp at hb; omega))); have BT1 := hid ((Blk.new w2 24 #[.int .i64 qt, .string st, .int .i64 nt, .slice At mt ct]).below b8 (by simp)); have b9 := below_hop b8 (al1 w2 _); (have h9 := hid (BT1.out); clear BT1; have h9 := hid (HL.out.up b9); clear HL; have HL := h9; clear h9; have h9 := hid (BA.out.below b9 BA.out.lt); clear BA; have BA := h9; clear h9; have h9 := hid (BB.out.below b9 BB.out.lt); clear BB; have BB := h9; clear h9; have h9 := hid (And.intro (BN.out.1.upB b9) (BN.out.2.upB b9)); clear BN; have BN := h9; clear h9; (try (have h9 := hid (TV1.out.up b9); clear TV1; have TV1 := h9; clear h9)); (try (have h9 := hid (BT1.out.below b9 BT1.out.lt); clear BT1; have BT1 := h9; clear h9)); (try (have h9 := hid (TV2.out.up b9); clear TV2; have TV2 := h9; clear h9)); (try (have h9 := hid (BT2.out.below b9 BT2.out.lt); clear BT2; have BT2 := h9; clear h9)); have BT1 := h9; clear h9); have TV2 := TV0; clear TV0 hv b8 b9 hsz)
            | (go_at_call 6; go_must (refine (law15_wakes _).mono ?_); rintro e w9 ⟨rfl, b9⟩))
          go_ret
          exact ⟨rfl, below_hop b9 (HL.out.up (al1 w3 _)).hb⟩
        rw [if_pos hno] at hc1 hc2
        obtain ⟨t1, ht1⟩ : ∃ t, t = wrT σ (vT ((n : Int) + 1)) := ⟨_, rfl⟩
        obtain ⟨t2, ht2⟩ : ∃ t, t = wrT τ (vT ((n : Int) + 1)) := ⟨_, rfl⟩
        rw [← ht1] at hc1
        rw [← ht2] at hc2
        have HC1 := hid hc1
        have HC2 := hid hc2
        have HT12 := hid (And.intro ht1 ht2)
        clear hc1 hc2 hnd hno hi2 hln hnf12 ht1 ht2
        go_upto_region 22 with (first
          | (go_at_call 16; (with_reducible refine (HL.out.app1 HN1.out).mono ?_); rw [HC1.out]; rintro e w2 ⟨⟨v, rfl, hv⟩, b9⟩; obtain ⟨qt, st, nt, At, mt, ct, rfl⟩ := hv.agg; have TV0 := hid (hv.mono (T := fun b => R + 2 ≤ b ∧ (Value.slice A n c).ownBlock ≠ some b ∧ (Value.slice A' n c').ownBlock ≠ some b) (fun b hb _ => HOW.out b hb)); have HW2 := hid b9.size; have h9 := hid (HL.out.up b9); clear HL; have HL := h9; clear h9; have h9 := hid (BA.out.below b9 BA.out.lt); clear BA; have BA := h9; clear h9; have h9 := hid (BB.out.below b9 BB.out.lt); clear BB; have BB := h9; clear h9; have h9 := hid (And.intro (BN.out.1.upB b9) (BN.out.2.upB b9)); clear BN; have BN := h9; clear h9; (try (have h9 := hid (TV1.out.up b9); clear TV1; have TV1 := h9; clear h9)); (try (have h9 := hid (BT1.out.below b9 BT1.out.lt); clear BT1; have BT1 := h9; clear h9)); (try (have h9 := hid (TV2.out.up b9); clear TV2; have TV2 := h9; clear h9)); (try (have h9 := hid (BT2.out.below b9 BT2.out.lt); clear BT2; have BT2 := h9; clear h9)); have TV1 := TV0; clear TV0 hv b9)
          | (go_at_call 16; (with_reducible refine ((HL.out.up (al1 w2 _)).app2 HN1.out).mono ?_); rw [HC2.out]; rintro e w3 ⟨⟨v, rfl, hv⟩, b8⟩; obtain ⟨qu, su, nu, Au, mu, cu, rfl⟩ := hv.agg; have hsz := b8.size; have TV0 := hid (hv.mono (T := fun b => R + 2 ≤ b ∧ (Value.slice A n c).ownBlock ≠ some b ∧ (Value.slice A' n c').ownBlock ≠ some b) (fun b hb _ => HOW.out b (by have := HW2.out; simp at hb; omega))); have BT1 := hid ((Blk.new w2 24 #[.int .i64 qt, .string st, .int .i64 nt, .slice At mt ct]).below b8 (by simp)); have b9 := below_hop b8 (al1 w2 _); (have h9 := hid (BT1.out); clear BT1; have h9 := hid (HL.out.up b9); clear HL; have HL := h9; clear h9; have h9 := hid (BA.out.below b9 BA.out.lt); clear BA; have BA := h9; clear h9; have h9 := hid (BB.out.below b9 BB.out.lt); clear BB; have BB := h9; clear h9; have h9 := hid (And.intro (BN.out.1.upB b9) (BN.out.2.upB b9)); clear BN; have BN := h9; clear h9; (try (have h9 := hid (TV1.out.up b9); clear TV1; have TV1 := h9; clear h9)); (try (have h9 := hid (BT1.out.below b9 BT1.out.lt); clear BT1; have BT1 := h9; clear h9)); (try (have h9 := hid (TV2.out.up b9); clear TV2; have TV2 := h9; clear h9)); (try (have h9 := hid (BT2.out.below b9 BT2.out.lt); clear BT2; have BT2 := h9; clear h9)); have BT1 := h9; clear h9); have TV2 := TV0; clear TV0 hv b8 b9 hsz))
        have NE0 := hid (show ((Value.slice A n c).ownBlock ≠ some w2.heap.size ∧ (Value.slice A n c).ownBlock ≠ some w3.heap.size ∧ (Value.slice A n c).ownBlock ≠ some R ∧ (Value.slice A n c).ownBlock ≠ some (R + 1)) ∧ ((Value.slice A' n c').ownBlock ≠ some w2.heap.size ∧ (Value.slice A' n c').ownBlock ≠ some w3.heap.size ∧ (Value.slice A' n c').ownBlock ≠ some R ∧ (Value.slice A' n c').ownBlock ≠ some (R + 1)) from ⟨⟨(HOW.out _ HW2.out).2.1, fun e => by have := BN.out.1.row.lt _ e; omega, fun e => by have := BN.out.1.row.lt _ e; omega, fun e => by have := BN.out.1.row.lt _ e; omega⟩, ⟨(HOW.out _ HW2.out).2.2, fun e => by have := BN.out.2.row.lt _ e; omega, fun e => by have := BN.out.2.row.lt _ e; omega, fun e => by have := BN.out.2.row.lt _ e; omega⟩⟩)
        have b9 := al1 w3 (.cells #[.int .i64 qu, .string su, .int .i64 nu, .slice Au mu cu] 24)
        have BT20 := hid (Blk.new w3 24 #[.int .i64 qu, .string su, .int .i64 nu, .slice Au mu cu])
        obtain ⟨wz, hwz⟩ : ∃ x, x = w3.alloc (.cells #[.int .i64 qu, .string su, .int .i64 nu, .slice Au mu cu] 24) := ⟨_, rfl⟩
        have HZ := hid (show R + 2 ≤ w3.heap.size by have := BB.out.lt; omega)
        have NBT := hid (show (Value.slice A n c).ownBlock ≠ some w3.heap.size ∧ (Value.slice A n c).ownBlock ≠ some R ∧ (Value.slice A n c).ownBlock ≠ some (R + 1) from ⟨fun e => by have := BN.out.1.row.lt _ e; omega, fun e => by have := BN.out.1.row.lt _ e; omega, fun e => by have := BN.out.1.row.lt _ e; omega⟩)
        have HZ0 := hid (show R + 2 ≤ (w3.alloc (.cells #[.int .i64 qu, .string su, .int .i64 nu, .slice Au mu cu] 24)).heap.size by have := HZ.out; simp; omega)
        clear HZ
        rw [← hwz] at b9 BT20 HZ0 ⊢
        have HZ := HZ0
        clear HZ0
        obtain ⟨gu, hgu⟩ : ∃ gu, gu = w3.heap.size := ⟨_, rfl⟩
        obtain ⟨gt, hgt⟩ : ∃ gt, gt = w2.heap.size := ⟨_, rfl⟩
        rw [← hgu] at BT20 NBT NE0 ⊢
        rw [← hgt] at BT1 NE0 ⊢
        have h9 := hid (HL.out.up b9); clear HL; have HL := h9; clear h9; have h9 := hid (BA.out.below b9 BA.out.lt); clear BA; have BA := h9; clear h9; have h9 := hid (BB.out.below b9 BB.out.lt); clear BB; have BB := h9; clear h9; have h9 := hid (And.intro (BN.out.1.upB b9) (BN.out.2.upB b9)); clear BN; have BN := h9; clear h9; (try (have h9 := hid (TV1.out.up b9); clear TV1; have TV1 := h9; clear h9)); (try (have h9 := hid (BT1.out.below b9 BT1.out.lt); clear BT1; have BT1 := h9; clear h9)); (try (have h9 := hid (TV2.out.up b9); clear TV2; have TV2 := h9; clear h9)); (try (have h9 := hid (BT2.out.below b9 BT2.out.lt); clear BT2; have BT2 := h9; clear h9))
        have BT2 := BT20
        have NOW := hid (fun b (e : (Value.slice A n c).ownBlock = some b) => (by have := BN.out.1.row.lt b e; omega : R ≤ b))
        have HN12 := hid (show n + 1 ≤ 13 by have := HNF.out; omega)
        clear BT20 b9 hwz hgu hgt HW2 HC1 HC2 HOW
        have b9 : Below wz.heap.size wz wz.drew := (Below.refl _ _).drew
        have h9 := hid (HL.out.up b9); clear HL; have HL := h9; clear h9; have h9 := hid (BA.out.below b9 BA.out.lt); clear BA; have BA := h9; clear h9; have h9 := hid (BB.out.below b9 BB.out.lt); clear BB; have BB := h9; clear h9; have h9 := hid (And.intro (BN.out.1.upB b9) (BN.out.2.upB b9)); clear BN; have BN := h9; clear h9; (try (have h9 := hid (TV1.out.up b9); clear TV1; have TV1 := h9; clear h9)); (try (have h9 := hid (BT1.out.below b9 BT1.out.lt); clear BT1; have BT1 := h9; clear h9)); (try (have h9 := hid (TV2.out.up b9); clear TV2; have TV2 := h9; clear h9)); (try (have h9 := hid (BT2.out.below b9 BT2.out.lt); clear BT2; have BT2 := h9; clear h9))
        have HS := hid (rs BT1.out BT2.out BA.out BB.out)
        refine wp_region_T (S := RS R gt gu (.slice A n c) (.slice A' n c') (.int .i64 qt) (.string st) (.int .i64 nt) (.slice At mt ct) (.int .i64 qu) (.string su) (.int .i64 nu) (.slice Au mu cu)) (n := 11) (by kernel_rfl) (?_ : wpAnyT _ _ _ _ _ 11 14 (Array.replicate 14 false) _ _)
        refine wpAnyT_take (i := 0) (v := .pointer (some ⟨R, 3, none⟩)) rfl (by decide) (by kernel_rfl) (fun _ _ _ h => h) (.inl ⟨by simp [Region.wanted], fun w7 hS7 => ?_⟩) HS.out ?_
        · obtain ⟨s0, s1, s2, s3, s4, s5, s6, s7, s8, s9⟩ := hS7; go_simp
        refine wpAnyT_take (i := 5) (v := .pointer (some ⟨R + 1, 3, none⟩)) rfl (by decide) (by kernel_rfl) (fun _ _ _ h => h) (.inl ⟨by simp [Region.wanted], fun w7 hS7 => ?_⟩) HS.out ?_
        · obtain ⟨s0, s1, s2, s3, s4, s5, s6, s7, s8, s9⟩ := hS7; go_simp
        refine wpAnyT_take (i := 1) (v := .slice A n c) rfl (by decide) (by kernel_rfl) (fun _ _ _ h => h) (.inl ⟨by simp [Region.wanted], fun w7 hS7 => ?_⟩) HS.out ?_
        · obtain ⟨s0, s1, s2, s3, s4, s5, s6, s7, s8, s9⟩ := hS7; go_simp
        refine wpAnyT_take (i := 6) (v := .slice A' n c') rfl (by decide) (by kernel_rfl) (fun _ _ _ h => h) (.inl ⟨by simp [Region.wanted], fun w7 hS7 => ?_⟩) HS.out ?_
        · obtain ⟨s0, s1, s2, s3, s4, s5, s6, s7, s8, s9⟩ := hS7; go_simp
        refine wpAnyT_take (i := 2) (v := .agg #[.int .i64 qt, .string st, .int .i64 nt, .slice At mt ct]) rfl (by decide) (by kernel_rfl) (fun _ _ _ h => h) (.inl ⟨by simp [Region.wanted], fun w7 hS7 => ?_⟩) HS.out ?_
        · obtain ⟨s0, s1, s2, s3, s4, s5, s6, s7, s8, s9⟩ := hS7; go_simp
        refine wpAnyT_take (i := 7) (v := .agg #[.int .i64 qu, .string su, .int .i64 nu, .slice Au mu cu]) rfl (by decide) (by kernel_rfl) (fun _ _ _ h => h) (.inl ⟨by simp [Region.wanted], fun w7 hS7 => ?_⟩) HS.out ?_
        · obtain ⟨s0, s1, s2, s3, s4, s5, s6, s7, s8, s9⟩ := hS7; go_simp
        have HZ9 := hid (show R + 2 ≤ wz.drew.heap.size from HZ.out)
        clear HS HZ b9 NBT
        have HZ := HZ9
        clear HZ9
        generalize wz.drew = wd at HL BA BB BN TV1 TV2 BT1 BT2 HZ ⊢
        refine wpAnyT_ready (rs := [3, 8]) (by kernel_rfl) (by simp) ?_
        refine AllT.cons rfl (fun K' hK => ?_) (AllT.cons rfl (fun K' hK => ?_) AllT.nil)
        · skip
          go_simp
          have PE1 := hid (And.intro (Blk.new wd 24 #[.int .i64 qt, .string st, .int .i64 nt, .slice At mt ct]) (fun e => by have := BN.out.1.row.lt _ e; omega : ((Value.slice A n c).ownBlock ≠ some wd.heap.size)))
          have b9 := al1 wd (.cells #[.int .i64 qt, .string st, .int .i64 nt, .slice At mt ct] 24)
          have HZ9 := hid (Nat.le_trans HZ.out b9.size)
          generalize wd.alloc (.cells #[.int .i64 qt, .string st, .int .i64 nt, .slice At mt ct] 24) = wa at b9 PE1 HZ9 ⊢
          have h9 := hid (HL.out.up b9); clear HL; have HL := h9; clear h9; have h9 := hid (BA.out.below b9 BA.out.lt); clear BA; have BA := h9; clear h9; have h9 := hid (BB.out.below b9 BB.out.lt); clear BB; have BB := h9; clear h9; have h9 := hid (And.intro (BN.out.1.upB b9) (BN.out.2.upB b9)); clear BN; have BN := h9; clear h9; (try (have h9 := hid (TV1.out.up b9); clear TV1; have TV1 := h9; clear h9)); (try (have h9 := hid (BT1.out.below b9 BT1.out.lt); clear BT1; have BT1 := h9; clear h9)); (try (have h9 := hid (TV2.out.up b9); clear TV2; have TV2 := h9; clear h9)); (try (have h9 := hid (BT2.out.below b9 BT2.out.lt); clear BT2; have BT2 := h9; clear h9))
          (try (have h9 := hid (And.intro (PD2.out.1.below b9 PD2.out.1.lt) PD2.out.2); clear PD2; have PD2 := h9; clear h9))
          have PD1 := PE1
          clear PE1 b9 HZ
          have HZ := HZ9
          clear HZ9
          refine hK.out _ _ (fun _ => rs BT1.out BT2.out BA.out BB.out) ?_
          clear hK
          refine wpAnyT_ready (rs := [4, 8]) (by kernel_rfl) (by simp) ?_
          refine AllT.cons rfl (fun K' hK => ?_) (AllT.cons rfl (fun K' hK => ?_) AllT.nil)
          · skip
            refine aq_n0 (X := wa) (v0 := .int .i64 qt) (v1 := .string st) (v2 := .int .i64 nt) (v3 := .slice At mt ct) (by with_reducible rfl) (by rfl) _ _ (by rfl) (B := R + 2) (v := .slice A n c) (by rfl) BN.out.1.row PD1.out.1 (by rfl) (by simp [Value.oneCell']) (by have := HN12.out; omega) HZ.out ?_
            intro v7 w5 r1 r2 r3 r4 pd
            obtain ⟨A5, c5, hv7, _⟩ := row_slice r1
            subst hv7
            have q1 := hid (And.intro (BN.out.1.more BN.out.2 TV1.out r1 r2 r3) (BN.out.2.beside r2 r3)); have q2 := hid (bn_type TV2.out r2 r3); clear BN TV1 TV2; have BN := q1; have TV2 := q2; clear q1 q2; have h9 := hid (r4 _ _ _ BT1.out NE0.out.1.1); clear BT1; have BT1 := h9; clear h9; have h9 := hid (r4 _ _ _ BT2.out NE0.out.1.2.1); clear BT2; have BT2 := h9; clear h9; have h9 := hid (r4 _ _ _ BA.out NE0.out.1.2.2.1); clear BA; have BA := h9; clear h9; have h9 := hid (r4 _ _ _ BB.out NE0.out.1.2.2.2); clear BB; have BB := h9; clear h9; have h9 := hid (HL.out.kept r2 NOW.out); clear HL; have HL := h9; clear h9; have h9 := hid (Nat.le_trans HZ.out r2.size); clear HZ; have HZ := h9; clear h9
            clear r1 r2 r3 r4 pd PD1
            refine hK.out _ _ (fun _ => rs BT1.out BT2.out BA.out BB.out) ?_
            clear hK
            refine wpAnyT_take (i := 10) (v := .pointer (some ⟨R, 3, none⟩)) rfl (by decide) (by kernel_rfl) (fun _ _ _ h => h) (.inl ⟨by simp [Region.wanted], fun w7 hS7 => ?_⟩) (rs BT1.out BT2.out BA.out BB.out) ?_
            · obtain ⟨s0, s1, s2, s3, s4, s5, s6, s7, s8, s9⟩ := hS7; go_simp
            refine wpAnyT_ready (rs := [8]) (by kernel_rfl) (by simp) ?_
            refine AllT.cons rfl (fun K' hK => ?_) AllT.nil
            go_simp
            have PE2 := hid (And.intro (Blk.new w5 24 #[.int .i64 qu, .string su, .int .i64 nu, .slice Au mu cu]) (fun e => by have := BN.out.1.row.lt _ e; omega : ((Value.slice A5 (n + 1) c5).ownBlock ≠ some w5.heap.size)))
            have b9 := al1 w5 (.cells #[.int .i64 qu, .string su, .int .i64 nu, .slice Au mu cu] 24)
            have HZ9 := hid (Nat.le_trans HZ.out b9.size)
            generalize w5.alloc (.cells #[.int .i64 qu, .string su, .int .i64 nu, .slice Au mu cu] 24) = wb at b9 PE2 HZ9 ⊢
            have h9 := hid (HL.out.up b9); clear HL; have HL := h9; clear h9; have h9 := hid (BA.out.below b9 BA.out.lt); clear BA; have BA := h9; clear h9; have h9 := hid (BB.out.below b9 BB.out.lt); clear BB; have BB := h9; clear h9; have h9 := hid (And.intro (BN.out.1.upB b9) (BN.out.2.upB b9)); clear BN; have BN := h9; clear h9; (try (have h9 := hid (TV1.out.up b9); clear TV1; have TV1 := h9; clear h9)); (try (have h9 := hid (BT1.out.below b9 BT1.out.lt); clear BT1; have BT1 := h9; clear h9)); (try (have h9 := hid (TV2.out.up b9); clear TV2; have TV2 := h9; clear h9)); (try (have h9 := hid (BT2.out.below b9 BT2.out.lt); clear BT2; have BT2 := h9; clear h9))
            (try (have h9 := hid (And.intro (PD1.out.1.below b9 PD1.out.1.lt) PD1.out.2); clear PD1; have PD1 := h9; clear h9))
            have PD2 := PE2
            clear PE2 b9 HZ
            have HZ := HZ9
            clear HZ9
            refine hK.out _ _ (fun _ => rs BT1.out BT2.out BA.out BB.out) ?_
            clear hK
            refine wpAnyT_ready (rs := [9]) (by kernel_rfl) (by simp) ?_
            refine AllT.cons rfl (fun K' hK => ?_) AllT.nil
            refine aq_n0 (X := wb) (v0 := .int .i64 qu) (v1 := .string su) (v2 := .int .i64 nu) (v3 := .slice Au mu cu) (by with_reducible rfl) (by rfl) _ _ (by rfl) (B := R + 2) (v := .slice A' n c') (by rfl) BN.out.2.row PD2.out.1 (by rfl) (by simp [Value.oneCell']) (by have := HN12.out; omega) HZ.out ?_
            intro v8 w6 r1 r2 r3 r4 pd
            obtain ⟨A6, c6, hv8, _⟩ := row_slice r1
            subst hv8
            have NO2 := (fun b e => (by have := BN.out.2.row.lt b e; omega : R ≤ b) : ∀ b, (Value.slice A' n c').ownBlock = some b → R ≤ b); have q1 := hid (And.intro (BN.out.1.beside r2 r3) (BN.out.2.more BN.out.1 TV2.out r1 r2 r3)); clear BN TV2; have BN := q1; clear q1; have h9 := hid (r4 _ _ _ BT1.out NE0.out.2.1); clear BT1; have BT1 := h9; clear h9; have h9 := hid (r4 _ _ _ BT2.out NE0.out.2.2.1); clear BT2; have BT2 := h9; clear h9; have h9 := hid (r4 _ _ _ BA.out NE0.out.2.2.2.1); clear BA; have BA := h9; clear h9; have h9 := hid (r4 _ _ _ BB.out NE0.out.2.2.2.2); clear BB; have BB := h9; clear h9; have h9 := hid (HL.out.kept r2 NO2); clear HL; have HL := h9; clear h9; have h9 := hid (Nat.le_trans HZ.out r2.size); clear HZ; have HZ := h9; clear h9; clear NO2
            clear r1 r2 r3 r4 pd PD2
            refine hK.out _ _ (fun _ => rs BT1.out BT2.out BA.out BB.out) ?_
            clear hK
            refine wpAnyT_ready (rs := [11]) (by kernel_rfl) (by simp) ?_
            refine AllT.cons rfl (fun K' hK => ?_) AllT.nil
            have k3 := BA.out.frozen 3
            have kc := BA.out.four.2.2.2.1
            go_simp
            have HL9 := hid (HL.out.kept ((Kept.refl (fun b => R ≤ b) w6).setCell (p := ⟨R, 3, none⟩) (.inl (by dsimp only; omega)) (.slice A5 (n + 1) c5)) (fun _ e => e)); have BN9 := hid (And.intro (BN.out.1.far (w' := World.setCell w6 ⟨R, 3, none⟩ (.slice A5 (n + 1) c5)) (fun k hk _ => Below.heap_setCell _ _ _ _ (by dsimp only; omega))) (BN.out.2.far (w' := World.setCell w6 ⟨R, 3, none⟩ (.slice A5 (n + 1) c5)) (fun k hk _ => Below.heap_setCell _ _ _ _ (by dsimp only; omega)))); have HZ9 := hid (show R + 2 ≤ (World.setCell w6 ⟨R, 3, none⟩ (.slice A5 (n + 1) c5)).heap.size by have := HZ.out; simpa [World.setCell] using this)
            have BA9 := hid (show Blk (World.setCell w6 ⟨R, 3, none⟩ (.slice A5 (n + 1) c5)) R 24 #[.int .i64 4, .string ⟨#[97, 108, 108]⟩, .int .i64 0, .slice A5 (n + 1) c5] from BA.out.set_ 3 _)
            have BB9 := hid (BB.out.far (p := ⟨R, 3, none⟩) (by dsimp only; omega) (.slice A5 (n + 1) c5))
            generalize World.setCell w6 ⟨R, 3, none⟩ (.slice A5 (n + 1) c5) = w7 at HL9 BN9 HZ9 BA9 BB9 ⊢
            clear k3 kc HL BN HZ BA BB
            refine hK.out _ _ (fun h => absurd h (by decide)) ?_
            clear hK
            have HL := HL9
            have BN := BN9
            have HZ := HZ9
            have BA := BA9
            have BB := BB9
            clear HL9 BN9 HZ9 BA9 BB9
            refine wpAnyT_ready (rs := [12]) (by kernel_rfl) (by simp) ?_
            refine AllT.cons rfl (fun K' hK => ?_) AllT.nil
            go_simp
            refine hK.out _ _ (fun h => absurd h (by decide)) ?_
            clear hK
            refine wpAnyT_ready (rs := [13]) (by kernel_rfl) (by simp) ?_
            refine AllT.cons rfl (fun K' hK => ?_) AllT.nil
            have k3 := BB.out.frozen 3
            have kc := BB.out.four.2.2.2.1
            go_simp
            have HL9 := hid (HL.out.kept ((Kept.refl (fun b => R ≤ b) w7).setCell (p := ⟨R + 1, 3, none⟩) (.inl (by dsimp only; omega)) (.slice A6 (n + 1) c6)) (fun _ e => e)); have BN9 := hid (And.intro (BN.out.1.far (w' := World.setCell w7 ⟨R + 1, 3, none⟩ (.slice A6 (n + 1) c6)) (fun k hk _ => Below.heap_setCell _ _ _ _ (by dsimp only; omega))) (BN.out.2.far (w' := World.setCell w7 ⟨R + 1, 3, none⟩ (.slice A6 (n + 1) c6)) (fun k hk _ => Below.heap_setCell _ _ _ _ (by dsimp only; omega)))); have HZ9 := hid (show R + 2 ≤ (World.setCell w7 ⟨R + 1, 3, none⟩ (.slice A6 (n + 1) c6)).heap.size by have := HZ.out; simpa [World.setCell] using this)
            have BB9 := hid (show Blk (World.setCell w7 ⟨R + 1, 3, none⟩ (.slice A6 (n + 1) c6)) (R + 1) 24 #[.int .i64 4, .string ⟨#[97, 108, 108]⟩, .int .i64 0, .slice A6 (n + 1) c6] from BB.out.set_ 3 _)
            have BA9 := hid (BA.out.far (p := ⟨R + 1, 3, none⟩) (by dsimp only; omega) (.slice A6 (n + 1) c6))
            generalize World.setCell w7 ⟨R + 1, 3, none⟩ (.slice A6 (n + 1) c6) = w8 at HL9 BN9 HZ9 BA9 BB9 ⊢
            clear k3 kc HL BN HZ BA BB
            refine hK.out _ _ (fun h => absurd h (by decide)) ?_
            clear hK
            refine wpAnyT_done (by kernel_rfl) ?_ _
            go_wp2_with fail
            have hgk := Hi2.out
            go_roundg (gk - 1)
            case rel => exact ⟨n + 1, A5, A6, c5, c6, _, _, by omega, by go_num, HL9, BA9, BB9, by rw [mostL_succ, mostL_succ, ← HT12.out.1, ← HT12.out.2]; exact BN9, HZ9⟩
            case measure => omega
          · skip
            go_simp
            have PE2 := hid (And.intro (Blk.new wa 24 #[.int .i64 qu, .string su, .int .i64 nu, .slice Au mu cu]) (fun e => by have := BN.out.1.row.lt _ e; omega : ((Value.slice A n c).ownBlock ≠ some wa.heap.size)))
            have b9 := al1 wa (.cells #[.int .i64 qu, .string su, .int .i64 nu, .slice Au mu cu] 24)
            have HZ9 := hid (Nat.le_trans HZ.out b9.size)
            generalize wa.alloc (.cells #[.int .i64 qu, .string su, .int .i64 nu, .slice Au mu cu] 24) = wb at b9 PE2 HZ9 ⊢
            have h9 := hid (HL.out.up b9); clear HL; have HL := h9; clear h9; have h9 := hid (BA.out.below b9 BA.out.lt); clear BA; have BA := h9; clear h9; have h9 := hid (BB.out.below b9 BB.out.lt); clear BB; have BB := h9; clear h9; have h9 := hid (And.intro (BN.out.1.upB b9) (BN.out.2.upB b9)); clear BN; have BN := h9; clear h9; (try (have h9 := hid (TV1.out.up b9); clear TV1; have TV1 := h9; clear h9)); (try (have h9 := hid (BT1.out.below b9 BT1.out.lt); clear BT1; have BT1 := h9; clear h9)); (try (have h9 := hid (TV2.out.up b9); clear TV2; have TV2 := h9; clear h9)); (try (have h9 := hid (BT2.out.below b9 BT2.out.lt); clear BT2; have BT2 := h9; clear h9))
            (try (have h9 := hid (And.intro (PD1.out.1.below b9 PD1.out.1.lt) PD1.out.2); clear PD1; have PD1 := h9; clear h9))
            have PD2 := PE2
            clear PE2 b9 HZ
            have HZ := HZ9
            clear HZ9
            refine hK.out _ _ (fun _ => rs BT1.out BT2.out BA.out BB.out) ?_
            clear hK
            refine wpAnyT_ready (rs := [4]) (by kernel_rfl) (by simp) ?_
            refine AllT.cons rfl (fun K' hK => ?_) AllT.nil
            refine aq_n0 (X := wb) (v0 := .int .i64 qt) (v1 := .string st) (v2 := .int .i64 nt) (v3 := .slice At mt ct) (by with_reducible rfl) (by rfl) _ _ (by rfl) (B := R + 2) (v := .slice A n c) (by rfl) BN.out.1.row PD1.out.1 (by rfl) (by simp [Value.oneCell']) (by have := HN12.out; omega) HZ.out ?_
            intro v7 w5 r1 r2 r3 r4 pd
            obtain ⟨A5, c5, hv7, _⟩ := row_slice r1
            subst hv7
            have q1 := hid (And.intro (BN.out.1.more BN.out.2 TV1.out r1 r2 r3) (BN.out.2.beside r2 r3)); have q2 := hid (bn_type TV2.out r2 r3); clear BN TV1 TV2; have BN := q1; have TV2 := q2; clear q1 q2; have h9 := hid (r4 _ _ _ BT1.out NE0.out.1.1); clear BT1; have BT1 := h9; clear h9; have h9 := hid (r4 _ _ _ BT2.out NE0.out.1.2.1); clear BT2; have BT2 := h9; clear h9; have h9 := hid (r4 _ _ _ BA.out NE0.out.1.2.2.1); clear BA; have BA := h9; clear h9; have h9 := hid (r4 _ _ _ BB.out NE0.out.1.2.2.2); clear BB; have BB := h9; clear h9; have h9 := hid (HL.out.kept r2 NOW.out); clear HL; have HL := h9; clear h9; have h9 := hid (Nat.le_trans HZ.out r2.size); clear HZ; have HZ := h9; clear h9
            have PD2' := hid (And.intro (r4 _ _ _ PD2.out.1 PD2.out.2) trivial); clear PD2; have PD2 := PD2'; clear PD2'
            clear r1 r2 r3 r4 pd PD1
            refine hK.out _ _ (fun _ => rs BT1.out BT2.out BA.out BB.out) ?_
            clear hK
            refine wpAnyT_take (i := 10) (v := .pointer (some ⟨R, 3, none⟩)) rfl (by decide) (by kernel_rfl) (fun _ _ _ h => h) (.inl ⟨by simp [Region.wanted], fun w7 hS7 => ?_⟩) (rs BT1.out BT2.out BA.out BB.out) ?_
            · obtain ⟨s0, s1, s2, s3, s4, s5, s6, s7, s8, s9⟩ := hS7; go_simp
            refine wpAnyT_ready (rs := [9]) (by kernel_rfl) (by simp) ?_
            refine AllT.cons rfl (fun K' hK => ?_) AllT.nil
            refine aq_n0 (X := w5) (v0 := .int .i64 qu) (v1 := .string su) (v2 := .int .i64 nu) (v3 := .slice Au mu cu) (by with_reducible rfl) (by rfl) _ _ (by rfl) (B := R + 2) (v := .slice A' n c') (by rfl) BN.out.2.row PD2.out.1 (by rfl) (by simp [Value.oneCell']) (by have := HN12.out; omega) HZ.out ?_
            intro v8 w6 r1 r2 r3 r4 pd
            obtain ⟨A6, c6, hv8, _⟩ := row_slice r1
            subst hv8
            have NO2 := (fun b e => (by have := BN.out.2.row.lt b e; omega : R ≤ b) : ∀ b, (Value.slice A' n c').ownBlock = some b → R ≤ b); have q1 := hid (And.intro (BN.out.1.beside r2 r3) (BN.out.2.more BN.out.1 TV2.out r1 r2 r3)); clear BN TV2; have BN := q1; clear q1; have h9 := hid (r4 _ _ _ BT1.out NE0.out.2.1); clear BT1; have BT1 := h9; clear h9; have h9 := hid (r4 _ _ _ BT2.out NE0.out.2.2.1); clear BT2; have BT2 := h9; clear h9; have h9 := hid (r4 _ _ _ BA.out NE0.out.2.2.2.1); clear BA; have BA := h9; clear h9; have h9 := hid (r4 _ _ _ BB.out NE0.out.2.2.2.2); clear BB; have BB := h9; clear h9; have h9 := hid (HL.out.kept r2 NO2); clear HL; have HL := h9; clear h9; have h9 := hid (Nat.le_trans HZ.out r2.size); clear HZ; have HZ := h9; clear h9; clear NO2
            clear r1 r2 r3 r4 pd PD2
            refine hK.out _ _ (fun _ => rs BT1.out BT2.out BA.out BB.out) ?_
            clear hK
            refine wpAnyT_ready (rs := [11]) (by kernel_rfl) (by simp) ?_
            refine AllT.cons rfl (fun K' hK => ?_) AllT.nil
            have k3 := BA.out.frozen 3
            have kc := BA.out.four.2.2.2.1
            go_simp
            have HL9 := hid (HL.out.kept ((Kept.refl (fun b => R ≤ b) w6).setCell (p := ⟨R, 3, none⟩) (.inl (by dsimp only; omega)) (.slice A5 (n + 1) c5)) (fun _ e => e)); have BN9 := hid (And.intro (BN.out.1.far (w' := World.setCell w6 ⟨R, 3, none⟩ (.slice A5 (n + 1) c5)) (fun k hk _ => Below.heap_setCell _ _ _ _ (by dsimp only; omega))) (BN.out.2.far (w' := World.setCell w6 ⟨R, 3, none⟩ (.slice A5 (n + 1) c5)) (fun k hk _ => Below.heap_setCell _ _ _ _ (by dsimp only; omega)))); have HZ9 := hid (show R + 2 ≤ (World.setCell w6 ⟨R, 3, none⟩ (.slice A5 (n + 1) c5)).heap.size by have := HZ.out; simpa [World.setCell] using this)
            have BA9 := hid (show Blk (World.setCell w6 ⟨R, 3, none⟩ (.slice A5 (n + 1) c5)) R 24 #[.int .i64 4, .string ⟨#[97, 108, 108]⟩, .int .i64 0, .slice A5 (n + 1) c5] from BA.out.set_ 3 _)
            have BB9 := hid (BB.out.far (p := ⟨R, 3, none⟩) (by dsimp only; omega) (.slice A5 (n + 1) c5))
            generalize World.setCell w6 ⟨R, 3, none⟩ (.slice A5 (n + 1) c5) = w7 at HL9 BN9 HZ9 BA9 BB9 ⊢
            clear k3 kc HL BN HZ BA BB
            refine hK.out _ _ (fun h => absurd h (by decide)) ?_
            clear hK
            have HL := HL9
            have BN := BN9
            have HZ := HZ9
            have BA := BA9
            have BB := BB9
            clear HL9 BN9 HZ9 BA9 BB9
            refine wpAnyT_ready (rs := [12]) (by kernel_rfl) (by simp) ?_
            refine AllT.cons rfl (fun K' hK => ?_) AllT.nil
            go_simp
            refine hK.out _ _ (fun h => absurd h (by decide)) ?_
            clear hK
            refine wpAnyT_ready (rs := [13]) (by kernel_rfl) (by simp) ?_
            refine AllT.cons rfl (fun K' hK => ?_) AllT.nil
            have k3 := BB.out.frozen 3
            have kc := BB.out.four.2.2.2.1
            go_simp
            have HL9 := hid (HL.out.kept ((Kept.refl (fun b => R ≤ b) w7).setCell (p := ⟨R + 1, 3, none⟩) (.inl (by dsimp only; omega)) (.slice A6 (n + 1) c6)) (fun _ e => e)); have BN9 := hid (And.intro (BN.out.1.far (w' := World.setCell w7 ⟨R + 1, 3, none⟩ (.slice A6 (n + 1) c6)) (fun k hk _ => Below.heap_setCell _ _ _ _ (by dsimp only; omega))) (BN.out.2.far (w' := World.setCell w7 ⟨R + 1, 3, none⟩ (.slice A6 (n + 1) c6)) (fun k hk _ => Below.heap_setCell _ _ _ _ (by dsimp only; omega)))); have HZ9 := hid (show R + 2 ≤ (World.setCell w7 ⟨R + 1, 3, none⟩ (.slice A6 (n + 1) c6)).heap.size by have := HZ.out; simpa [World.setCell] using this)
            have BB9 := hid (show Blk (World.setCell w7 ⟨R + 1, 3, none⟩ (.slice A6 (n + 1) c6)) (R + 1) 24 #[.int .i64 4, .string ⟨#[97, 108, 108]⟩, .int .i64 0, .slice A6 (n + 1) c6] from BB.out.set_ 3 _)
            have BA9 := hid (BA.out.far (p := ⟨R + 1, 3, none⟩) (by dsimp only; omega) (.slice A6 (n + 1) c6))
            generalize World.setCell w7 ⟨R + 1, 3, none⟩ (.slice A6 (n + 1) c6) = w8 at HL9 BN9 HZ9 BA9 BB9 ⊢
            clear k3 kc HL BN HZ BA BB
            refine hK.out _ _ (fun h => absurd h (by decide)) ?_
            clear hK
            refine wpAnyT_done (by kernel_rfl) ?_ _
            go_wp2_with fail
            have hgk := Hi2.out
            go_roundg (gk - 1)
            case rel => exact ⟨n + 1, A5, A6, c5, c6, _, _, by omega, by go_num, HL9, BA9, BB9, by rw [mostL_succ, mostL_succ, ← HT12.out.1, ← HT12.out.2]; exact BN9, HZ9⟩
            case measure => omega
        · skip
          go_simp
          have PE2 := hid (And.intro (Blk.new wd 24 #[.int .i64 qu, .string su, .int .i64 nu, .slice Au mu cu]) (fun e => by have := BN.out.1.row.lt _ e; omega : ((Value.slice A n c).ownBlock ≠ some wd.heap.size)))
          have b9 := al1 wd (.cells #[.int .i64 qu, .string su, .int .i64 nu, .slice Au mu cu] 24)
          have HZ9 := hid (Nat.le_trans HZ.out b9.size)
          generalize wd.alloc (.cells #[.int .i64 qu, .string su, .int .i64 nu, .slice Au mu cu] 24) = wa at b9 PE2 HZ9 ⊢
          have h9 := hid (HL.out.up b9); clear HL; have HL := h9; clear h9; have h9 := hid (BA.out.below b9 BA.out.lt); clear BA; have BA := h9; clear h9; have h9 := hid (BB.out.below b9 BB.out.lt); clear BB; have BB := h9; clear h9; have h9 := hid (And.intro (BN.out.1.upB b9) (BN.out.2.upB b9)); clear BN; have BN := h9; clear h9; (try (have h9 := hid (TV1.out.up b9); clear TV1; have TV1 := h9; clear h9)); (try (have h9 := hid (BT1.out.below b9 BT1.out.lt); clear BT1; have BT1 := h9; clear h9)); (try (have h9 := hid (TV2.out.up b9); clear TV2; have TV2 := h9; clear h9)); (try (have h9 := hid (BT2.out.below b9 BT2.out.lt); clear BT2; have BT2 := h9; clear h9))
          (try (have h9 := hid (And.intro (PD1.out.1.below b9 PD1.out.1.lt) PD1.out.2); clear PD1; have PD1 := h9; clear h9))
          have PD2 := PE2
          clear PE2 b9 HZ
          have HZ := HZ9
          clear HZ9
          refine hK.out _ _ (fun _ => rs BT1.out BT2.out BA.out BB.out) ?_
          clear hK
          refine wpAnyT_ready (rs := [3]) (by kernel_rfl) (by simp) ?_
          refine AllT.cons rfl (fun K' hK => ?_) AllT.nil
          go_simp
          have PE1 := hid (And.intro (Blk.new wa 24 #[.int .i64 qt, .string st, .int .i64 nt, .slice At mt ct]) (fun e => by have := BN.out.1.row.lt _ e; omega : ((Value.slice A n c).ownBlock ≠ some wa.heap.size)))
          have b9 := al1 wa (.cells #[.int .i64 qt, .string st, .int .i64 nt, .slice At mt ct] 24)
          have HZ9 := hid (Nat.le_trans HZ.out b9.size)
          generalize wa.alloc (.cells #[.int .i64 qt, .string st, .int .i64 nt, .slice At mt ct] 24) = wb at b9 PE1 HZ9 ⊢
          have h9 := hid (HL.out.up b9); clear HL; have HL := h9; clear h9; have h9 := hid (BA.out.below b9 BA.out.lt); clear BA; have BA := h9; clear h9; have h9 := hid (BB.out.below b9 BB.out.lt); clear BB; have BB := h9; clear h9; have h9 := hid (And.intro (BN.out.1.upB b9) (BN.out.2.upB b9)); clear BN; have BN := h9; clear h9; (try (have h9 := hid (TV1.out.up b9); clear TV1; have TV1 := h9; clear h9)); (try (have h9 := hid (BT1.out.below b9 BT1.out.lt); clear BT1; have BT1 := h9; clear h9)); (try (have h9 := hid (TV2.out.up b9); clear TV2; have TV2 := h9; clear h9)); (try (have h9 := hid (BT2.out.below b9 BT2.out.lt); clear BT2; have BT2 := h9; clear h9))
          (try (have h9 := hid (And.intro (PD2.out.1.below b9 PD2.out.1.lt) PD2.out.2); clear PD2; have PD2 := h9; clear h9))
          have PD1 := PE1
          clear PE1 b9 HZ
          have HZ := HZ9
          clear HZ9
          refine hK.out _ _ (fun _ => rs BT1.out BT2.out BA.out BB.out) ?_
          clear hK
          refine wpAnyT_ready (rs := [4]) (by kernel_rfl) (by simp) ?_
          refine AllT.cons rfl (fun K' hK => ?_) AllT.nil
          refine aq_n0 (X := wb) (v0 := .int .i64 qt) (v1 := .string st) (v2 := .int .i64 nt) (v3 := .slice At mt ct) (by with_reducible rfl) (by rfl) _ _ (by rfl) (B := R + 2) (v := .slice A n c) (by rfl) BN.out.1.row PD1.out.1 (by rfl) (by simp [Value.oneCell']) (by have := HN12.out; omega) HZ.out ?_
          intro v7 w5 r1 r2 r3 r4 pd
          obtain ⟨A5, c5, hv7, _⟩ := row_slice r1
          subst hv7
          have q1 := hid (And.intro (BN.out.1.more BN.out.2 TV1.out r1 r2 r3) (BN.out.2.beside r2 r3)); have q2 := hid (bn_type TV2.out r2 r3); clear BN TV1 TV2; have BN := q1; have TV2 := q2; clear q1 q2; have h9 := hid (r4 _ _ _ BT1.out NE0.out.1.1); clear BT1; have BT1 := h9; clear h9; have h9 := hid (r4 _ _ _ BT2.out NE0.out.1.2.1); clear BT2; have BT2 := h9; clear h9; have h9 := hid (r4 _ _ _ BA.out NE0.out.1.2.2.1); clear BA; have BA := h9; clear h9; have h9 := hid (r4 _ _ _ BB.out NE0.out.1.2.2.2); clear BB; have BB := h9; clear h9; have h9 := hid (HL.out.kept r2 NOW.out); clear HL; have HL := h9; clear h9; have h9 := hid (Nat.le_trans HZ.out r2.size); clear HZ; have HZ := h9; clear h9
          have PD2' := hid (And.intro (r4 _ _ _ PD2.out.1 PD2.out.2) trivial); clear PD2; have PD2 := PD2'; clear PD2'
          clear r1 r2 r3 r4 pd PD1
          refine hK.out _ _ (fun _ => rs BT1.out BT2.out BA.out BB.out) ?_
          clear hK
          refine wpAnyT_take (i := 10) (v := .pointer (some ⟨R, 3, none⟩)) rfl (by decide) (by kernel_rfl) (fun _ _ _ h => h) (.inl ⟨by simp [Region.wanted], fun w7 hS7 => ?_⟩) (rs BT1.out BT2.out BA.out BB.out) ?_
          · obtain ⟨s0, s1, s2, s3, s4, s5, s6, s7, s8, s9⟩ := hS7; go_simp
          refine wpAnyT_ready (rs := [9]) (by kernel_rfl) (by simp) ?_
          refine AllT.cons rfl (fun K' hK => ?_) AllT.nil
          refine aq_n0 (X := w5) (v0 := .int .i64 qu) (v1 := .string su) (v2 := .int .i64 nu) (v3 := .slice Au mu cu) (by with_reducible rfl) (by rfl) _ _ (by rfl) (B := R + 2) (v := .slice A' n c') (by rfl) BN.out.2.row PD2.out.1 (by rfl) (by simp [Value.oneCell']) (by have := HN12.out; omega) HZ.out ?_
          intro v8 w6 r1 r2 r3 r4 pd
          obtain ⟨A6, c6, hv8, _⟩ := row_slice r1
          subst hv8
          have NO2 := (fun b e => (by have := BN.out.2.row.lt b e; omega : R ≤ b) : ∀ b, (Value.slice A' n c').ownBlock = some b → R ≤ b); have q1 := hid (And.intro (BN.out.1.beside r2 r3) (BN.out.2.more BN.out.1 TV2.out r1 r2 r3)); clear BN TV2; have BN := q1; clear q1; have h9 := hid (r4 _ _ _ BT1.out NE0.out.2.1); clear BT1; have BT1 := h9; clear h9; have h9 := hid (r4 _ _ _ BT2.out NE0.out.2.2.1); clear BT2; have BT2 := h9; clear h9; have h9 := hid (r4 _ _ _ BA.out NE0.out.2.2.2.1); clear BA; have BA := h9; clear h9; have h9 := hid (r4 _ _ _ BB.out NE0.out.2.2.2.2); clear BB; have BB := h9; clear h9; have h9 := hid (HL.out.kept r2 NO2); clear HL; have HL := h9; clear h9; have h9 := hid (Nat.le_trans HZ.out r2.size); clear HZ; have HZ := h9; clear h9; clear NO2
          clear r1 r2 r3 r4 pd PD2
          refine hK.out _ _ (fun _ => rs BT1.out BT2.out BA.out BB.out) ?_
          clear hK
          refine wpAnyT_ready (rs := [11]) (by kernel_rfl) (by simp) ?_
          refine AllT.cons rfl (fun K' hK => ?_) AllT.nil
          have k3 := BA.out.frozen 3
          have kc := BA.out.four.2.2.2.1
          go_simp
          have HL9 := hid (HL.out.kept ((Kept.refl (fun b => R ≤ b) w6).setCell (p := ⟨R, 3, none⟩) (.inl (by dsimp only; omega)) (.slice A5 (n + 1) c5)) (fun _ e => e)); have BN9 := hid (And.intro (BN.out.1.far (w' := World.setCell w6 ⟨R, 3, none⟩ (.slice A5 (n + 1) c5)) (fun k hk _ => Below.heap_setCell _ _ _ _ (by dsimp only; omega))) (BN.out.2.far (w' := World.setCell w6 ⟨R, 3, none⟩ (.slice A5 (n + 1) c5)) (fun k hk _ => Below.heap_setCell _ _ _ _ (by dsimp only; omega)))); have HZ9 := hid (show R + 2 ≤ (World.setCell w6 ⟨R, 3, none⟩ (.slice A5 (n + 1) c5)).heap.size by have := HZ.out; simpa [World.setCell] using this)
          have BA9 := hid (show Blk (World.setCell w6 ⟨R, 3, none⟩ (.slice A5 (n + 1) c5)) R 24 #[.int .i64 4, .string ⟨#[97, 108, 108]⟩, .int .i64 0, .slice A5 (n + 1) c5] from BA.out.set_ 3 _)
          have BB9 := hid (BB.out.far (p := ⟨R, 3, none⟩) (by dsimp only; omega) (.slice A5 (n + 1) c5))
          generalize World.setCell w6 ⟨R, 3, none⟩ (.slice A5 (n + 1) c5) = w7 at HL9 BN9 HZ9 BA9 BB9 ⊢
          clear k3 kc HL BN HZ BA BB
          refine hK.out _ _ (fun h => absurd h (by decide)) ?_
          clear hK
          have HL := HL9
          have BN := BN9
          have HZ := HZ9
          have BA := BA9
          have BB := BB9
          clear HL9 BN9 HZ9 BA9 BB9
          refine wpAnyT_ready (rs := [12]) (by kernel_rfl) (by simp) ?_
          refine AllT.cons rfl (fun K' hK => ?_) AllT.nil
          go_simp
          refine hK.out _ _ (fun h => absurd h (by decide)) ?_
          clear hK
          refine wpAnyT_ready (rs := [13]) (by kernel_rfl) (by simp) ?_
          refine AllT.cons rfl (fun K' hK => ?_) AllT.nil
          have k3 := BB.out.frozen 3
          have kc := BB.out.four.2.2.2.1
          go_simp
          have HL9 := hid (HL.out.kept ((Kept.refl (fun b => R ≤ b) w7).setCell (p := ⟨R + 1, 3, none⟩) (.inl (by dsimp only; omega)) (.slice A6 (n + 1) c6)) (fun _ e => e)); have BN9 := hid (And.intro (BN.out.1.far (w' := World.setCell w7 ⟨R + 1, 3, none⟩ (.slice A6 (n + 1) c6)) (fun k hk _ => Below.heap_setCell _ _ _ _ (by dsimp only; omega))) (BN.out.2.far (w' := World.setCell w7 ⟨R + 1, 3, none⟩ (.slice A6 (n + 1) c6)) (fun k hk _ => Below.heap_setCell _ _ _ _ (by dsimp only; omega)))); have HZ9 := hid (show R + 2 ≤ (World.setCell w7 ⟨R + 1, 3, none⟩ (.slice A6 (n + 1) c6)).heap.size by have := HZ.out; simpa [World.setCell] using this)
          have BB9 := hid (show Blk (World.setCell w7 ⟨R + 1, 3, none⟩ (.slice A6 (n + 1) c6)) (R + 1) 24 #[.int .i64 4, .string ⟨#[97, 108, 108]⟩, .int .i64 0, .slice A6 (n + 1) c6] from BB.out.set_ 3 _)
          have BA9 := hid (BA.out.far (p := ⟨R + 1, 3, none⟩) (by dsimp only; omega) (.slice A6 (n + 1) c6))
          generalize World.setCell w7 ⟨R + 1, 3, none⟩ (.slice A6 (n + 1) c6) = w8 at HL9 BN9 HZ9 BA9 BB9 ⊢
          clear k3 kc HL BN HZ BA BB
          refine hK.out _ _ (fun h => absurd h (by decide)) ?_
          clear hK
          refine wpAnyT_done (by kernel_rfl) ?_ _
          go_wp2_with fail
          have hgk := Hi2.out
          go_roundg (gk - 1)
          case rel => exact ⟨n + 1, A5, A6, c5, c6, _, _, by omega, by go_num, HL9, BA9, BB9, by rw [mostL_succ, mostL_succ, ← HT12.out.1, ← HT12.out.2]; exact BN9, HZ9⟩
          case measure => omega
    have hlt' : (i : Int) < k9 := by omega
    have hi0 : (0 : Int) ≤ (i : Int) := by omega
    have hiw : IntKind.i64.wrap ((i : Int) + 1) = i + 1 := IntWalk.i64_in _ (by omega)
    obtain ⟨m1, hm1⟩ : ∃ m1 : Nat, m1 + 1 = k9 := ⟨k9 - 1, by omega⟩
    obtain ⟨j, hj⟩ : ∃ j : Nat, i + j + 1 = k9 := ⟨k9 - 1 - i, by omega⟩
    have hj1 : IntKind.i64.wrap ((k9 : Int) - 1) = (m1 : Int) := by rw [IntWalk.i64_in _ (by omega)]; omega
    have hj2 : IntKind.i64.wrap ((m1 : Int) - i) = (j : Int) := by rw [IntWalk.i64_in _ (by omega)]; omega
    have hj0 : (0 : Int) ≤ (j : Int) := by omega
    have hil : i < ps.length := by have := HK9.out; omega
    have hjl : j < ps.length := by have := HK9.out; omega
    have hil' : (i : Int) < (ps.length : Nat) := by omega
    have hjl' : (j : Int) < (ps.length : Nat) := by omega
    have HJ := hid hj
    obtain ⟨ad, qa, sa, na, Aa, ma, ca, qb, sb, nb, Ab, mb, cb, rfl, hSb, hab, y0, y1, y2, y3, z0, z1, z2, z3, hea, heb⟩ := HR.out.elem hil
    obtain ⟨ae, qa2, sa2, na2, Aa2, ma2, ca2, qb2, sb2, nb2, Ab2, mb2, cb2, hae, hSb2, hab2, y20, y21, y22, y23, z20, z21, z22, z23, hea2, heb2⟩ := HR.out.elem hjl
    obtain rfl := Option.some.inj hae
    have Q := hid (And.intro hea (And.intro heb (HFew.out i hil (by omega))))
    have Q2 := hid (And.intro hea2 (And.intro heb2 (HFew.out j hjl (by omega))))
    have YY := hid (And.intro y0 (And.intro y1 (And.intro y2 (And.intro y3 (And.intro z0 (And.intro z1 (And.intro z2 z3)))))))
    have Y2 := hid (And.intro y20 (And.intro y21 (And.intro y22 (And.intro y23 (And.intro z20 (And.intro z21 (And.intro z22 z23)))))))
    have Z := hid (show (ad.add (i * 8)).block < w.heap.size by rw [hab]; exact hSb)
    have Z2 := hid (show (ad.add (j * 8)).block < w.heap.size by rw [hab2]; exact hSb2)
    clear hSb hab hea heb y0 y1 y2 y3 z0 z1 z2 z3 hSb2 hab2 hea2 heb2 y20 y21 y22 y23 z20 z21 z22 z23 hae hi hm1 hj
    go_wp2_with fail
    have b9 : Below (wr).heap.size (wr) (wr).drew := (Below.refl _ _).drew; have h9 := hid (HT.out.up b9); clear HT; have HT := h9; clear h9; (try (have h7 := hid (T1.out.up b9); clear T1; have T1 := h7; clear h7)); (try (have h7 := hid (T2.out.up b9); clear T2; have T2 := h7; clear h7)); (try (have h7 := hid (TA.out.up b9); clear TA; have TA := h7; clear h7)); (try (have h7 := hid (TB.out.up b9); clear TB; have TB := h7; clear h7)); (try (have h7 := hid (TC.out.up b9); clear TC; have TC := h7; clear h7)); (try (have h7 := hid (XA.out.below b9 XA.out.lt); clear XA; have XA := h7; clear h7)); (try (have h7 := hid (XB.out.below b9 XB.out.lt); clear XB; have XB := h7; clear h7)); have y0 : ((wr).drew).cell? (ad.add (i * 8)) = some (.int .i64 qa) := ((HT.out.hb).cell (p := ad.add (i * 8)) Z.out).trans YY.out.1; have y1 : ((wr).drew).cell? ⟨(ad.add (i * 8)).block, (ad.add (i * 8)).off + 1, none⟩ = some (.string sa) := ((HT.out.hb).cell (p := ⟨(ad.add (i * 8)).block, (ad.add (i * 8)).off + 1, none⟩) Z.out).trans YY.out.2.1; have y2 : ((wr).drew).cell? ⟨(ad.add (i * 8)).block, (ad.add (i * 8)).off + 2, none⟩ = some (.int .i64 na) := ((HT.out.hb).cell (p := ⟨(ad.add (i * 8)).block, (ad.add (i * 8)).off + 2, none⟩) Z.out).trans YY.out.2.2.1; have y3 : ((wr).drew).cell? ⟨(ad.add (i * 8)).block, (ad.add (i * 8)).off + 3, none⟩ = some (.slice Aa ma ca) := ((HT.out.hb).cell (p := ⟨(ad.add (i * 8)).block, (ad.add (i * 8)).off + 3, none⟩) Z.out).trans YY.out.2.2.2.1; have z0 : ((wr).drew).cell? ⟨(ad.add (i * 8)).block, (ad.add (i * 8)).off + 4, none⟩ = some (.int .i64 qb) := ((HT.out.hb).cell (p := ⟨(ad.add (i * 8)).block, (ad.add (i * 8)).off + 4, none⟩) Z.out).trans YY.out.2.2.2.2.1; have z1 : ((wr).drew).cell? ⟨(ad.add (i * 8)).block, (ad.add (i * 8)).off + 5, none⟩ = some (.string sb) := ((HT.out.hb).cell (p := ⟨(ad.add (i * 8)).block, (ad.add (i * 8)).off + 5, none⟩) Z.out).trans YY.out.2.2.2.2.2.1; have z2 : ((wr).drew).cell? ⟨(ad.add (i * 8)).block, (ad.add (i * 8)).off + 6, none⟩ = some (.int .i64 nb) := ((HT.out.hb).cell (p := ⟨(ad.add (i * 8)).block, (ad.add (i * 8)).off + 6, none⟩) Z.out).trans YY.out.2.2.2.2.2.2.1; have z3 : ((wr).drew).cell? ⟨(ad.add (i * 8)).block, (ad.add (i * 8)).off + 7, none⟩ = some (.slice Ab mb cb) := ((HT.out.hb).cell (p := ⟨(ad.add (i * 8)).block, (ad.add (i * 8)).off + 7, none⟩) Z.out).trans YY.out.2.2.2.2.2.2.2; clear b9
    go_region_held3 (fun w' => w'.cell? (ad.add (i * 8)) = some (.int .i64 qa) ∧ w'.cell? ⟨(ad.add (i * 8)).block, (ad.add (i * 8)).off + 1, none⟩ = some (.string sa) ∧ w'.cell? ⟨(ad.add (i * 8)).block, (ad.add (i * 8)).off + 2, none⟩ = some (.int .i64 na) ∧ w'.cell? ⟨(ad.add (i * 8)).block, (ad.add (i * 8)).off + 3, none⟩ = some (.slice Aa ma ca) ∧ w'.cell? ⟨(ad.add (i * 8)).block, (ad.add (i * 8)).off + 4, none⟩ = some (.int .i64 qb) ∧ w'.cell? ⟨(ad.add (i * 8)).block, (ad.add (i * 8)).off + 5, none⟩ = some (.string sb) ∧ w'.cell? ⟨(ad.add (i * 8)).block, (ad.add (i * 8)).off + 6, none⟩ = some (.int .i64 nb) ∧ w'.cell? ⟨(ad.add (i * 8)).block, (ad.add (i * 8)).off + 7, none⟩ = some (.slice Ab mb cb)) (first | with_reducible exact ⟨y0, y1, y2, y3, z0, z1, z2, z3⟩ | assumption | go_keep)
      (first
        | (go_at_call 8; (with_reducible refine (law15_copied (ps[i].1) _ (fun b => b < w.heap.size) _ Q.out.2.2.1 (Q.out.1.upB HT.out.hb)).mono ?_); rintro e u1 ⟨⟨v, rfl, hv⟩, b9⟩; obtain ⟨q1, s1, n1, A1, m1, c1, rfl⟩ := hv.agg; have T0 := HT.out.s1.fresh hv; have h9 := hid (HT.out.up b9); clear HT; have HT := h9; clear h9; (try (have h7 := hid (T1.out.up b9); clear T1; have T1 := h7; clear h7)); (try (have h7 := hid (T2.out.up b9); clear T2; have T2 := h7; clear h7)); (try (have h7 := hid (TA.out.up b9); clear TA; have TA := h7; clear h7)); (try (have h7 := hid (TB.out.up b9); clear TB; have TB := h7; clear h7)); (try (have h7 := hid (TC.out.up b9); clear TC; have TC := h7; clear h7)); (try (have h7 := hid (XA.out.below b9 XA.out.lt); clear XA; have XA := h7; clear h7)); (try (have h7 := hid (XB.out.below b9 XB.out.lt); clear XB; have XB := h7; clear h7)); have y0 : (u1).cell? (ad.add (i * 8)) = some (.int .i64 qa) := ((HT.out.hb).cell (p := ad.add (i * 8)) Z.out).trans YY.out.1; have y1 : (u1).cell? ⟨(ad.add (i * 8)).block, (ad.add (i * 8)).off + 1, none⟩ = some (.string sa) := ((HT.out.hb).cell (p := ⟨(ad.add (i * 8)).block, (ad.add (i * 8)).off + 1, none⟩) Z.out).trans YY.out.2.1; have y2 : (u1).cell? ⟨(ad.add (i * 8)).block, (ad.add (i * 8)).off + 2, none⟩ = some (.int .i64 na) := ((HT.out.hb).cell (p := ⟨(ad.add (i * 8)).block, (ad.add (i * 8)).off + 2, none⟩) Z.out).trans YY.out.2.2.1; have y3 : (u1).cell? ⟨(ad.add (i * 8)).block, (ad.add (i * 8)).off + 3, none⟩ = some (.slice Aa ma ca) := ((HT.out.hb).cell (p := ⟨(ad.add (i * 8)).block, (ad.add (i * 8)).off + 3, none⟩) Z.out).trans YY.out.2.2.2.1; have z0 : (u1).cell? ⟨(ad.add (i * 8)).block, (ad.add (i * 8)).off + 4, none⟩ = some (.int .i64 qb) := ((HT.out.hb).cell (p := ⟨(ad.add (i * 8)).block, (ad.add (i * 8)).off + 4, none⟩) Z.out).trans YY.out.2.2.2.2.1; have z1 : (u1).cell? ⟨(ad.add (i * 8)).block, (ad.add (i * 8)).off + 5, none⟩ = some (.string sb) := ((HT.out.hb).cell (p := ⟨(ad.add (i * 8)).block, (ad.add (i * 8)).off + 5, none⟩) Z.out).trans YY.out.2.2.2.2.2.1; have z2 : (u1).cell? ⟨(ad.add (i * 8)).block, (ad.add (i * 8)).off + 6, none⟩ = some (.int .i64 nb) := ((HT.out.hb).cell (p := ⟨(ad.add (i * 8)).block, (ad.add (i * 8)).off + 6, none⟩) Z.out).trans YY.out.2.2.2.2.2.2.1; have z3 : (u1).cell? ⟨(ad.add (i * 8)).block, (ad.add (i * 8)).off + 7, none⟩ = some (.slice Ab mb cb) := ((HT.out.hb).cell (p := ⟨(ad.add (i * 8)).block, (ad.add (i * 8)).off + 7, none⟩) Z.out).trans YY.out.2.2.2.2.2.2.2; have T1 := hid T0; clear hv b9 T0)
        | (go_at_call 8; (with_reducible refine (law15_copied (ps[i].2) _ (fun b => b < w.heap.size) _ Q.out.2.2.2 (Q.out.2.1.upB HT.out.hb)).mono ?_); rintro e u2 ⟨⟨v, rfl, hv⟩, b9⟩; obtain ⟨q2, s2, n2, A2, m2, c2, rfl⟩ := hv.agg; have T0 := HT.out.s1.fresh hv; have h9 := hid (HT.out.up b9); clear HT; have HT := h9; clear h9; (try (have h7 := hid (T1.out.up b9); clear T1; have T1 := h7; clear h7)); (try (have h7 := hid (T2.out.up b9); clear T2; have T2 := h7; clear h7)); (try (have h7 := hid (TA.out.up b9); clear TA; have TA := h7; clear h7)); (try (have h7 := hid (TB.out.up b9); clear TB; have TB := h7; clear h7)); (try (have h7 := hid (TC.out.up b9); clear TC; have TC := h7; clear h7)); (try (have h7 := hid (XA.out.below b9 XA.out.lt); clear XA; have XA := h7; clear h7)); (try (have h7 := hid (XB.out.below b9 XB.out.lt); clear XB; have XB := h7; clear h7)); have y0 : (u2).cell? (ad.add (i * 8)) = some (.int .i64 qa) := ((HT.out.hb).cell (p := ad.add (i * 8)) Z.out).trans YY.out.1; have y1 : (u2).cell? ⟨(ad.add (i * 8)).block, (ad.add (i * 8)).off + 1, none⟩ = some (.string sa) := ((HT.out.hb).cell (p := ⟨(ad.add (i * 8)).block, (ad.add (i * 8)).off + 1, none⟩) Z.out).trans YY.out.2.1; have y2 : (u2).cell? ⟨(ad.add (i * 8)).block, (ad.add (i * 8)).off + 2, none⟩ = some (.int .i64 na) := ((HT.out.hb).cell (p := ⟨(ad.add (i * 8)).block, (ad.add (i * 8)).off + 2, none⟩) Z.out).trans YY.out.2.2.1; have y3 : (u2).cell? ⟨(ad.add (i * 8)).block, (ad.add (i * 8)).off + 3, none⟩ = some (.slice Aa ma ca) := ((HT.out.hb).cell (p := ⟨(ad.add (i * 8)).block, (ad.add (i * 8)).off + 3, none⟩) Z.out).trans YY.out.2.2.2.1; have z0 : (u2).cell? ⟨(ad.add (i * 8)).block, (ad.add (i * 8)).off + 4, none⟩ = some (.int .i64 qb) := ((HT.out.hb).cell (p := ⟨(ad.add (i * 8)).block, (ad.add (i * 8)).off + 4, none⟩) Z.out).trans YY.out.2.2.2.2.1; have z1 : (u2).cell? ⟨(ad.add (i * 8)).block, (ad.add (i * 8)).off + 5, none⟩ = some (.string sb) := ((HT.out.hb).cell (p := ⟨(ad.add (i * 8)).block, (ad.add (i * 8)).off + 5, none⟩) Z.out).trans YY.out.2.2.2.2.2.1; have z2 : (u2).cell? ⟨(ad.add (i * 8)).block, (ad.add (i * 8)).off + 6, none⟩ = some (.int .i64 nb) := ((HT.out.hb).cell (p := ⟨(ad.add (i * 8)).block, (ad.add (i * 8)).off + 6, none⟩) Z.out).trans YY.out.2.2.2.2.2.2.1; have z3 : (u2).cell? ⟨(ad.add (i * 8)).block, (ad.add (i * 8)).off + 7, none⟩ = some (.slice Ab mb cb) := ((HT.out.hb).cell (p := ⟨(ad.add (i * 8)).block, (ad.add (i * 8)).off + 7, none⟩) Z.out).trans YY.out.2.2.2.2.2.2.2; have T2 := hid T0; clear hv b9 T0)
        | (go_at_call 15; (with_reducible refine (sol_Unify HT.out.s1 T1.out T2.out).mono ?_); rintro e u3 ⟨rfl, hs, hk⟩; have h9 := hid (HT.out.turn1 hs hk); (try (have h7 := hid (TA.out.kept hk (fun b hb e => HT.out.s1.lt.2.2.2.1 (by rw [← e]; exact hb))); clear TA; have TA := h7; clear h7)); (try (have h7 := hid (TB.out.kept hk (fun b hb e => HT.out.s1.lt.2.2.2.1 (by rw [← e]; exact hb))); clear TB; have TB := h7; clear h7)); (try (have h7 := hid (XA.out.kept (S := fun b => b = pv1) hk HNA.out); clear XA; have XA := h7; clear h7)); (try (have h7 := hid (XB.out.kept (S := fun b => b = pv1) hk HNB.out); clear XB; have XB := h7; clear h7)); clear HT T1 T2; have HT := h9; clear h9 hs hk; have y0 : (u3).cell? (ad.add (i * 8)) = some (.int .i64 qa) := ((HT.out.hb).cell (p := ad.add (i * 8)) Z.out).trans YY.out.1; have y1 : (u3).cell? ⟨(ad.add (i * 8)).block, (ad.add (i * 8)).off + 1, none⟩ = some (.string sa) := ((HT.out.hb).cell (p := ⟨(ad.add (i * 8)).block, (ad.add (i * 8)).off + 1, none⟩) Z.out).trans YY.out.2.1; have y2 : (u3).cell? ⟨(ad.add (i * 8)).block, (ad.add (i * 8)).off + 2, none⟩ = some (.int .i64 na) := ((HT.out.hb).cell (p := ⟨(ad.add (i * 8)).block, (ad.add (i * 8)).off + 2, none⟩) Z.out).trans YY.out.2.2.1; have y3 : (u3).cell? ⟨(ad.add (i * 8)).block, (ad.add (i * 8)).off + 3, none⟩ = some (.slice Aa ma ca) := ((HT.out.hb).cell (p := ⟨(ad.add (i * 8)).block, (ad.add (i * 8)).off + 3, none⟩) Z.out).trans YY.out.2.2.2.1; have z0 : (u3).cell? ⟨(ad.add (i * 8)).block, (ad.add (i * 8)).off + 4, none⟩ = some (.int .i64 qb) := ((HT.out.hb).cell (p := ⟨(ad.add (i * 8)).block, (ad.add (i * 8)).off + 4, none⟩) Z.out).trans YY.out.2.2.2.2.1; have z1 : (u3).cell? ⟨(ad.add (i * 8)).block, (ad.add (i * 8)).off + 5, none⟩ = some (.string sb) := ((HT.out.hb).cell (p := ⟨(ad.add (i * 8)).block, (ad.add (i * 8)).off + 5, none⟩) Z.out).trans YY.out.2.2.2.2.2.1; have z2 : (u3).cell? ⟨(ad.add (i * 8)).block, (ad.add (i * 8)).off + 6, none⟩ = some (.int .i64 nb) := ((HT.out.hb).cell (p := ⟨(ad.add (i * 8)).block, (ad.add (i * 8)).off + 6, none⟩) Z.out).trans YY.out.2.2.2.2.2.2.1; have z3 : (u3).cell? ⟨(ad.add (i * 8)).block, (ad.add (i * 8)).off + 7, none⟩ = some (.slice Ab mb cb) := ((HT.out.hb).cell (p := ⟨(ad.add (i * 8)).block, (ad.add (i * 8)).off + 7, none⟩) Z.out).trans YY.out.2.2.2.2.2.2.2))
    all_goals
      go_wp2_with fail
      clear y0 y1 y2 y3 z0 z1 z2 z3
      have b9 : Below (u3).heap.size (u3) (u3).drew := (Below.refl _ _).drew; have h9 := hid (HT.out.up b9); clear HT; have HT := h9; clear h9; (try (have h7 := hid (T1.out.up b9); clear T1; have T1 := h7; clear h7)); (try (have h7 := hid (T2.out.up b9); clear T2; have T2 := h7; clear h7)); (try (have h7 := hid (TA.out.up b9); clear TA; have TA := h7; clear h7)); (try (have h7 := hid (TB.out.up b9); clear TB; have TB := h7; clear h7)); (try (have h7 := hid (TC.out.up b9); clear TC; have TC := h7; clear h7)); (try (have h7 := hid (XA.out.below b9 XA.out.lt); clear XA; have XA := h7; clear h7)); (try (have h7 := hid (XB.out.below b9 XB.out.lt); clear XB; have XB := h7; clear h7)); have y20 : ((u3).drew).cell? (ad.add (j * 8)) = some (.int .i64 qa2) := ((HT.out.hb).cell (p := ad.add (j * 8)) Z2.out).trans Y2.out.1; have y21 : ((u3).drew).cell? ⟨(ad.add (j * 8)).block, (ad.add (j * 8)).off + 1, none⟩ = some (.string sa2) := ((HT.out.hb).cell (p := ⟨(ad.add (j * 8)).block, (ad.add (j * 8)).off + 1, none⟩) Z2.out).trans Y2.out.2.1; have y22 : ((u3).drew).cell? ⟨(ad.add (j * 8)).block, (ad.add (j * 8)).off + 2, none⟩ = some (.int .i64 na2) := ((HT.out.hb).cell (p := ⟨(ad.add (j * 8)).block, (ad.add (j * 8)).off + 2, none⟩) Z2.out).trans Y2.out.2.2.1; have y23 : ((u3).drew).cell? ⟨(ad.add (j * 8)).block, (ad.add (j * 8)).off + 3, none⟩ = some (.slice Aa2 ma2 ca2) := ((HT.out.hb).cell (p := ⟨(ad.add (j * 8)).block, (ad.add (j * 8)).off + 3, none⟩) Z2.out).trans Y2.out.2.2.2.1; have z20 : ((u3).drew).cell? ⟨(ad.add (j * 8)).block, (ad.add (j * 8)).off + 4, none⟩ = some (.int .i64 qb2) := ((HT.out.hb).cell (p := ⟨(ad.add (j * 8)).block, (ad.add (j * 8)).off + 4, none⟩) Z2.out).trans Y2.out.2.2.2.2.1; have z21 : ((u3).drew).cell? ⟨(ad.add (j * 8)).block, (ad.add (j * 8)).off + 5, none⟩ = some (.string sb2) := ((HT.out.hb).cell (p := ⟨(ad.add (j * 8)).block, (ad.add (j * 8)).off + 5, none⟩) Z2.out).trans Y2.out.2.2.2.2.2.1; have z22 : ((u3).drew).cell? ⟨(ad.add (j * 8)).block, (ad.add (j * 8)).off + 6, none⟩ = some (.int .i64 nb2) := ((HT.out.hb).cell (p := ⟨(ad.add (j * 8)).block, (ad.add (j * 8)).off + 6, none⟩) Z2.out).trans Y2.out.2.2.2.2.2.2.1; have z23 : ((u3).drew).cell? ⟨(ad.add (j * 8)).block, (ad.add (j * 8)).off + 7, none⟩ = some (.slice Ab2 mb2 cb2) := ((HT.out.hb).cell (p := ⟨(ad.add (j * 8)).block, (ad.add (j * 8)).off + 7, none⟩) Z2.out).trans Y2.out.2.2.2.2.2.2.2; clear b9
      go_region_held3 (fun w' => w'.cell? (ad.add (j * 8)) = some (.int .i64 qa2) ∧ w'.cell? ⟨(ad.add (j * 8)).block, (ad.add (j * 8)).off + 1, none⟩ = some (.string sa2) ∧ w'.cell? ⟨(ad.add (j * 8)).block, (ad.add (j * 8)).off + 2, none⟩ = some (.int .i64 na2) ∧ w'.cell? ⟨(ad.add (j * 8)).block, (ad.add (j * 8)).off + 3, none⟩ = some (.slice Aa2 ma2 ca2) ∧ w'.cell? ⟨(ad.add (j * 8)).block, (ad.add (j * 8)).off + 4, none⟩ = some (.int .i64 qb2) ∧ w'.cell? ⟨(ad.add (j * 8)).block, (ad.add (j * 8)).off + 5, none⟩ = some (.string sb2) ∧ w'.cell? ⟨(ad.add (j * 8)).block, (ad.add (j * 8)).off + 6, none⟩ = some (.int .i64 nb2) ∧ w'.cell? ⟨(ad.add (j * 8)).block, (ad.add (j * 8)).off + 7, none⟩ = some (.slice Ab2 mb2 cb2)) (first | with_reducible exact ⟨y20, y21, y22, y23, z20, z21, z22, z23⟩ | assumption | go_keep)
        (first
          | (go_at_call 8; (with_reducible refine (law15_copied (ps[j].2) _ (fun b => b < w.heap.size) _ Q2.out.2.2.2 (Q2.out.2.1.upB HT.out.hb)).mono ?_); rintro e u4 ⟨⟨v, rfl, hv⟩, b9⟩; obtain ⟨q3, s3, n3, A3, m3, c3, rfl⟩ := hv.agg; have T0 := HT.out.s1.fresh hv; have h9 := hid (HT.out.up b9); clear HT; have HT := h9; clear h9; (try (have h7 := hid (T1.out.up b9); clear T1; have T1 := h7; clear h7)); (try (have h7 := hid (T2.out.up b9); clear T2; have T2 := h7; clear h7)); (try (have h7 := hid (TA.out.up b9); clear TA; have TA := h7; clear h7)); (try (have h7 := hid (TB.out.up b9); clear TB; have TB := h7; clear h7)); (try (have h7 := hid (TC.out.up b9); clear TC; have TC := h7; clear h7)); (try (have h7 := hid (XA.out.below b9 XA.out.lt); clear XA; have XA := h7; clear h7)); (try (have h7 := hid (XB.out.below b9 XB.out.lt); clear XB; have XB := h7; clear h7)); have y20 : (u4).cell? (ad.add (j * 8)) = some (.int .i64 qa2) := ((HT.out.hb).cell (p := ad.add (j * 8)) Z2.out).trans Y2.out.1; have y21 : (u4).cell? ⟨(ad.add (j * 8)).block, (ad.add (j * 8)).off + 1, none⟩ = some (.string sa2) := ((HT.out.hb).cell (p := ⟨(ad.add (j * 8)).block, (ad.add (j * 8)).off + 1, none⟩) Z2.out).trans Y2.out.2.1; have y22 : (u4).cell? ⟨(ad.add (j * 8)).block, (ad.add (j * 8)).off + 2, none⟩ = some (.int .i64 na2) := ((HT.out.hb).cell (p := ⟨(ad.add (j * 8)).block, (ad.add (j * 8)).off + 2, none⟩) Z2.out).trans Y2.out.2.2.1; have y23 : (u4).cell? ⟨(ad.add (j * 8)).block, (ad.add (j * 8)).off + 3, none⟩ = some (.slice Aa2 ma2 ca2) := ((HT.out.hb).cell (p := ⟨(ad.add (j * 8)).block, (ad.add (j * 8)).off + 3, none⟩) Z2.out).trans Y2.out.2.2.2.1; have z20 : (u4).cell? ⟨(ad.add (j * 8)).block, (ad.add (j * 8)).off + 4, none⟩ = some (.int .i64 qb2) := ((HT.out.hb).cell (p := ⟨(ad.add (j * 8)).block, (ad.add (j * 8)).off + 4, none⟩) Z2.out).trans Y2.out.2.2.2.2.1; have z21 : (u4).cell? ⟨(ad.add (j * 8)).block, (ad.add (j * 8)).off + 5, none⟩ = some (.string sb2) := ((HT.out.hb).cell (p := ⟨(ad.add (j * 8)).block, (ad.add (j * 8)).off + 5, none⟩) Z2.out).trans Y2.out.2.2.2.2.2.1; have z22 : (u4).cell? ⟨(ad.add (j * 8)).block, (ad.add (j * 8)).off + 6, none⟩ = some (.int .i64 nb2) := ((HT.out.hb).cell (p := ⟨(ad.add (j * 8)).block, (ad.add (j * 8)).off + 6, none⟩) Z2.out).trans Y2.out.2.2.2.2.2.2.1; have z23 : (u4).cell? ⟨(ad.add (j * 8)).block, (ad.add (j * 8)).off + 7, none⟩ = some (.slice Ab2 mb2 cb2) := ((HT.out.hb).cell (p := ⟨(ad.add (j * 8)).block, (ad.add (j * 8)).off + 7, none⟩) Z2.out).trans Y2.out.2.2.2.2.2.2.2; have T1 := hid T0; clear hv b9 T0)
          | (go_at_call 8; (with_reducible refine (law15_copied (ps[j].1) _ (fun b => b < w.heap.size) _ Q2.out.2.2.1 (Q2.out.1.upB HT.out.hb)).mono ?_); rintro e u5 ⟨⟨v, rfl, hv⟩, b9⟩; obtain ⟨q4, s4, n4, A4, m4, c4, rfl⟩ := hv.agg; have T0 := HT.out.s1.fresh hv; have h9 := hid (HT.out.up b9); clear HT; have HT := h9; clear h9; (try (have h7 := hid (T1.out.up b9); clear T1; have T1 := h7; clear h7)); (try (have h7 := hid (T2.out.up b9); clear T2; have T2 := h7; clear h7)); (try (have h7 := hid (TA.out.up b9); clear TA; have TA := h7; clear h7)); (try (have h7 := hid (TB.out.up b9); clear TB; have TB := h7; clear h7)); (try (have h7 := hid (TC.out.up b9); clear TC; have TC := h7; clear h7)); (try (have h7 := hid (XA.out.below b9 XA.out.lt); clear XA; have XA := h7; clear h7)); (try (have h7 := hid (XB.out.below b9 XB.out.lt); clear XB; have XB := h7; clear h7)); have y20 : (u5).cell? (ad.add (j * 8)) = some (.int .i64 qa2) := ((HT.out.hb).cell (p := ad.add (j * 8)) Z2.out).trans Y2.out.1; have y21 : (u5).cell? ⟨(ad.add (j * 8)).block, (ad.add (j * 8)).off + 1, none⟩ = some (.string sa2) := ((HT.out.hb).cell (p := ⟨(ad.add (j * 8)).block, (ad.add (j * 8)).off + 1, none⟩) Z2.out).trans Y2.out.2.1; have y22 : (u5).cell? ⟨(ad.add (j * 8)).block, (ad.add (j * 8)).off + 2, none⟩ = some (.int .i64 na2) := ((HT.out.hb).cell (p := ⟨(ad.add (j * 8)).block, (ad.add (j * 8)).off + 2, none⟩) Z2.out).trans Y2.out.2.2.1; have y23 : (u5).cell? ⟨(ad.add (j * 8)).block, (ad.add (j * 8)).off + 3, none⟩ = some (.slice Aa2 ma2 ca2) := ((HT.out.hb).cell (p := ⟨(ad.add (j * 8)).block, (ad.add (j * 8)).off + 3, none⟩) Z2.out).trans Y2.out.2.2.2.1; have z20 : (u5).cell? ⟨(ad.add (j * 8)).block, (ad.add (j * 8)).off + 4, none⟩ = some (.int .i64 qb2) := ((HT.out.hb).cell (p := ⟨(ad.add (j * 8)).block, (ad.add (j * 8)).off + 4, none⟩) Z2.out).trans Y2.out.2.2.2.2.1; have z21 : (u5).cell? ⟨(ad.add (j * 8)).block, (ad.add (j * 8)).off + 5, none⟩ = some (.string sb2) := ((HT.out.hb).cell (p := ⟨(ad.add (j * 8)).block, (ad.add (j * 8)).off + 5, none⟩) Z2.out).trans Y2.out.2.2.2.2.2.1; have z22 : (u5).cell? ⟨(ad.add (j * 8)).block, (ad.add (j * 8)).off + 6, none⟩ = some (.int .i64 nb2) := ((HT.out.hb).cell (p := ⟨(ad.add (j * 8)).block, (ad.add (j * 8)).off + 6, none⟩) Z2.out).trans Y2.out.2.2.2.2.2.2.1; have z23 : (u5).cell? ⟨(ad.add (j * 8)).block, (ad.add (j * 8)).off + 7, none⟩ = some (.slice Ab2 mb2 cb2) := ((HT.out.hb).cell (p := ⟨(ad.add (j * 8)).block, (ad.add (j * 8)).off + 7, none⟩) Z2.out).trans Y2.out.2.2.2.2.2.2.2; have T2 := hid T0; clear hv b9 T0)
          | (go_at_call 15; (with_reducible refine (sol_Unify HT.out.s2 T1.out T2.out).mono ?_); rintro e u6 ⟨rfl, hs, hk⟩; have h9 := hid (HT.out.turn2 hs hk); clear HT T1 T2; have HT := h9; clear h9 hs hk; have y20 : (u6).cell? (ad.add (j * 8)) = some (.int .i64 qa2) := ((HT.out.hb).cell (p := ad.add (j * 8)) Z2.out).trans Y2.out.1; have y21 : (u6).cell? ⟨(ad.add (j * 8)).block, (ad.add (j * 8)).off + 1, none⟩ = some (.string sa2) := ((HT.out.hb).cell (p := ⟨(ad.add (j * 8)).block, (ad.add (j * 8)).off + 1, none⟩) Z2.out).trans Y2.out.2.1; have y22 : (u6).cell? ⟨(ad.add (j * 8)).block, (ad.add (j * 8)).off + 2, none⟩ = some (.int .i64 na2) := ((HT.out.hb).cell (p := ⟨(ad.add (j * 8)).block, (ad.add (j * 8)).off + 2, none⟩) Z2.out).trans Y2.out.2.2.1; have y23 : (u6).cell? ⟨(ad.add (j * 8)).block, (ad.add (j * 8)).off + 3, none⟩ = some (.slice Aa2 ma2 ca2) := ((HT.out.hb).cell (p := ⟨(ad.add (j * 8)).block, (ad.add (j * 8)).off + 3, none⟩) Z2.out).trans Y2.out.2.2.2.1; have z20 : (u6).cell? ⟨(ad.add (j * 8)).block, (ad.add (j * 8)).off + 4, none⟩ = some (.int .i64 qb2) := ((HT.out.hb).cell (p := ⟨(ad.add (j * 8)).block, (ad.add (j * 8)).off + 4, none⟩) Z2.out).trans Y2.out.2.2.2.2.1; have z21 : (u6).cell? ⟨(ad.add (j * 8)).block, (ad.add (j * 8)).off + 5, none⟩ = some (.string sb2) := ((HT.out.hb).cell (p := ⟨(ad.add (j * 8)).block, (ad.add (j * 8)).off + 5, none⟩) Z2.out).trans Y2.out.2.2.2.2.2.1; have z22 : (u6).cell? ⟨(ad.add (j * 8)).block, (ad.add (j * 8)).off + 6, none⟩ = some (.int .i64 nb2) := ((HT.out.hb).cell (p := ⟨(ad.add (j * 8)).block, (ad.add (j * 8)).off + 6, none⟩) Z2.out).trans Y2.out.2.2.2.2.2.2.1; have z23 : (u6).cell? ⟨(ad.add (j * 8)).block, (ad.add (j * 8)).off + 7, none⟩ = some (.slice Ab2 mb2 cb2) := ((HT.out.hb).cell (p := ⟨(ad.add (j * 8)).block, (ad.add (j * 8)).off + 7, none⟩) Z2.out).trans Y2.out.2.2.2.2.2.2.2))
    all_goals
      clear y20 y21 y22 y23 z20 z21 z22 z23
      have hst := fun h1 h2 => HRn.out.next HK9.out hlt HJ.out h1 h2
      generalize unifyF σ ps[i].1 ps[i].2 = r1 at HT hst ⊢
      generalize unifyF τ ps[j].2 ps[j].1 = r2 at HT hst ⊢
      obtain ⟨e, σ2⟩ := r1
      obtain ⟨f, τ2⟩ := r2
      dsimp only at HT hst ⊢
      have Hst := hid hst
      clear hst hj1 hj2 hil' hjl'
      by_cases he0 : e = 0
      case neg =>
        have g0 : (e != 0) = true := by simpa using he0
        clear he0
        go_wp2_with (go_at_call 6; go_must (refine (law15_wakes _).mono ?_); rintro e w9 ⟨rfl, b9⟩)
        go_ret
        exact ⟨rfl, below_hop b9 HT.out.hb⟩
      by_cases hf0 : f = 0
      case neg =>
        have g0 : (f != 0) = true := by simpa using hf0
        subst he0
        clear hf0
        go_wp2_with (go_at_call 6; go_must (refine (law15_wakes _).mono ?_); rintro e w9 ⟨rfl, b9⟩)
        go_ret
        exact ⟨rfl, below_hop b9 HT.out.hb⟩
      subst he0 hf0
      go_wp2_with fail
      have hgk := Hi.out
      go_roundg (gk - 1)
      case rel => exact ⟨i + 1, _, _, by omega, by go_num, HT, hid (Hst.out (by trivial) (by trivial))⟩
      case measure => omega
set_option maxRecDepth 100000 in
theorem answers {H : Type} (enc : TypeId × Value → H) : Answers enc Tryd.prog 4 Tryd.f4 := by
  intro W base args ds ps hA hval hlt hwt
  rw [Tryd.params4] at hA hval
  obtain ⟨v0, vs0, d0, ds0, p0, q0, hargs, rfl, rfl, h0, r0⟩ := trodAll_cons hA
  obtain ⟨v1, vs1, d1, ds1, p1, q1, rfl, rfl, rfl, h1, r1⟩ := trodAll_cons r0
  obtain ⟨rfl, rfl, rfl⟩ := trodAll_nil r1
  obtain rfl : args = #[v0, v1] := Array.ext' hargs
  obtain ⟨a0, rfl, rfl, rfl, w0⟩ := open_int Tryd.underlying5 (hval 0 5 v0 rfl rfl) h0
  obtain ⟨x1, i1⟩ := open_pairs (B := W.heap.size) (hval 1 34 v1 rfl rfl) h1 (fun p hp => hlt p (by simp [hp]))
  exact walk W a0 w0 i1
theorem hspec {H : Type} (ds : List (DataW H)) (h : ds.length = (Tryd.f4).params.toList.length) : Rows.typMostSpec.fn H ds = { results := [.lit (.bool true)], args := ds } := by
  rw [Tryd.params4] at h
  match ds, h with
  | [_, _], _ => rfl
theorem lifted (os : Os) (started : os.Started) (H : Type) (enc : TypeId × Value → H) : ReturnsInHanded {} Tryd.checked os 4 .any (fun w args => (Rows.typMostSpec.pre enc Tryd.prog Tryd.f4 Rows.typMostRow.domain false w args ∧ laidMetH Tryd.prog Rows.typMostRow.laid w) ∧ sizedMet enc Tryd.prog Tryd.f4 (OpenSpec.ofChange Rows.typMostSpec) false w args) (Rows.typMostSpec.post enc Tryd.prog Tryd.f4 false true false false) :=
  lifted_of_walk_laid (C := Tryd.checked) (tb := 4) (by kernel_rfl) started (by kernel_rfl) Tryd.func4 rfl hspec rfl Tryd.underlying4 (by kernel_rfl) (by kernel_rfl)
    (ChangeSpec.witness_shaped (enc := enc) (C := Tryd.checked) (os := os) (X := fun w _ => laidMetH Tryd.prog Rows.typMostRow.laid w) false (World.doorLaid Tryd.prog 24 os) #[.int .u8 0, .slice none 0 0] 8 rfl (World.shaped_of_RefB (by kernel_rfl) (by kernel_rfl)) (by kernel_rfl) (by kernel_rfl) (by kernel_rfl) (door_met os _)) (answers enc)
theorem over : Rows.typMostRow.holds Tryd.pinned (OpenSpec.ofChange Rows.typMostSpec) :=
  OpenClaim.holds_of_wide 4 Tryd.f4 rfl rfl rfl rfl rfl rfl rfl ⟨rfl, rfl, rfl, rfl, rfl⟩ rfl rfl rfl rfl rfl (by kernel_rfl) Tryd.func4 (by kernel_rfl)
    (of_decide_eq_true (by kernel_rfl)) (by unfold Func.isWrapper; first | (rw [if_pos (by decide +kernel)]; kernel_rfl) | (rw [if_neg (by decide +kernel)]; exact ⟨rfl, rfl⟩))
    (fun os started H enc _ => lifted os started H enc)
/-- THE STATEMENT: THE TIED CARD. -/
theorem proved : Rows.TypMostCardSaid :=
  Claim7.holds_tied_plain_at .later [] Rows.typMostCard.laidKinds true Rows.typMostCard.stood.harness false
    over (fun _ h => by cases h) (by kernel_rfl) (fun _ h => by cases h) typMost_row_tie rfl ⟨rfl, rfl⟩ (by kernel_rfl) rfl
    (fun f fn hf hfn => by
      obtain rfl : f = 4 := Option.some.inj ((show Tryd.prog.funcNamed Rows.typMostRow.func = some 4 by kernel_rfl).symm.trans hf) |>.symm
      obtain rfl : fn = Tryd.f4 := (Option.some.inj (Tryd.func4.symm.trans hfn)).symm
      exact ⟨by kernel_rfl, fun j t ht => by
        have hall : (Tryd.f4.params.toList.all fun u => !Tryd.prog.wantsStandIn u) = true := by kernel_rfl
        have hm : t ∈ Tryd.f4.params.toList := Array.mem_toList_iff.2 (Array.mem_of_getElem? ht)
        exact (show Tryd.prog.wantsStandIn t = false by simpa using List.all_eq_true.1 hall t hm)⟩)
    (by kernel_rfl)
#print axioms proved
end Go.Proofs.YtnlifgcnmhakiaaDoor.typMost
