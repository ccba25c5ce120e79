/-
  THE LAW TypUnifies: pairs of types, one behind the other, are made the same, or are not, and every variable is then what the document says.
-/
import Derived.Test.YtnlifgcnmhakiaaTMix
import Derived.Deep.CutBlock
import Derived.Deep.DeepCutAuto
namespace Go.Proofs.Ytnlifgcnmhakiaa.typUnifies
open Go.ChangeShapes Go.WideShapes Go.ChangeAt Go.RowKit

theorem at_V (w : World) (S : Nat → Prop) (i : Nat) (h : i ≤ 1000) : TAt w S (.mk 2 ⟨#[]⟩ i []) (.agg #[.int .i64 2, .string ⟨#[]⟩, .int .i64 i, .slice none 0 0]) := TAt.make rfl (Nat.le_refl _) (Nat.zero_le _) (fun _ => ⟨rfl, rfl⟩) (by rw [TRow]; trivial) rfl (by simp [Lit.wf, IntKind.min, IntKind.max, IntKind.signed, IntKind.bits]; omega)
set_option maxHeartbeats 16000000 in
set_option maxRecDepth 100000 in
theorem walk (w : World) (nv : Int) (hnv : (Lit.int .u8 nv).wf = true) {l : Value} {ps : List (Ty × Ty)} (hp : PsAt w (fun b => b < w.heap.size) ps l) :
    Calls Try.prog 3 #[.int .u8 nv, l] w fun e w' => e = .returned (.bool true) ∧ Below w.heap.size w w' := by
  have HPs := hid hp
  obtain ⟨A0, c0, rfl, hpl1, hpl2, hrow⟩ := hp
  have HR := hid hrow
  have hL : ps.length ≤ 9223372036854775807 := by unfold maxLen at hpl2; omega
  have Hnv := hid hnv
  clear hrow hpl1 hpl2 hnv
  go_enter Try.func3, Try.ntmps3
  go_upto_block 0 with (first
    | (go_at_call 9; (refine (law15_large ps _ (fun b => b < w.heap.size) _ HPs.out).mono ?_); rintro e w1 ⟨⟨l1, rfl, hl1⟩, b1⟩; go_must (have HB := hid b1; have HL1 := hid hl1; clear b1 hl1))
    | (go_at_call 10; go_must (refine (law15_wakes _).mono ?_); rintro e w9 ⟨rfl, b9⟩)
    | (go_at_call 11; go_must (refine (law15_few nv Hnv.out _).mono ?_); rintro e w3 ⟨rfl, rfl⟩)
    | (go_at_call 12; (refine (law15_both (fewF nv) (by have := fewF_le nv; omega) w1).mono ?_); rintro e w4 ⟨⟨v1, v2, rfl, F1, F2⟩, b9⟩; go_must (have HF := hid (And.intro F1 (And.intro F2 HB.out.size)); have h9 := hid (below_hop b9 HB.out); clear HB; have HB := h9; clear h9 b9 F1 F2)))
  · go_ret
    exact ⟨rfl, below_hop b9 HB.out⟩
  have HFew := hid (HL1.out (by first | assumption | (cases l1 <;> simp_all)))
  have hfw := fewF_le nv
  have hf2 := HF.out
  obtain ⟨F, pv, c, rpv, rc, hFB, S1, R1, ne1, ne2, ne3, ne4⟩ := both_sols hf2.1 hf2.2.1 (Nat.le_refl _) (by omega) (by omega) (by omega)
  have hTM : TM F w1.heap.size w w1.heap.size pv c (w1.heap.size + 1) rpv rc (List.replicate (fewF nv) none) (List.replicate (fewF nv) none) w4 := ⟨HB.out, S1, R1, ⟨ne1, ne2, ne3, ne4⟩, hf2.2.2⟩
  have HFB := hid hFB
  obtain ⟨n, hn⟩ : ∃ n, n = fewF nv := ⟨_, rfl⟩
  rw [← hn] at hTM hfw
  have HT : Hid (TM F w1.heap.size w w1.heap.size pv c (w1.heap.size + 1) rpv rc (List.replicate n none) (List.replicate n none) w4 ∧ (List.replicate n (none : Option Ty)).length = n) := hid ⟨hTM, by simp⟩
  have Hn := hid hn
  clear S1 R1 HF hf2 HL1 HB ne1 ne2 ne3 ne4 hTM hFB
  generalize List.replicate n none = σ0 at HT
  go_cut [] (fun wx => ∃ σ, Hid (TM F w1.heap.size w w1.heap.size pv c (w1.heap.size + 1) rpv rc σ σ wx) ∧ Hid (σ.length = n))
  case first =>
    clear hn
    go_wp2_with fail
    go_loopg [8] 12 (fun g y wr => ∃ (i : Nat) (σ : Sg), i + g = 12 ∧ y = .int .i64 i ∧ Hid (TM F w1.heap.size w w1.heap.size pv c (w1.heap.size + 1) rpv rc σ σ wr) ∧ Hid (σ.length = n))
    case atStart => exact ⟨0, _, by omega, rfl, hid HT.out.1, hid HT.out.2⟩
    case round =>
      clear HT
      obtain ⟨i, σ, hi, rfl, HT, HLn⟩ := hrel
      have Hi := hid hi
      by_cases hlt : i < ps.length
      case neg =>
        have hlt' : ¬ (i : Int) < ps.length := by omega
        have hd : decide ((i : Int) < (ps.length : Nat)) = false := by simpa using hlt'
        have hd2 : decide (i < ps.length) = false := by simpa using hlt
        clear hi
        go_wp2
        go_meet
        exact ⟨σ, HT, HLn⟩
      have hlt' : (i : Int) < ps.length := by omega
      by_cases h12 : i < 12
      case neg =>
        have h12' : ¬ (i : Int) < 12 := by omega
        clear hi
        go_wp2
        go_meet
        exact ⟨σ, HT, HLn⟩
      have h12' : (i : Int) < 12 := by omega
      have hi0 : (0 : Int) ≤ (i : Int) := by omega
      have hiw : IntKind.i64.wrap ((i : Int) + 1) = i + 1 := IntWalk.i64_in _ (by omega)
      clear hi
      obtain ⟨ad, qa, sa, na, Aa, ma, ca, qb, sb, nb, Ab, mb, cb, rfl, hSb, hab, y0, y1, y2, y3, z0, z1, z2, z3, hea, heb⟩ := HR.out.elem hlt; have Q := hid (And.intro hea (And.intro heb (HFew.out i hlt h12))); have YY := hid (And.intro y0 (And.intro y1 (And.intro y2 (And.intro y3 (And.intro z0 (And.intro z1 (And.intro z2 z3))))))); have Z := hid (show (ad.add (i * 8)).block < w.heap.size by rw [hab]; exact hSb); clear hSb hab hea heb y0 y1 y2 y3 z0 z1 z2 z3
      have HLn2 := hid ((unifyF_fine HT.out.s1.ok ps[i].1 ps[i].2).2.trans HLn.out)
      go_wp2_with fail
      have b9 : Below wr.heap.size wr wr.drew := (Below.refl _ _).drew
      have h9 := hid (HT.out.up b9); clear HT; have HT := h9; clear h9; (try (have h7 := hid (T1.out.up b9); clear T1; have T1 := h7; clear h7)); (try (have h7 := hid (T2.out.up b9); clear T2; have T2 := h7; clear h7)); have y0 : (wr.drew).cell? (ad.add (i * 8)) = some (.int .i64 qa) := ((HT.out.hb).cell (p := ad.add (i * 8)) Z.out).trans YY.out.1; have y1 : (wr.drew).cell? ⟨(ad.add (i * 8)).block, (ad.add (i * 8)).off + 1, none⟩ = some (.string sa) := ((HT.out.hb).cell (p := ⟨(ad.add (i * 8)).block, (ad.add (i * 8)).off + 1, none⟩) Z.out).trans YY.out.2.1; have y2 : (wr.drew).cell? ⟨(ad.add (i * 8)).block, (ad.add (i * 8)).off + 2, none⟩ = some (.int .i64 na) := ((HT.out.hb).cell (p := ⟨(ad.add (i * 8)).block, (ad.add (i * 8)).off + 2, none⟩) Z.out).trans YY.out.2.2.1; have y3 : (wr.drew).cell? ⟨(ad.add (i * 8)).block, (ad.add (i * 8)).off + 3, none⟩ = some (.slice Aa ma ca) := ((HT.out.hb).cell (p := ⟨(ad.add (i * 8)).block, (ad.add (i * 8)).off + 3, none⟩) Z.out).trans YY.out.2.2.2.1; have z0 : (wr.drew).cell? ⟨(ad.add (i * 8)).block, (ad.add (i * 8)).off + 4, none⟩ = some (.int .i64 qb) := ((HT.out.hb).cell (p := ⟨(ad.add (i * 8)).block, (ad.add (i * 8)).off + 4, none⟩) Z.out).trans YY.out.2.2.2.2.1; have z1 : (wr.drew).cell? ⟨(ad.add (i * 8)).block, (ad.add (i * 8)).off + 5, none⟩ = some (.string sb) := ((HT.out.hb).cell (p := ⟨(ad.add (i * 8)).block, (ad.add (i * 8)).off + 5, none⟩) Z.out).trans YY.out.2.2.2.2.2.1; have z2 : (wr.drew).cell? ⟨(ad.add (i * 8)).block, (ad.add (i * 8)).off + 6, none⟩ = some (.int .i64 nb) := ((HT.out.hb).cell (p := ⟨(ad.add (i * 8)).block, (ad.add (i * 8)).off + 6, none⟩) Z.out).trans YY.out.2.2.2.2.2.2.1; have z3 : (wr.drew).cell? ⟨(ad.add (i * 8)).block, (ad.add (i * 8)).off + 7, none⟩ = some (.slice Ab mb cb) := ((HT.out.hb).cell (p := ⟨(ad.add (i * 8)).block, (ad.add (i * 8)).off + 7, none⟩) Z.out).trans YY.out.2.2.2.2.2.2.2
      clear b9
      go_region_held3 (fun w' => w'.cell? (ad.add (i * 8)) = some (.int .i64 qa) ∧ w'.cell? ⟨(ad.add (i * 8)).block, (ad.add (i * 8)).off + 1, none⟩ = some (.string sa) ∧ w'.cell? ⟨(ad.add (i * 8)).block, (ad.add (i * 8)).off + 2, none⟩ = some (.int .i64 na) ∧ w'.cell? ⟨(ad.add (i * 8)).block, (ad.add (i * 8)).off + 3, none⟩ = some (.slice Aa ma ca) ∧ w'.cell? ⟨(ad.add (i * 8)).block, (ad.add (i * 8)).off + 4, none⟩ = some (.int .i64 qb) ∧ w'.cell? ⟨(ad.add (i * 8)).block, (ad.add (i * 8)).off + 5, none⟩ = some (.string sb) ∧ w'.cell? ⟨(ad.add (i * 8)).block, (ad.add (i * 8)).off + 6, none⟩ = some (.int .i64 nb) ∧ w'.cell? ⟨(ad.add (i * 8)).block, (ad.add (i * 8)).off + 7, none⟩ = some (.slice Ab mb cb)) (first | with_reducible exact ⟨y0, y1, y2, y3, z0, z1, z2, z3⟩ | assumption | go_keep)
        (first
          | (go_at_call 14; (with_reducible refine (law15_copied (ps[i].1) _ (fun b => b < w.heap.size) _ Q.out.2.2.1 (Q.out.1.upB HT.out.hb)).mono ?_); rintro e u1 ⟨⟨v, rfl, hv⟩, b9⟩; obtain ⟨q1, s1, n1, A1, m1, c1, rfl⟩ := hv.agg; have T0 := HT.out.s1.fresh hv; have h9 := hid (HT.out.up b9); clear HT; have HT := h9; clear h9; (try (have h7 := hid (T1.out.up b9); clear T1; have T1 := h7; clear h7)); (try (have h7 := hid (T2.out.up b9); clear T2; have T2 := h7; clear h7)); have y0 : (u1).cell? (ad.add (i * 8)) = some (.int .i64 qa) := ((HT.out.hb).cell (p := ad.add (i * 8)) Z.out).trans YY.out.1; have y1 : (u1).cell? ⟨(ad.add (i * 8)).block, (ad.add (i * 8)).off + 1, none⟩ = some (.string sa) := ((HT.out.hb).cell (p := ⟨(ad.add (i * 8)).block, (ad.add (i * 8)).off + 1, none⟩) Z.out).trans YY.out.2.1; have y2 : (u1).cell? ⟨(ad.add (i * 8)).block, (ad.add (i * 8)).off + 2, none⟩ = some (.int .i64 na) := ((HT.out.hb).cell (p := ⟨(ad.add (i * 8)).block, (ad.add (i * 8)).off + 2, none⟩) Z.out).trans YY.out.2.2.1; have y3 : (u1).cell? ⟨(ad.add (i * 8)).block, (ad.add (i * 8)).off + 3, none⟩ = some (.slice Aa ma ca) := ((HT.out.hb).cell (p := ⟨(ad.add (i * 8)).block, (ad.add (i * 8)).off + 3, none⟩) Z.out).trans YY.out.2.2.2.1; have z0 : (u1).cell? ⟨(ad.add (i * 8)).block, (ad.add (i * 8)).off + 4, none⟩ = some (.int .i64 qb) := ((HT.out.hb).cell (p := ⟨(ad.add (i * 8)).block, (ad.add (i * 8)).off + 4, none⟩) Z.out).trans YY.out.2.2.2.2.1; have z1 : (u1).cell? ⟨(ad.add (i * 8)).block, (ad.add (i * 8)).off + 5, none⟩ = some (.string sb) := ((HT.out.hb).cell (p := ⟨(ad.add (i * 8)).block, (ad.add (i * 8)).off + 5, none⟩) Z.out).trans YY.out.2.2.2.2.2.1; have z2 : (u1).cell? ⟨(ad.add (i * 8)).block, (ad.add (i * 8)).off + 6, none⟩ = some (.int .i64 nb) := ((HT.out.hb).cell (p := ⟨(ad.add (i * 8)).block, (ad.add (i * 8)).off + 6, none⟩) Z.out).trans YY.out.2.2.2.2.2.2.1; have z3 : (u1).cell? ⟨(ad.add (i * 8)).block, (ad.add (i * 8)).off + 7, none⟩ = some (.slice Ab mb cb) := ((HT.out.hb).cell (p := ⟨(ad.add (i * 8)).block, (ad.add (i * 8)).off + 7, none⟩) Z.out).trans YY.out.2.2.2.2.2.2.2; have T1 := hid T0; clear hv b9 T0)
          | (go_at_call 14; (with_reducible refine (law15_copied (ps[i].2) _ (fun b => b < w.heap.size) _ Q.out.2.2.2 (Q.out.2.1.upB HT.out.hb)).mono ?_); rintro e u2 ⟨⟨v, rfl, hv⟩, b9⟩; obtain ⟨q2, s2, n2, A2, m2, c2, rfl⟩ := hv.agg; have T0 := HT.out.s1.fresh hv; have h9 := hid (HT.out.up b9); clear HT; have HT := h9; clear h9; (try (have h7 := hid (T1.out.up b9); clear T1; have T1 := h7; clear h7)); (try (have h7 := hid (T2.out.up b9); clear T2; have T2 := h7; clear h7)); have y0 : (u2).cell? (ad.add (i * 8)) = some (.int .i64 qa) := ((HT.out.hb).cell (p := ad.add (i * 8)) Z.out).trans YY.out.1; have y1 : (u2).cell? ⟨(ad.add (i * 8)).block, (ad.add (i * 8)).off + 1, none⟩ = some (.string sa) := ((HT.out.hb).cell (p := ⟨(ad.add (i * 8)).block, (ad.add (i * 8)).off + 1, none⟩) Z.out).trans YY.out.2.1; have y2 : (u2).cell? ⟨(ad.add (i * 8)).block, (ad.add (i * 8)).off + 2, none⟩ = some (.int .i64 na) := ((HT.out.hb).cell (p := ⟨(ad.add (i * 8)).block, (ad.add (i * 8)).off + 2, none⟩) Z.out).trans YY.out.2.2.1; have y3 : (u2).cell? ⟨(ad.add (i * 8)).block, (ad.add (i * 8)).off + 3, none⟩ = some (.slice Aa ma ca) := ((HT.out.hb).cell (p := ⟨(ad.add (i * 8)).block, (ad.add (i * 8)).off + 3, none⟩) Z.out).trans YY.out.2.2.2.1; have z0 : (u2).cell? ⟨(ad.add (i * 8)).block, (ad.add (i * 8)).off + 4, none⟩ = some (.int .i64 qb) := ((HT.out.hb).cell (p := ⟨(ad.add (i * 8)).block, (ad.add (i * 8)).off + 4, none⟩) Z.out).trans YY.out.2.2.2.2.1; have z1 : (u2).cell? ⟨(ad.add (i * 8)).block, (ad.add (i * 8)).off + 5, none⟩ = some (.string sb) := ((HT.out.hb).cell (p := ⟨(ad.add (i * 8)).block, (ad.add (i * 8)).off + 5, none⟩) Z.out).trans YY.out.2.2.2.2.2.1; have z2 : (u2).cell? ⟨(ad.add (i * 8)).block, (ad.add (i * 8)).off + 6, none⟩ = some (.int .i64 nb) := ((HT.out.hb).cell (p := ⟨(ad.add (i * 8)).block, (ad.add (i * 8)).off + 6, none⟩) Z.out).trans YY.out.2.2.2.2.2.2.1; have z3 : (u2).cell? ⟨(ad.add (i * 8)).block, (ad.add (i * 8)).off + 7, none⟩ = some (.slice Ab mb cb) := ((HT.out.hb).cell (p := ⟨(ad.add (i * 8)).block, (ad.add (i * 8)).off + 7, none⟩) Z.out).trans YY.out.2.2.2.2.2.2.2; have T2 := hid T0; clear hv b9 T0)
          | (go_at_call 13; (with_reducible refine (sol_Unify HT.out.s1 T1.out T2.out).mono ?_); rintro e u3 ⟨rfl, hs, hk⟩; have h9 := hid (HT.out.turn1 hs hk); clear HT T1 T2; have HT := h9; clear h9 hs hk; have y0 : (u3).cell? (ad.add (i * 8)) = some (.int .i64 qa) := ((HT.out.hb).cell (p := ad.add (i * 8)) Z.out).trans YY.out.1; have y1 : (u3).cell? ⟨(ad.add (i * 8)).block, (ad.add (i * 8)).off + 1, none⟩ = some (.string sa) := ((HT.out.hb).cell (p := ⟨(ad.add (i * 8)).block, (ad.add (i * 8)).off + 1, none⟩) Z.out).trans YY.out.2.1; have y2 : (u3).cell? ⟨(ad.add (i * 8)).block, (ad.add (i * 8)).off + 2, none⟩ = some (.int .i64 na) := ((HT.out.hb).cell (p := ⟨(ad.add (i * 8)).block, (ad.add (i * 8)).off + 2, none⟩) Z.out).trans YY.out.2.2.1; have y3 : (u3).cell? ⟨(ad.add (i * 8)).block, (ad.add (i * 8)).off + 3, none⟩ = some (.slice Aa ma ca) := ((HT.out.hb).cell (p := ⟨(ad.add (i * 8)).block, (ad.add (i * 8)).off + 3, none⟩) Z.out).trans YY.out.2.2.2.1; have z0 : (u3).cell? ⟨(ad.add (i * 8)).block, (ad.add (i * 8)).off + 4, none⟩ = some (.int .i64 qb) := ((HT.out.hb).cell (p := ⟨(ad.add (i * 8)).block, (ad.add (i * 8)).off + 4, none⟩) Z.out).trans YY.out.2.2.2.2.1; have z1 : (u3).cell? ⟨(ad.add (i * 8)).block, (ad.add (i * 8)).off + 5, none⟩ = some (.string sb) := ((HT.out.hb).cell (p := ⟨(ad.add (i * 8)).block, (ad.add (i * 8)).off + 5, none⟩) Z.out).trans YY.out.2.2.2.2.2.1; have z2 : (u3).cell? ⟨(ad.add (i * 8)).block, (ad.add (i * 8)).off + 6, none⟩ = some (.int .i64 nb) := ((HT.out.hb).cell (p := ⟨(ad.add (i * 8)).block, (ad.add (i * 8)).off + 6, none⟩) Z.out).trans YY.out.2.2.2.2.2.2.1; have z3 : (u3).cell? ⟨(ad.add (i * 8)).block, (ad.add (i * 8)).off + 7, none⟩ = some (.slice Ab mb cb) := ((HT.out.hb).cell (p := ⟨(ad.add (i * 8)).block, (ad.add (i * 8)).off + 7, none⟩) Z.out).trans YY.out.2.2.2.2.2.2.2)
          | (go_at_call 15; (with_reducible refine (rsol_Unify HT.out.r1 (HT.out.old HFB.out Q.out.1) (HT.out.old HFB.out Q.out.2.1)).mono ?_); rintro e u4 ⟨rfl, hs, hk⟩; have h9 := hid (HT.out.turn2 hs hk); (try (have h7 := hid (HT.out.at2 hk T1.out); clear T1; have T1 := h7; clear h7)); (try (have h7 := hid (HT.out.at2 hk T2.out); clear T2; have T2 := h7; clear h7)); clear HT; have HT := h9; clear h9 hs hk; have y0 : (u4).cell? (ad.add (i * 8)) = some (.int .i64 qa) := ((HT.out.hb).cell (p := ad.add (i * 8)) Z.out).trans YY.out.1; have y1 : (u4).cell? ⟨(ad.add (i * 8)).block, (ad.add (i * 8)).off + 1, none⟩ = some (.string sa) := ((HT.out.hb).cell (p := ⟨(ad.add (i * 8)).block, (ad.add (i * 8)).off + 1, none⟩) Z.out).trans YY.out.2.1; have y2 : (u4).cell? ⟨(ad.add (i * 8)).block, (ad.add (i * 8)).off + 2, none⟩ = some (.int .i64 na) := ((HT.out.hb).cell (p := ⟨(ad.add (i * 8)).block, (ad.add (i * 8)).off + 2, none⟩) Z.out).trans YY.out.2.2.1; have y3 : (u4).cell? ⟨(ad.add (i * 8)).block, (ad.add (i * 8)).off + 3, none⟩ = some (.slice Aa ma ca) := ((HT.out.hb).cell (p := ⟨(ad.add (i * 8)).block, (ad.add (i * 8)).off + 3, none⟩) Z.out).trans YY.out.2.2.2.1; have z0 : (u4).cell? ⟨(ad.add (i * 8)).block, (ad.add (i * 8)).off + 4, none⟩ = some (.int .i64 qb) := ((HT.out.hb).cell (p := ⟨(ad.add (i * 8)).block, (ad.add (i * 8)).off + 4, none⟩) Z.out).trans YY.out.2.2.2.2.1; have z1 : (u4).cell? ⟨(ad.add (i * 8)).block, (ad.add (i * 8)).off + 5, none⟩ = some (.string sb) := ((HT.out.hb).cell (p := ⟨(ad.add (i * 8)).block, (ad.add (i * 8)).off + 5, none⟩) Z.out).trans YY.out.2.2.2.2.2.1; have z2 : (u4).cell? ⟨(ad.add (i * 8)).block, (ad.add (i * 8)).off + 6, none⟩ = some (.int .i64 nb) := ((HT.out.hb).cell (p := ⟨(ad.add (i * 8)).block, (ad.add (i * 8)).off + 6, none⟩) Z.out).trans YY.out.2.2.2.2.2.2.1; have z3 : (u4).cell? ⟨(ad.add (i * 8)).block, (ad.add (i * 8)).off + 7, none⟩ = some (.slice Ab mb cb) := ((HT.out.hb).cell (p := ⟨(ad.add (i * 8)).block, (ad.add (i * 8)).off + 7, none⟩) Z.out).trans YY.out.2.2.2.2.2.2.2))
      all_goals
        go_wp2_with fail
        have hgk := Hi.out
        go_roundg (gk - 1)
        case rel => exact ⟨i + 1, _, by omega, rfl, HT, HLn2⟩
        case measure => omega
  case rest =>
    clear HT
    obtain ⟨σ, HT, HLn⟩ := hcut
    subst hn
    have HLn := hid HLn.out
    have hw1 : (1 : Int) ≤ fewF nv := by omega
    have hw2 : (fewF nv : Int) ≤ 12 := by omega
    go_wp2
    go_loopg [9] (fewF nv) (fun g y wr => ∃ i : Nat, i + g = fewF nv + 1 ∧ y = .int .i64 i ∧ Hid (1 ≤ i) ∧ Hid (TM F w1.heap.size w w1.heap.size pv c (w1.heap.size + 1) rpv rc σ σ wr))
    case atStart => exact ⟨1, by omega, rfl, hid (Nat.le_refl _), HT⟩
    case round =>
      clear HT
      obtain ⟨i, hi, rfl, h1i, HT⟩ := hrel
      have Hi := hid hi
      by_cases hlt : i ≤ fewF nv
      · have hlt' : (i : Int) ≤ fewF nv := by omega
        have hiw : IntKind.i64.wrap ((i : Int) + 1) = i + 1 := IntWalk.i64_in _ (by omega)
        have hi9 := hid (show i ≤ 1000 by omega)
        obtain ⟨r, hr⟩ : ∃ r, r = applyF σ (.mk 2 ⟨#[]⟩ i []) := ⟨_, rfl⟩
        have HA := hid hr.symm
        obtain ⟨u, g⟩ := r
        have hsame := hid ((sameT_iff u u).2 rfl)
        clear hi hr
        go_wp2_with (first
          | (go_at_call 16; go_must (refine (sol_Apply HT.out.s1 (at_V _ _ i hi9.out)).mono ?_); rw [HA.out]; rintro e u1 ⟨⟨v, rfl, hv⟩, b9⟩; go_must (obtain ⟨qu, su, nu, Au, mu, cu, rfl⟩ := hv.agg; have TU := hid (HT.out.s1.fresh hv); have h9 := hid (HT.out.up b9); clear HT; have HT := h9; clear h9 hv b9))
          | (go_at_call 17; go_must (refine (rsol_Apply ((HT.out.up (by go_grown : Below u1.heap.size u1 _)).r1) (at_V _ _ i hi9.out)).mono ?_); rw [HA.out]; rintro e u2 ⟨⟨v, rfl, hv⟩, b9⟩; go_must (obtain ⟨qw, sw, nw, Aw, mw, cw, rfl⟩ := hv.agg; have hT5 := HT.out.up ((Below.refl u1.heap.size u1).alloc (Nat.le_refl _) (.cells #[.int .i64 qu, .string su, .int .i64 nu, .slice Au mu cu] 34)); have TV := hid (hT5.s1.fresh hv); have b8 := below_hop b9 ((Below.refl u1.heap.size u1).alloc (Nat.le_refl _) (.cells #[.int .i64 qu, .string su, .int .i64 nu, .slice Au mu cu] 34)); have XU := hid ((Blk.new u1 34 #[.int .i64 qu, .string su, .int .i64 nu, .slice Au mu cu]).below b9 (by simp)); have h9 := hid (HT.out.up b8); have h7 := hid (TU.out.up b8); clear HT TU; have HT := h9; have TU := h7; clear h9 h7 hv b9 b8 hT5; have y0 : ∀ o, (u2.alloc o).cell? ⟨u1.heap.size, 0, none⟩ = some (.int .i64 qu) := (fun o => (XU.out.alloc o).cell 0); have y1 : ∀ o, (u2.alloc o).cell? ⟨u1.heap.size, 1, none⟩ = some (.string su) := (fun o => (XU.out.alloc o).cell 1); have y2 : ∀ o, (u2.alloc o).cell? ⟨u1.heap.size, 2, none⟩ = some (.int .i64 nu) := (fun o => (XU.out.alloc o).cell 2); have y3 : ∀ o, (u2.alloc o).cell? ⟨u1.heap.size, 3, none⟩ = some (.slice Au mu cu) := (fun o => (XU.out.alloc o).cell 3)))
          | (go_at_call 18; go_must (refine (ref15_Same u u _ _ F F _ (TU.out.up (by go_grown : Below u2.heap.size u2 _)) (TV.out.up (by go_grown : Below u2.heap.size u2 _))).mono ?_); unfold SameP; rw [hsame.out]; rintro e u3 ⟨rfl, b9⟩; go_must (have h9 := hid (HT.out.up (below_hop b9 (by go_grown : Below u2.heap.size u2 _))); clear HT; have HT := h9; clear h9 b9)))
        have hgk := Hi.out
        go_roundg (gk - 1)
        case rel => exact ⟨i + 1, by omega, rfl, hid (by have := h1i.out; omega), HT⟩
        case measure => omega
      · have hlt' : ¬ (i : Int) ≤ fewF nv := by omega
        clear hi
        have C := hid (HT.out.s1.vars)
        rw [HLn.out] at C
        go_wp2_with (first
          | (go_at_call 19; go_must (refine C.out.mono ?_); rintro e u6 ⟨rfl, rfl⟩)
          | (go_at_call 10; go_must (refine (law15_wakes _).mono ?_); rintro e w9 ⟨rfl, b9⟩))
        go_ret
        exact ⟨rfl, below_hop b9 HT.out.hb⟩
set_option maxRecDepth 100000 in
theorem answers {H : Type} (enc : TypeId × Value → H) : Answers enc Try.prog 3 Try.f3 := by
  intro W base args ds ps hA hval hlt hwt
  rw [Try.params3] at hA hval
  obtain ⟨v0, vs0, d0, ds0, p0, q0, hargs, rfl, rfl, h0, r0⟩ := trodAll_cons hA
  obtain ⟨v1, vs1, d1, ds1, p1, q1, rfl, rfl, rfl, h1, r1⟩ := trodAll_cons r0
  obtain ⟨rfl, rfl, rfl⟩ := trodAll_nil r1
  obtain rfl : args = #[v0, v1] := Array.ext' hargs
  obtain ⟨a0, rfl, rfl, rfl, w0⟩ := open_int Try.underlying5 (hval 0 5 v0 rfl rfl) h0
  obtain ⟨x1, i1⟩ := open_pairs (B := W.heap.size) (hval 1 22 v1 rfl rfl) h1 (fun p hp => hlt p (by simp [hp]))
  exact walk W a0 w0 i1
theorem hspec {H : Type} (ds : List (DataW H)) (h : ds.length = (Try.f3).params.toList.length) : Rows.typUnifiesSpec.fn H ds = { results := [.lit (.bool true)], args := ds } := by
  rw [Try.params3] at h
  match ds, h with
  | [_, _], _ => rfl
theorem lifted (os : Os) (started : os.Started) (H : Type) (enc : TypeId × Value → H) : ReturnsInHanded {} Try.checked os 3 .any (Rows.typUnifiesSpec.pre6 enc Try.prog Try.f3 Rows.typUnifiesRow.domain false) (Rows.typUnifiesSpec.post enc Try.prog Try.f3 false true false false) :=
  lifted_of_walk (tb := 4) (by kernel_rfl) started (by kernel_rfl) Try.func3 rfl hspec rfl Try.underlying4 (by kernel_rfl) (by kernel_rfl)
    (ChangeSpec.witness6 (enc := enc) (C := Try.checked) false ⟨#[], #[.int .u8 0, .slice none 0 0], []⟩ 8 (by kernel_rfl) (by kernel_rfl) (by kernel_rfl) (by kernel_rfl)) (answers enc)
theorem over : Rows.typUnifiesRow.holds Try.pinned (OpenSpec.ofChange Rows.typUnifiesSpec) :=
  OpenClaim.holds_of_wide 3 Try.f3 rfl rfl rfl rfl rfl rfl rfl ⟨rfl, rfl, rfl, rfl, rfl⟩ rfl rfl rfl rfl rfl (by kernel_rfl) Try.func3 (by kernel_rfl)
    (of_decide_eq_true (by kernel_rfl)) (by unfold Func.isWrapper; first | (rw [if_pos (by decide +kernel)]; kernel_rfl) | (rw [if_neg (by decide +kernel)]; exact ⟨rfl, rfl⟩))
    (fun os started H enc _ => lifted os started H enc)
/-- THE STATEMENT. -/
theorem proved : Rows.TypUnifiesSaid := over
#print axioms proved
end Go.Proofs.Ytnlifgcnmhakiaa.typUnifies
