/-
  THE WALK OF ref28.Good: which heaps are good.
-/
import Derived.Test.YtikdflppccbdaaaHStarts
namespace Go.Proofs.Ytikdflppccbdaaa
open Go.ChangeShapes Go.WideShapes Go.ChangeAt Go.RowKit

def BodyOk (n : Nat) (sts : List Nat) (f : Nat → Int) (base k : Nat) : Prop := ∀ i, base ≤ i → i < k → sts.contains i = true ∨ wordB n sts (f i) = true
def RootsOk (n : Nat) (sts : List Nat) (f : Nat → Int) (k : Nat) : Prop := ∀ i, i < k → wordB n sts (f i) = true
/-- Which heaps are good, with which roots. -/
def GoodP (h : Hp) (roots : List Int) : Prop :=
  ShapedP h.ws.length h.room h.base h.top ∧ roots.length ≤ 64 ∧ ∃ sts, stl (gw h.ws) h.top.toNat h.base.toNat = some sts ∧ BodyOk h.ws.length sts (gw h.ws) h.base.toNat h.top.toNat ∧ RootsOk h.ws.length sts (gw roots) roots.length
noncomputable instance (h : Hp) (roots : List Int) : Decidable (GoodP h roots) := Classical.propDecidable _

theorem BodyOk.succ {n : Nat} {sts : List Nat} {f : Nat → Int} {base k : Nat} (h : BodyOk n sts f base k) (hk : sts.contains k = true ∨ wordB n sts (f k) = true) : BodyOk n sts f base (k + 1) := by
  intro i h1 h2
  rcases Nat.lt_succ_iff_lt_or_eq.1 h2 with h3 | rfl
  · exact h i h1 h3
  · exact hk
theorem RootsOk.succ {n : Nat} {sts : List Nat} {f : Nat → Int} {k : Nat} (h : RootsOk n sts f k) (hk : wordB n sts (f k) = true) : RootsOk n sts f (k + 1) := by
  intro i h2
  rcases Nat.lt_succ_iff_lt_or_eq.1 h2 with h3 | rfl
  · exact h i h3
  · exact hk

/-- The answer, told false. -/
theorem ret_not {p : Prop} [Decidable p] (h : ¬ p) : Ending.returned (.bool false) = .returned (.bool (decide p)) := by rw [decide_eq_false h]
theorem ret_yes {p : Prop} [Decidable p] (h : p) : Ending.returned (.bool true) = .returned (.bool (decide p)) := by rw [decide_eq_true h]

set_option maxRecDepth 100000 in
theorem ref28_Good (B : Nat) (v rv : Value) (h : Hp) (roots : List Int) (w : World) (hBw : B ≤ w.heap.size) (i1 : IsHp w B v h) (i2 : IsInts w B rv roots) (hn6 : h.ws.length ≤ 6000) :
    Calls Try.prog 17 #[v, rv] w fun e w' => e = .returned (.bool (decide (GoodP h roots))) ∧ Below w.heap.size w w' := by
  obtain ⟨A, n, c, rfl, g1⟩ := i1
  obtain ⟨A2, m, d, rfl, g2⟩ := i2
  obtain ⟨ws, room, base, top⟩ := h
  dsimp only at g1 hn6 ⊢
  have en := g1.len
  have em := g2.len
  have hg : GoodP ⟨ws, room, base, top⟩ roots = (ShapedP n room base top ∧ m ≤ 64 ∧ ∃ sts, stl (gw ws) top.toNat base.toNat = some sts ∧ BodyOk n sts (gw ws) base.toNat top.toNat ∧ RootsOk n sts (gw roots) m) := by
    rw [en, em]; rfl
  have hG := hid hg
  have G1 := hid g1
  have G2 := hid g2
  clear g1 g2 hg
  by_cases hs : ShapedP n room base top
  · by_cases hm : m ≤ 64
    · obtain ⟨bn, rfl⟩ : ∃ b : Nat, base = b := ⟨base.toNat, by unfold ShapedP at hs; omega⟩
      obtain ⟨tn, rfl⟩ : ∃ b : Nat, top = b := ⟨top.toNat, by unfold ShapedP at hs; omega⟩
      have htn : bn ≤ tn ∧ tn ≤ n ∧ n ≤ 6000 := by unfold ShapedP at hs; omega
      have HT := hid htn
      have HS := hid hs
      have HSd := hid (decide_eq_true hs)
      clear htn en em hn6
      simp only [Int.toNat_natCast] at hG
      cases hst : stl (gw ws) tn bn with
      | none =>
        have HST := hid hst
        clear hst
        go_enter Try.func17, Try.ntmps17
        go_wp2_with (first | (go_at_call 34; go_must (refine (ref28_shaped _ _ _ _ _ _ _).mono ?_); rw [HSd.out]; rintro e w1 ⟨rfl, hb⟩; go_must (have hX := hid (Blk.below (Blk.new w 24 _) hb (by simp))); obtain ⟨x0, x1, x2, x3, f0, f1, f2, f3⟩ := hX.out.four; have hB := hid (below_then (B := w.heap.size) (w := w) hb (by go_grown) (by first | (simp; done) | (simp; omega) | omega)); clear hb) | (go_at_call 35; go_must (refine (ref28_starts B _ _ _ ws _ bn tn _ (Nat.le_trans hBw hB.out.size) (G1.out.below (hB.out.mono hBw) (Nat.le_refl _)) HT.out.2.2 HT.out.2.1).mono ?_); rw [HST.out]; rintro e w2 ⟨he, hb⟩; go_must (have hX2 := hid (hX.out.below hb hX.out.lt)); clear hX x0 x1 x2 x3 f0 f1 f2 f3; obtain ⟨x0, x1, x2, x3, f0, f1, f2, f3⟩ := hX2.out.four; have hB1 := hid (hB.out.trans (hb.mono hB.out.size)); clear hb hB; have hB := hB1; clear hB1; first | subst he | (obtain ⟨v2, rfl, A3, n3, c3, rfl, hv⟩ := he; have e3 := hv.len.symm; rw [marks_length] at e3; subst e3; have hV := hid hv; clear hv)))
        go_ret
        exact ⟨ret_not (by rw [hG.out]; rintro ⟨_, _, sts, h, _⟩; rw [HST.out] at h; cases h), hB.out⟩
      | some sts =>
        have HST := hid hst
        clear hst
        go_enter Try.func17, Try.ntmps17
        go_wp2_with (first | (go_at_call 34; go_must (refine (ref28_shaped _ _ _ _ _ _ _).mono ?_); rw [HSd.out]; rintro e w1 ⟨rfl, hb⟩; go_must (have hX := hid (Blk.below (Blk.new w 24 _) hb (by simp))); obtain ⟨x0, x1, x2, x3, f0, f1, f2, f3⟩ := hX.out.four; have hB := hid (below_then (B := w.heap.size) (w := w) hb (by go_grown) (by first | (simp; done) | (simp; omega) | omega)); clear hb) | (go_at_call 35; go_must (refine (ref28_starts B _ _ _ ws _ bn tn _ (Nat.le_trans hBw hB.out.size) (G1.out.below (hB.out.mono hBw) (Nat.le_refl _)) HT.out.2.2 HT.out.2.1).mono ?_); rw [HST.out]; rintro e w2 ⟨he, hb⟩; go_must (have hX2 := hid (hX.out.below hb hX.out.lt)); clear hX x0 x1 x2 x3 f0 f1 f2 f3; obtain ⟨x0, x1, x2, x3, f0, f1, f2, f3⟩ := hX2.out.four; have hB1 := hid (hB.out.trans (hb.mono hB.out.size)); clear hb hB; have hB := hB1; clear hB1; first | subst he | (obtain ⟨v2, rfl, A3, n3, c3, rfl, hv⟩ := he; have e3 := hv.len.symm; rw [marks_length] at e3; subst e3; have hV := hid hv; clear hv)))
        go_loopg [7] (tn - bn) (fun g x wr => ∃ k : Nat, k + g = tn ∧ x = .int .i64 k ∧ w2 = wr ∧ Hid (bn ≤ k ∧ BodyOk n sts (gw ws) bn k))
        case atStart => exact ⟨bn, by have := HT.out; omega, rfl, rfl, hid ⟨Nat.le_refl _, fun i h1 h2 => by omega⟩⟩
        case round =>
          obtain ⟨k, hk, rfl, rfl, hbo⟩ := hrel
          have Hk := hid hk
          by_cases hlt : k < tn
          · have hkn : k < n := by have := HT.out; omega
            have hk6 : k < 6000 := by have := HT.out; omega
            obtain ⟨ad, rfl⟩ := G1.out.some_ hkn
            have q1 := (G1.out.below (hB.out.mono hBw) (Nat.le_refl _)).cell hkn
            have hw := hid (G1.out.wf_at hkn)
            obtain ⟨a9, rfl⟩ := hV.out.some_ hkn
            have q2 := hV.out.cell hkn
            have hmk := marks_get hkn (sts := sts)
            clear hk
            by_cases h1 : sts.contains k = true
            · rw [show gw (marks n sts) k = 1 from by rw [if_pos h1] at hmk; exact hmk] at q2
              have H1 := hid h1
              clear hmk h1
              go_wp2
              have hgk := Hk.out
              go_roundg (gk - 1)
              case rel => exact ⟨k + 1, by omega, by go_num, rfl, hid ⟨by have := hbo.out.1; omega, hbo.out.2.succ (.inl H1.out)⟩⟩
              case measure => omega
            · rw [show gw (marks n sts) k = 0 from by rw [if_neg h1] at hmk; exact hmk] at q2
              have H1 := hid h1
              clear hmk h1
              cases hwb : wordB n sts (gw ws k) with
              | true =>
                have HW := hid hwb
                clear hwb
                go_wp2_with (go_at_call 36; go_must (refine (ref28_word _ _ _ _ sts _ hw.out _ hV.out).mono ?_); rw [HW.out]; rintro e w3 ⟨rfl, rfl⟩)
                have hgk := Hk.out
                go_roundg (gk - 1)
                case rel => exact ⟨k + 1, by omega, by go_num, rfl, hid ⟨by have := hbo.out.1; omega, hbo.out.2.succ (.inr HW.out)⟩⟩
                case measure => omega
              | false =>
                have HW := hid hwb
                clear hwb
                go_wp2_with (go_at_call 36; go_must (refine (ref28_word _ _ _ _ sts _ hw.out _ hV.out).mono ?_); rw [HW.out]; rintro e w3 ⟨rfl, rfl⟩)
                go_ret
                refine ⟨ret_not ?_, hB.out⟩
                rw [hG.out]
                rintro ⟨_, _, sts', hh, hb, _⟩
                rw [HST.out] at hh
                injection hh with hh
                subst hh
                rcases hb k hbo.out.1 hlt with h | h
                · exact H1.out h
                · rw [HW.out] at h; cases h
          · clear hk
            have HB := hid (show BodyOk n sts (gw ws) bn tn by have h := hbo.out.2; have := Hk.out; rwa [show k = tn from by omega] at h)
            clear hbo Hk
            go_wp2
            go_loopg [8] m (fun g x wr => ∃ k : Nat, k + g = m ∧ x = .int .i64 k ∧ w2 = wr ∧ Hid (RootsOk n sts (gw roots) k))
            case atStart => exact ⟨0, by omega, rfl, rfl, hid (fun i h2 => by omega)⟩
            case round =>
              obtain ⟨k, hk, rfl, rfl, hro⟩ := hrel
              have Hk := hid hk
              by_cases hlt : k < m
              · obtain ⟨ad, rfl⟩ := G2.out.some_ hlt
                have q1 := (G2.out.below (hB.out.mono hBw) (Nat.le_refl _)).cell hlt
                have hw := hid (G2.out.wf_at hlt)
                clear hk
                cases hwb : wordB n sts (gw roots k) with
                | true =>
                  have HW := hid hwb
                  clear hwb
                  go_wp2_with (go_at_call 36; go_must (refine (ref28_word _ _ _ _ sts _ hw.out _ hV.out).mono ?_); rw [HW.out]; rintro e w3 ⟨rfl, rfl⟩)
                  have hgk := Hk.out
                  go_roundg (gk - 1)
                  case rel => exact ⟨k + 1, by omega, by go_num, rfl, hid (hro.out.succ HW.out)⟩
                  case measure => omega
                | false =>
                  have HW := hid hwb
                  clear hwb
                  go_wp2_with (go_at_call 36; go_must (refine (ref28_word _ _ _ _ sts _ hw.out _ hV.out).mono ?_); rw [HW.out]; rintro e w3 ⟨rfl, rfl⟩)
                  go_ret
                  refine ⟨ret_not ?_, hB.out⟩
                  rw [hG.out]
                  rintro ⟨_, _, sts', hh, _, hb⟩
                  rw [HST.out] at hh
                  injection hh with hh
                  subst hh
                  have h := hb k hlt
                  rw [HW.out] at h; cases h
              · clear hk
                go_wp2
                go_ret
                refine ⟨ret_yes ?_, hB.out⟩
                rw [hG.out]
                exact ⟨HS.out, hm, sts, HST.out, HB.out, by have := Hk.out; rw [show m = k from by omega]; exact hro.out⟩
    · have hc : ¬ GoodP ⟨ws, room, base, top⟩ roots := by rw [hG.out]; exact fun h => hm h.2.1
      have HC := hid hc
      have HSd := hid (decide_eq_true hs)
      have hm2 : 64 < m := by omega
      clear hc hs hm en em hn6
      go_enter Try.func17, Try.ntmps17
      go_wp2_with (go_at_call 34; go_must (refine (ref28_shaped _ _ _ _ _ _ _).mono ?_); rw [HSd.out]; rintro e w1 ⟨rfl, hb⟩; go_must (have hX := hid (Blk.below (Blk.new w 24 _) hb (by simp))); obtain ⟨x0, x1, x2, x3, f0, f1, f2, f3⟩ := hX.out.four; have hB := hid (below_then (B := w.heap.size) (w := w) hb (by go_grown) (by first | (simp; done) | (simp; omega) | omega)); clear hb)
      go_ret
      exact ⟨ret_not HC.out, hB.out⟩
  · have hc : ¬ GoodP ⟨ws, room, base, top⟩ roots := by rw [hG.out]; exact fun h => hs h.1
    have HC := hid hc
    have HSd := hid (decide_eq_false hs)
    clear hc hs en em hn6
    go_enter Try.func17, Try.ntmps17
    go_wp2_with (go_at_call 34; go_must (refine (ref28_shaped _ _ _ _ _ _ _).mono ?_); rw [HSd.out]; rintro e w1 ⟨rfl, hb⟩; go_must (have hX := hid (Blk.below (Blk.new w 24 _) hb (by simp))); obtain ⟨x0, x1, x2, x3, f0, f1, f2, f3⟩ := hX.out.four; have hB := hid (below_then (B := w.heap.size) (w := w) hb (by go_grown) (by first | (simp; done) | (simp; omega) | omega)); clear hb)
    go_ret
    exact ⟨ret_not HC.out, hB.out⟩
end Go.Proofs.Ytikdflppccbdaaa
