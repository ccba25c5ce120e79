/-
  THE WALK OF cps.looker.good.
-/
import Derived.Test.YtdmkjndlobichaaKNexts
namespace Go.Proofs.Ytdmkjndlobichaa
set_option linter.all false
open Go.ChangeShapes Go.WideShapes Go.ChangeAt Go.RowKit Go.Maps
open Tm (Te gdT gdL gdF addV names namesL namesF formT bindT atomsB)
open Ev (updI upM)

set_option maxHeartbeats 8000000 in
set_option maxRecDepth 100000 in
theorem good1_fn (k x m : Int) (b : Bool) (T A F U : Option Addr) (tl tc al ac fl fc uc : Nat) (us : List Te) (S : Nat → Prop) (c0 c1 K M1 M2 : Nat) (f g : Int → Int) (k1 k2 B : Nat) (w : World) (hk : Blk w c0 75 #[.pointer (some ⟨K, 0, none⟩)]) (ht : Blk w c1 27 #[.int .i64 k, .int .i64 x, .int .i64 m, .bool b, .slice T tl tc, .slice A al ac, .slice F fl fc, .slice U us.length uc])
    (hul : us.length ≤ 17592186044416) (hrow : TRow w S us U 0) (hS : ∀ b, S b → b ≠ M1 ∧ b ≠ M2) (hl : LK w K M1 M2 f g k1 k2 B) (h1 : k1 + namesL us ≤ 17592186044416) (h2 : k2 + 2 * namesL us ≤ 17592186044416) (h3 : B + namesL us ≤ 17592186044416) (H : GH us K M1 M2) :
    Calls Try.prog 65 #[.pointer (some ⟨c0, 0, none⟩), .pointer (some ⟨c1, 0, none⟩)] w (GdP (gdL us f g) g (k1 + namesL us) (k2 + 2 * namesL us) M1 M2 w) := by
  have C := hid (look_nexts us U uc S K M1 M2 f g k1 k2 B w hul hrow hS hl h1 h2 h3 H)
  have x0 := hk.cell0
  have x7 : w.cell? ⟨c1, 7, none⟩ = some (.slice U us.length uc) := ht.cell 7
  clear hk ht hul hrow hS hl h1 h2 h3 H
  go_enter Try.func65, Try.ntmps65
  go_wp2_with (go_at_call 66; go_must (refine C.out.mono ?_); rintro e w1 ⟨e9, hG⟩; go_must (subst e9; have G := hid hG; clear hG))
  go_ret
  exact ⟨rfl, G.out⟩
set_option maxHeartbeats 8000000 in
set_option maxRecDepth 100000 in
theorem good21_fn (hv : Int) (P : Option Addr) (pl pc : Nat) (b : Te) (k x m : Int) (i : Bool) (T A F U : Option Addr) (tl tc al ac fl fc ul uc : Nat) (S : Nat → Prop) (c0 c1 K M1 M2 : Nat) (f g : Int → Int) (k1 k2 B : Nat) (w : World) (hk : Blk w c0 75 #[.pointer (some ⟨K, 0, none⟩)]) (ht : Blk w c1 59 #[.int .i64 hv, .slice P pl pc, .int .i64 k, .int .i64 x, .int .i64 m, .bool i, .slice T tl tc, .slice A al ac, .slice F fl fc, .slice U ul uc])
    (hb : TAt w S b (.agg #[.int .i64 k, .int .i64 x, .int .i64 m, .bool i, .slice T tl tc, .slice A al ac, .slice F fl fc, .slice U ul uc])) (hS : ∀ b, S b → b ≠ M1 ∧ b ≠ M2) (hl : LK w K M1 M2 f g k1 k2 B) (h1 : k1 + names b ≤ 17592186044416) (h2 : k2 + 2 * names b ≤ 17592186044416) (h3 : B + names b ≤ 17592186044416) (H : GH [b] K M1 M2) :
    Calls Try.prog 68 #[.pointer (some ⟨c0, 0, none⟩), .pointer (some ⟨c1, 0, none⟩)] w (GdP (gdT b f g) g (k1 + names b) (k2 + 2 * names b) M1 M2 w) := by
  have C := hid (H b (by simp) _ S w f g k1 k2 B hb hS hl h1 h2 h3)
  have x0 := hk.cell0
  have x2 : w.cell? ⟨c1, 2, none⟩ = some (.int .i64 k) := ht.cell 2
  have x3 : w.cell? ⟨c1, 3, none⟩ = some (.int .i64 x) := ht.cell 3
  have x4 : w.cell? ⟨c1, 4, none⟩ = some (.int .i64 m) := ht.cell 4
  have x5 : w.cell? ⟨c1, 5, none⟩ = some (.bool i) := ht.cell 5
  have x6 : w.cell? ⟨c1, 6, none⟩ = some (.slice T tl tc) := ht.cell 6
  have x7 : w.cell? ⟨c1, 7, none⟩ = some (.slice A al ac) := ht.cell 7
  have x8 : w.cell? ⟨c1, 8, none⟩ = some (.slice F fl fc) := ht.cell 8
  have x9 : w.cell? ⟨c1, 9, none⟩ = some (.slice U ul uc) := ht.cell 9
  clear hk ht hb hS hl h1 h2 h3 H
  go_enter Try.func68, Try.ntmps68
  go_wp2_with (go_at_call 34; go_must (refine C.out.mono ?_); rintro e w1 ⟨e9, hG⟩; go_must (subst e9; have G := hid hG; clear hG))
  go_ret
  exact ⟨rfl, G.out⟩
/-- The functions, then what comes behind. -/
def gdFL (fh : List (Int × List Int)) (fb us : List Te) (f g : Int → Int) : Option (Int → Int) := match gdF fh fb f g with
  | none => none
  | some f2 => gdL us f2 g
theorem gdFL_none {fh : List (Int × List Int)} {fb us : List Te} {f g : Int → Int} (h : gdF fh fb f g = none) : gdFL fh fb us f g = none := by unfold gdFL; rw [h]
theorem gdFL_some {fh : List (Int × List Int)} {fb us : List Te} {f g f2 : Int → Int} (h : gdF fh fb f g = some f2) : gdFL fh fb us f g = gdL us f2 g := by unfold gdFL; rw [h]
theorem gdF_at {fh : List (Int × List Int)} {fb : List Te} {i : Nat} (hi : i < fb.length) (hi2 : i < fh.length) (f g : Int → Int) :
    gdF (fh.drop i) (fb.drop i) f g = if 16 < fh[i].2.length then none else match withR fh[i].2 f (fun f1 => gdT fb[i] f1 (upM fh[i].2 g)) with
      | none => none
      | some f2 => gdF (fh.drop (i + 1)) (fb.drop (i + 1)) f2 g := by
  rw [List.drop_eq_getElem_cons hi, List.drop_eq_getElem_cons hi2, gdF]
  unfold withR
  cases addV fh[i].2 f <;> rfl
theorem namesF_at {fh : List (Int × List Int)} {fb : List Te} {i : Nat} (hi : i < fb.length) (hi2 : i < fh.length) : namesF (fh.drop i) (fb.drop i) = fh[i].2.length + names fb[i] + namesF (fh.drop (i + 1)) (fb.drop (i + 1)) := by
  rw [List.drop_eq_getElem_cons hi, List.drop_eq_getElem_cons hi2, namesF]
theorem namesF_le : ∀ {fb : List Te} {fh : List (Int × List Int)} {i : Nat} (hi : i < fb.length) (hi2 : i < fh.length), fh[i].2.length + names fb[i] ≤ namesF fh fb
  | [], _, i, hi, _ => by simp at hi
  | _ :: _, [], i, _, hi => by simp at hi
  | b :: bs, a :: hs, 0, _, _ => by rw [namesF]; simp
  | b :: bs, a :: hs, i + 1, hi, hi2 => by
    rw [namesF]
    have := namesF_le (fb := bs) (fh := hs) (i := i) (by simpa using hi) (by simpa using hi2)
    simp only [List.getElem_cons_succ]
    omega
theorem namesF_nil (fh : List (Int × List Int)) : namesF fh [] = 0 := by rw [namesF.eq_def]; cases fh <;> rfl
theorem gdF_nil (fh : List (Int × List Int)) (f g : Int → Int) : gdF fh [] f g = some f := by cases fh <;> rw [gdF.eq_def]
theorem z_with {l : List Int} {b : Te} {f g f' : Int → Int} (h : ∀ x, 0 ≤ f x ∧ f x ≤ 1) (e : withR l f (fun f1 => gdT b f1 g) = some f') : ∀ x, 0 ≤ f' x ∧ f' x ≤ 1 := by
  unfold withR at e
  cases h2 : addV l f with
  | none => rw [h2] at e; cases e
  | some f1 => rw [h2] at e; exact z_good (z_add h h2) e
set_option maxHeartbeats 16000000 in
set_option maxRecDepth 100000 in
theorem good2_fn (k x m : Int) (b : Bool) (T A F U : Option Addr) (tl tc al ac fc uc : Nat) (fh : List (Int × List Int)) (fb us : List Te) (S : Nat → Prop) (c0 c1 K M1 M2 : Nat) (f g : Int → Int) (k1 k2 B : Nat) (w : World) (hk : Blk w c0 75 #[.pointer (some ⟨K, 0, none⟩)]) (ht : Blk w c1 27 #[.int .i64 k, .int .i64 x, .int .i64 m, .bool b, .slice T tl tc, .slice A al ac, .slice F fb.length fc, .slice U us.length uc])
    (hfl : fb.length ≤ 17592186044416) (hul : us.length ≤ 17592186044416) (hfe : fh.length = fb.length) (hfr : FRow w S fh fb F 0) (hrow : TRow w S us U 0) (hS : ∀ b, S b → b ≠ M1 ∧ b ≠ M2) (hl : LK w K M1 M2 f g k1 k2 B) (h1 : k1 + namesF fh fb + namesL us ≤ 17592186044416) (h2 : k2 + 2 * namesF fh fb + 2 * namesL us ≤ 17592186044416) (h3 : B + namesF fh fb + namesL us ≤ 17592186044416) (HF : GH fb K M1 M2) (H : GH us K M1 M2) :
    Calls Try.prog 67 #[.pointer (some ⟨c1, 0, none⟩), .pointer (some ⟨c0, 0, none⟩)] w (GdP (gdFL fh fb us f g) g (k1 + namesF fh fb + namesL us) (k2 + 2 * namesF fh fb + 2 * namesL us) M1 M2 w) := by
  have hL : us.length ≤ 281474976710656 := by omega
  have hFL : fb.length ≤ 281474976710656 := by omega
  have hc0 := And.intro (map_ne hl.m1 hk) (map_ne hl.m2 hk)
  have hc1 := And.intro (map_ne hl.m1 ht) (map_ne hl.m2 ht)
  have Q := hid (And.intro hfr (And.intro hrow (And.intro hS (And.intro HF (And.intro H hfe)))))
  have HB := hid (And.intro hk (And.intro ht (And.intro hc0 hc1)))
  have HL := hid hl
  have HN := hid (And.intro h1 (And.intro h2 h3))
  have x0 := hk.cell0
  have x6 : w.cell? ⟨c1, 6, none⟩ = some (.slice F fb.length fc) := ht.cell 6
  clear hfr hrow hS HF H hfe hk ht hl h1 h2 h3 hc0 hc1
  go_enter Try.func67, Try.ntmps67
  go_wp2
  clear x0 x6
  go_loopg [8] fb.length (fun gg z wr => ∃ (i : Nat) (f1 : Int → Int) (j1 j2 : Nat), i + gg = fb.length ∧ z = .int .i64 i ∧ Hid (j1 + namesF (fh.drop i) (fb.drop i) = k1 + namesF fh fb ∧ j2 + 2 * namesF (fh.drop i) (fb.drop i) = k2 + 2 * namesF fh fb) ∧ Hid (LK wr K M1 M2 f1 g j1 j2 B) ∧ Hid (gdF fh fb f g = gdF (fh.drop i) (fb.drop i) f1 g) ∧ Hid (Gr2 M1 M2 w wr))
  case atStart => exact ⟨0, f, k1, k2, by omega, rfl, hid ⟨rfl, rfl⟩, HL, hid rfl, hid (Gr2.refl _ _ _)⟩
  case round =>
    obtain ⟨i, f1, j1, j2, hi, rfl, hJ, hLr, hE, hG⟩ := hrel
    have Hi := hid hi
    have BK := hid (hG.out.blk HB.out.1 HB.out.2.2.1.1 HB.out.2.2.1.2)
    have BT := hid (hG.out.blk HB.out.2.1 HB.out.2.2.2.1 HB.out.2.2.2.2)
    have x0 := BK.out.cell0
    have x7 : wr.cell? ⟨c1, 7, none⟩ = some (.slice U us.length uc) := BT.out.cell 7
    have x6 : wr.cell? ⟨c1, 6, none⟩ = some (.slice F fb.length fc) := BT.out.cell 6
    by_cases hlt : i < fb.length
    case neg =>
      obtain rfl : i = fb.length := by omega
      have hJ2 := hJ.out
      rw [List.drop_length, namesF_nil] at hJ2
      have hE2 := hE.out
      rw [List.drop_length, gdF_nil] at hE2
      have hN := HN.out
      have C := hid (look_nexts us U uc S K M1 M2 f1 g j1 j2 B wr (by omega) (TRow.keep (fun b hb hl => ⟨hG.out.block b hl (Q.out.2.2.1 b hb).1 (Q.out.2.2.1 b hb).2, hb⟩) _ _ _ Q.out.2.1) Q.out.2.2.1 hLr.out (by omega) (by omega) (by omega) Q.out.2.2.2.2.1)
      have HE := hid hE2
      have HJ := hid hJ2
      have hxx : ¬ ((fb.length : Int) < fb.length) := by omega
      clear hi hJ2 hE2 hN hE hJ hlt
      go_wp2_with (go_at_call 66; go_must (refine C.out.mono ?_); rintro e w1 ⟨e9, hG⟩; go_must (subst e9; have G := hid hG; clear hG))
      go_ret
      obtain ⟨⟨g', hg', hf'⟩, hgr⟩ := G.out
      refine ⟨by rw [gdFL_some HE.out]; rfl, ⟨g', hg'.mono (by have := HJ.out; omega), fun f' h9 => ?_⟩, hG.out.trans hgr⟩
      rw [gdFL_some HE.out] at h9
      obtain ⟨a1, a2⟩ := hf' f' h9
      exact ⟨a1.mono (by have := HJ.out; omega), a2⟩
    have hlt' : (i : Int) < fb.length := by omega
    have hlt2 : i < fh.length := by rw [Q.out.2.2.2.2.2]; exact hlt
    obtain ⟨ad, P, pc, k2', x2', n2, i2, T2, tl2, tc2, A4, al2, ac2, F2, fl2, fc2, U2, ul2, uc2, rfl, hSb, hab, ⟨y0, y1, y2, y3, y4, y5, y6, y7, y8, y9⟩, hIp, hwp, hel⟩ := (FRow.keep (w' := wr) (T := S) (fun b hb hl => ⟨hG.out.block b hl (Q.out.2.2.1 b hb).1 (Q.out.2.2.1 b hb).2, hb⟩) _ _ _ _ Q.out.1).elem hlt hlt2
    have hE2 := hE.out
    rw [gdF_at hlt hlt2] at hE2
    have hJ2 := hJ.out
    rw [namesF_at hlt hlt2] at hJ2
    have hmem := List.getElem_mem hlt
    have hnle := namesF_le hlt hlt2
    obtain ⟨ps, hps⟩ : ∃ ps : List Int, ps = fh[i].2 := ⟨_, rfl⟩
    obtain ⟨hv, hhv⟩ : ∃ hv : Int, hv = fh[i].1 := ⟨_, rfl⟩
    obtain ⟨t, htt⟩ : ∃ t : Te, t = fb[i] := ⟨_, rfl⟩
    rw [← hps] at y1 hIp hE2 hJ2 hnle
    rw [← hhv] at y0 hwp
    rw [← htt] at hel hmem hE2 hJ2 hnle
    have HNL := hid hnle
    have HE := hid hE2
    have HJ := hid hJ2
    have HP := hid (And.intro hIp (And.intro hel hmem))
    have hpm := hIp.1.2.2.2
    have hpm2 : ps.length ≤ 281474976710656 := by omega
    clear hi hSb hab hE2 hJ2 hmem hps hhv htt hIp hwp hel hE hJ hnle
    have x0a : ∀ o, (wr.alloc o).cell? ⟨c0, 0, none⟩ = some (.pointer (some ⟨K, 0, none⟩)) := fun o => (BK.out.alloc o).cell0
    by_cases h16 : 16 < ps.length
    · have h16' : (ps.length : Int) > 16 := by omega
      go_wp2
      go_ret
      have e5 : gdFL fh fb us f g = none := gdFL_none (by rw [HE.out, if_pos h16])
      exact ⟨by rw [e5]; rfl, ⟨g, (hLr.out.up (al1 wr _)).m2.mono (by have := HJ.out; omega), fun f' h9 => (by rw [e5] at h9; cases h9)⟩, hG.out.trans (Gr2.of_below (al1 wr _))⟩
    · have h16' : ¬ ((ps.length : Int) > 16) := by omega
      have hN := HN.out
      have hJ3 := HJ.out
      have hJ4 := HNL.out
      have BF := hid (Blk.new wr 59 #[.int .i64 hv, .slice P ps.length pc, .int .i64 k2', .int .i64 x2', .int .i64 n2, .bool i2, .slice T2 tl2 tc2, .slice A4 al2 ac2, .slice F2 fl2 fc2, .slice U2 ul2 uc2])
      have LU := hid (hLr.out.up (al1 wr (.cells #[.int .i64 hv, .slice P ps.length pc, .int .i64 k2', .int .i64 x2', .int .i64 n2, .bool i2, .slice T2 tl2 tc2, .slice A4 al2 ac2, .slice F2 fl2 fc2, .slice U2 ul2 uc2] 59)))
      have C := hid (with_3 ps P pc S K M1 M2 f1 g j1 j2 B c0 wr.heap.size (j1 + ps.length + names t) (j2 + ps.length + 2 * names t) (fun f2 => gdT t f2 (upM ps g)) (wr.alloc (.cells #[.int .i64 hv, .slice P ps.length pc, .int .i64 k2', .int .i64 x2', .int .i64 n2, .bool i2, .slice T2 tl2 tc2, .slice A4 al2 ac2, .slice F2 fl2 fc2, .slice U2 ul2 uc2] 59)) (HP.out.1.up (al1 wr _)) Q.out.2.2.1 LU.out (by omega) (by omega) (by omega) (by omega)
        (fun w3 f2 hg3 ha hl3 => good21_fn hv P ps.length pc t k2' x2' n2 i2 T2 A4 F2 U2 tl2 tc2 al2 ac2 fl2 fc2 ul2 uc2 S c0 wr.heap.size K M1 M2 f2 (upM ps g) (j1 + ps.length) (j2 + ps.length) (B + ps.length) w3 (hg3.blk (BK.out.alloc _) HB.out.2.2.1.1 HB.out.2.2.1.2) (hg3.blk BF.out (map_ne LU.out.m1 BF.out) (map_ne LU.out.m2 BF.out)) (((HP.out.2.1.up (al1 wr _))).keep (fun b hb hl => ⟨hg3.block b hl (Q.out.2.2.1 b hb).1 (Q.out.2.2.1 b hb).2, hb⟩)) Q.out.2.2.1 hl3 (by omega) (by omega) (by omega) (fun t' ht' => by simp at ht'; subst ht'; exact Q.out.2.2.2.1 _ HP.out.2.2)))
      clear hN hJ3 hJ4
      cases hq : withR ps f1 (fun f2 => gdT t f2 (upM ps g)) with
      | none =>
        have HQ := hid hq
        have HB9 := hid (show (withR ps f1 (fun f2 => gdT t f2 (upM ps g))).isSome = false by rw [hq]; rfl)
        clear hq
        go_wp2_with (go_at_call 64; go_must (refine C.out.mono ?_); rintro e w1 ⟨e9, hG9⟩; go_must (rw [HB9.out] at e9; subst e9; have G := hid hG9; clear hG9))
        go_ret
        have e5 : gdFL fh fb us f g = none := gdFL_none (by rw [HE.out, if_neg h16, HQ.out])
        obtain ⟨⟨g', hg', _⟩, hgr⟩ := G.out
        exact ⟨by rw [e5]; rfl, ⟨g', hg'.mono (by have := HJ.out; omega), fun f' h9 => (by rw [e5] at h9; cases h9)⟩, hG.out.trans ((Gr2.of_below (al1 wr _)).trans hgr)⟩
      | some f2 =>
        have HQ := hid hq
        have HB9 := hid (show (withR ps f1 (fun f2 => gdT t f2 (upM ps g))).isSome = true by rw [hq]; rfl)
        clear hq
        go_wp2_with (go_at_call 64; go_must (refine C.out.mono ?_); rintro e w1 ⟨e9, hG9⟩; go_must (rw [HB9.out] at e9; subst e9; have G := hid hG9; clear hG9))
        have hgk := Hi.out
        go_roundg (gk - 1)
        case rel =>
          obtain ⟨⟨g', hg', hf'⟩, hgr⟩ := G.out
          obtain ⟨hm1, he⟩ := hf' f2 HQ.out
          exact ⟨i + 1, f2, _, _, by omega, by go_num, hid (by have := HJ.out; omega), hid (LU.out.after hgr hm1 hg' he (z_with hLr.out.z HQ.out)), hid (by rw [HE.out, if_neg h16, HQ.out]), hid (hG.out.trans ((Gr2.of_below (al1 wr _)).trans hgr))⟩
        case measure => omega
end Go.Proofs.Ytdmkjndlobichaa
