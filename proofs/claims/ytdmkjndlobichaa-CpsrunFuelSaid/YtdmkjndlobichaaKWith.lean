/-
  THE WALK OF cps.looker.with, FOR EACH OF THE THREE FUNCTIONS THAT IT IS HANDED.
-/
import Derived.Test.YtdmkjndlobichaaKLook
namespace Go.Proofs.Ytdmkjndlobichaa
set_option linter.all false
open Go.ChangeShapes Go.WideShapes Go.ChangeAt Go.RowKit Go.Maps
open Tm (Te atomB atomsB addV)
open Ev (updI upM)

/-- Variables are bound around something. -/
def withR (l : List Int) (f : Int → Int) (r : (Int → Int) → Option (Int → Int)) : Option (Int → Int) := match addV l f with
  | none => none
  | some f1 => r f1
/-- What a look tells: which variables were met behind it, or that a term may not be. -/
def GdP (r : Option (Int → Int)) (g : Int → Int) (k1 k2 M1 M2 : Nat) (w : World) (e : Ending) (w' : World) : Prop :=
  e = .returned (.bool r.isSome) ∧ (∃ g', MapI w' M2 g' k2 ∧ ∀ f', r = some f' → MapI w' M1 f' k1 ∧ g' = g) ∧ Gr2 M1 M2 w w'
def dnW (l : List Int) (f : Int → Int) : Int → Int := l.foldl (fun g x => updI g x (IntKind.i64.wrap (g x - 1))) f
theorem dnW_snoc (l : List Int) (a : Int) (f : Int → Int) : dnW (l ++ [a]) f = updI (dnW l f) a (IntKind.i64.wrap (dnW l f a - 1)) := by unfold dnW; rw [List.foldl_append]; rfl
theorem upM_snoc (l : List Int) (a : Int) (f : Int → Int) : upM (l ++ [a]) f = updI (upM l f) a (upM l f a + 1) := by unfold upM; rw [List.foldl_append]; rfl
theorem upM_cnt : ∀ (l : List Int) (f : Int → Int) (y : Int), upM l f y = f y + l.count y
  | [], f, y => by simp [upM]
  | a :: l, f, y => by
    have h := upM_cnt l (updI f a (f a + 1)) y
    have e : upM (a :: l) f = upM l (updI f a (f a + 1)) := rfl
    rw [e, h, List.count_cons]
    unfold updI
    by_cases hy : y = a
    · subst hy; simp; omega
    · have : ¬ a = y := fun h => hy h.symm
      simp [hy, this]
theorem dnW_cnt : ∀ (l : List Int) (f : Int → Int) (y : Int), (∀ x, 0 ≤ f x ∧ f x ≤ 4000000000000000000) → (∀ x, (l.count x : Int) ≤ f x) → dnW l f y = f y - l.count y
  | [], f, y, _, _ => by simp [dnW]
  | a :: l, f, y, hb, hc => by
    have ha := hc a
    have hba := hb a
    rw [List.count_cons] at ha
    simp at ha
    have hw : IntKind.i64.wrap (f a - 1) = f a - 1 := IntWalk.i64_in _ (by omega)
    have e : dnW (a :: l) f = dnW l (updI f a (IntKind.i64.wrap (f a - 1))) := rfl
    rw [hw] at e
    have h := dnW_cnt l (updI f a (f a - 1)) y (fun x => by unfold updI; have := hb x; split <;> omega) (fun x => by
      have hx := hc x
      rw [List.count_cons] at hx
      unfold updI
      by_cases hxa : x = a
      · subst hxa; simp at hx; simp; omega
      · have : ¬ a = x := fun h => hxa h.symm
        simp [hxa, this] at hx ⊢; exact hx)
    rw [e, h, List.count_cons]
    unfold updI
    by_cases hy : y = a
    · subst hy; simp; omega
    · have : ¬ a = y := fun h => hy h.symm
      simp [hy, this]
theorem dnW_up (l : List Int) (g : Int → Int) (B : Nat) (hg : ∀ x, 0 ≤ g x ∧ g x ≤ B) (hB : B + l.length ≤ 17592186044416) : dnW l (upM l g) = g := by
  funext y
  rw [dnW_cnt l _ y (fun x => ?_) (fun x => ?_), upM_cnt]
  · omega
  · have := hg x; have h2 := List.count_le_length (a := x) (l := l); rw [upM_cnt]; omega
  · have := hg x; rw [upM_cnt]; omega
theorem wf_wrapI (n : Int) : (Lit.int .i64 (IntKind.i64.wrap n)).wf = true := by
  simp [Lit.wf, IntKind.min, IntKind.max, IntKind.signed, IntKind.bits, IntKind.wrap]
  omega
theorem addV_at {l : List Int} {j : Nat} (hj : j < l.length) {f1 : Int → Int} : addV (l.drop j) f1 = if 1 < f1 l[j] + 1 ∨ l[j] < 1 ∨ 262144 < l[j] then none else addV (l.drop (j + 1)) (updI f1 l[j] (f1 l[j] + 1)) := by
  rw [List.drop_eq_getElem_cons hj, addV]
theorem updM_I (f : Int → Int) (s v : Int) : updM f s v = updI f s v := rfl
theorem lt_of_get {w w' : World} {M : Nat} (h : w'.heap[M]? = w.heap[M]?) (hl : M < w.heap.size) : M < w'.heap.size := by
  rw [Array.getElem?_eq_getElem hl] at h
  exact (Array.getElem?_eq_some_iff.1 h).1
/-- A variable more is met and bound. -/
theorem LK.next {w w1 w2 : World} {K M1 M2 : Nat} {f g : Int → Int} {k1 k2 B : Nat} {x c d : Int} (h : LK w K M1 M2 f g k1 k2 B) (hc : c = f x) (hd : d = g x) (h1 : ¬ 1 < c + 1) (m1 : MapI w1 M1 (updM f x (c + 1)) (k1 + 1)) (g1 : w.grownBy w1 (some M1)) (m2 : MapI w2 M2 (updM g x (d + 1)) (k2 + 1)) (g2 : w1.grownBy w2 (some M2)) :
    LK w2 K M1 M2 (updI f x (f x + 1)) (updI g x (g x + 1)) (k1 + 1) (k2 + 1) (B + 1) ∧ Gr2 M1 M2 w w2 := by
  subst hc hd
  have hK1 := map_ne h.m1 h.blk
  have hK2 := map_ne h.m2 h.blk
  have hm1l := m1.lt
  have hl1 := h.blk.lt
  have hs := g1.size
  refine ⟨⟨?_, ?_, m2, h.ne, fun y => ?_, fun y => ?_⟩, (Gr2.of1 g1).trans (Gr2.of2 g2)⟩
  · exact (g2.block K (by omega) (fun e => hK2 (by injection e))).trans ((g1.block K hl1 (fun e => hK1 (by injection e))).trans h.blk)
  · exact m1.of (g2.block M1 hm1l (fun e => h.ne (by injection e)))
  · have h2 := h.z y
    have h3 := h.z x
    unfold updI
    split <;> omega
  · have h2 := h.b y
    have h3 := h.b x
    unfold updI
    split <;> omega
set_option maxHeartbeats 8000000 in
set_option maxRecDepth 100000 in
theorem with_1 (l : List Int) (T : Option Addr) (tc : Nat) (S : Nat → Prop) (K M1 M2 : Nat) (f g : Int → Int) (k1 k2 B c0 c1 e1 e2 : Nat) (r : (Int → Int) → Option (Int → Int)) (w : World) (hI : IAt w S l T tc) (hS : ∀ b, S b → b ≠ M1 ∧ b ≠ M2) (hl : LK w K M1 M2 f g k1 k2 B) (hb1 : k1 + l.length ≤ 17592186044416) (hb2 : k2 + l.length ≤ e2) (hb3 : e2 + l.length ≤ 17592186044416) (hb4 : B + l.length ≤ 17592186044416)
    (HW : ∀ (w1 : World) (f1 : Int → Int), Gr2 M1 M2 w w1 → addV l f = some f1 → LK w1 K M1 M2 f1 (upM l g) (k1 + l.length) (k2 + l.length) (B + l.length) → Calls Try.prog 65 #[.pointer (some ⟨c0, 0, none⟩), .pointer (some ⟨c1, 0, none⟩)] w1 (GdP (r f1) (upM l g) e1 e2 M1 M2 w1)) :
    Calls Try.prog 64 #[.pointer (some ⟨K, 0, none⟩), .slice T l.length tc, .func (.func 65) #[] #[.pointer (some ⟨c0, 0, none⟩), .pointer (some ⟨c1, 0, none⟩)]] w (GdP (withR l f r) g e1 (e2 + l.length) M1 M2 w) := by
  have hul := hI.1.2.2.2
  have hL9 : l.length ≤ 281474976710656 := by omega
  have Q := hid (And.intro hI (And.intro hS HW))
  have HL := hid hl
  clear hI hS HW hl
  go_enter Try.func64, Try.ntmps64
  go_wp2
  go_loopg [14] l.length (fun gg x wr => ∃ (j : Nat) (f1 : Int → Int), j + gg = l.length ∧ x = .int .i64 j ∧ Hid (addV l f = addV (l.drop j) f1) ∧ Hid (LK wr K M1 M2 f1 (upM (l.take j) g) (k1 + j) (k2 + j) (B + j)) ∧ Hid (Gr2 M1 M2 w wr))
  case atStart => exact ⟨0, f, by omega, rfl, hid rfl, HL, hid (Gr2.refl _ _ _)⟩
  case round =>
    obtain ⟨j, f1, hj, rfl, hE, hL, hG⟩ := hrel
    have Hj := hid hj
    have x0 : wr.cell? ⟨K, 0, none⟩ = some (.map (some M1)) := hL.out.blk.cell 0
    have x1 : wr.cell? ⟨K, 1, none⟩ = some (.map (some M2)) := hL.out.blk.cell 1
    by_cases hlt : j < l.length
    · have hlt' : (j : Int) < l.length := by omega
      obtain ⟨ad, rfl, hSb, y0, hwf⟩ := (Q.out.1.keep (w' := wr) (T := S) (fun b hb hl => ⟨hG.out.block b hl (Q.out.2.1 b hb).1 (Q.out.2.1 b hb).2, hb⟩)).2 j hlt
      obtain ⟨x, hx⟩ : ∃ x, x = l[j] := ⟨_, rfl⟩
      have hE2 := hE.out
      rw [addV_at hlt, ← hx] at hE2
      rw [← hx] at y0 hwf
      obtain ⟨c, hc⟩ : ∃ c, c = f1 x := ⟨_, rfl⟩
      obtain ⟨d, hd⟩ : ∃ d, d = upM (l.take j) g x := ⟨_, rfl⟩
      have hc01 : 0 ≤ c ∧ c ≤ 1 := by rw [hc]; exact hL.out.z x
      have hd01 : 0 ≤ d ∧ d ≤ B + j := by rw [hd]; have := hL.out.b x; omega
      have q1 : IntKind.i64.wrap (c + 1) = c + 1 := IntWalk.i64_in _ (by omega)
      have q2 : IntKind.i64.wrap (d + 1) = d + 1 := IntWalk.i64_in _ (by omega)
      have HWC := hid (show (Lit.int .i64 (c + 1)).wf = true by rw [← q1]; exact wf_wrapI _)
      have HWD := hid (show (Lit.int .i64 (d + 1)).wf = true by rw [← q2]; exact wf_wrapI _)
      rw [← hc] at hE2
      have HC := hid hc
      have HD := hid hd
      have HE := hid hE2
      have HX := hid hx
      have HWF := hid hwf
      have HLT := hid hlt
      have Q0 := hid trivial
      clear hj hSb hx hc hd hwf hE2 hE
      by_cases h1 : 1 < c + 1
      · skip
        go_wp2_with (first | (have _ := Q0; at_lookup; go_must (refine wpList_lookM (by rfl) _ _ (by rfl) hL.out.m1 HWF.out (by rfl) (by rfl) ?_); rw [← HC.out]; clear Q0; have Q1 := hid trivial) | (have _ := Q1; at_mapUpdate; go_must (refine wpList_putM (by rfl) _ _ _ (by rfl) hL.out.m1 (by unfold maxLen; omega) HWF.out HWC.out (by rfl) (by rfl) (by rfl) ?_); intro w1 hm1 hg1; go_must (have PM := hid (And.intro hm1 hg1); clear x0 x1; have x0 : w1.cell? ⟨K, 0, none⟩ = some (.map (some M1)) := (hL.out.blk.grown hg1 (fun e => map_ne hL.out.m1 hL.out.blk (by injection e))).cell 0; have x1 : w1.cell? ⟨K, 1, none⟩ = some (.map (some M2)) := (hL.out.blk.grown hg1 (fun e => map_ne hL.out.m1 hL.out.blk (by injection e))).cell 1; clear Q1 hm1 hg1; have Q2 := hid trivial)) | (have _ := Q2; at_lookup; go_must (refine wpList_lookM (by rfl) _ _ (by rfl) PM.out.1 HWF.out (by rfl) (by rfl) ?_); rw [updM_same]; clear Q2; have Q3 := hid trivial))
        go_ret
        have e0 : withR l f r = none := by unfold withR; rw [HE.out, if_pos (by omega)]
        have hn := hL.out.m2.of (PM.out.2.block M2 hL.out.m2.lt (fun e => hL.out.ne (by injection e with e; exact e.symm)))
        exact ⟨by rw [e0]; rfl, ⟨_, hn.mono (by omega), fun f' h => by rw [e0] at h; cases h⟩, hG.out.trans (Gr2.of1 PM.out.2)⟩
      · by_cases h2 : x < 1
        · skip
          go_wp2_with (first | (have _ := Q0; at_lookup; go_must (refine wpList_lookM (by rfl) _ _ (by rfl) hL.out.m1 HWF.out (by rfl) (by rfl) ?_); rw [← HC.out]; clear Q0; have Q1 := hid trivial) | (have _ := Q1; at_mapUpdate; go_must (refine wpList_putM (by rfl) _ _ _ (by rfl) hL.out.m1 (by unfold maxLen; omega) HWF.out HWC.out (by rfl) (by rfl) (by rfl) ?_); intro w1 hm1 hg1; go_must (have PM := hid (And.intro hm1 hg1); clear x0 x1; have x0 : w1.cell? ⟨K, 0, none⟩ = some (.map (some M1)) := (hL.out.blk.grown hg1 (fun e => map_ne hL.out.m1 hL.out.blk (by injection e))).cell 0; have x1 : w1.cell? ⟨K, 1, none⟩ = some (.map (some M2)) := (hL.out.blk.grown hg1 (fun e => map_ne hL.out.m1 hL.out.blk (by injection e))).cell 1; clear Q1 hm1 hg1; have Q2 := hid trivial)) | (have _ := Q2; at_lookup; go_must (refine wpList_lookM (by rfl) _ _ (by rfl) PM.out.1 HWF.out (by rfl) (by rfl) ?_); rw [updM_same]; clear Q2; have Q3 := hid trivial))
          go_ret
          have e0 : withR l f r = none := by unfold withR; rw [HE.out, if_pos (by omega)]
          have hn := hL.out.m2.of (PM.out.2.block M2 hL.out.m2.lt (fun e => hL.out.ne (by injection e with e; exact e.symm)))
          exact ⟨by rw [e0]; rfl, ⟨_, hn.mono (by omega), fun f' h => by rw [e0] at h; cases h⟩, hG.out.trans (Gr2.of1 PM.out.2)⟩
        · by_cases h3 : 262144 < x
          · skip
            go_wp2_with (first | (have _ := Q0; at_lookup; go_must (refine wpList_lookM (by rfl) _ _ (by rfl) hL.out.m1 HWF.out (by rfl) (by rfl) ?_); rw [← HC.out]; clear Q0; have Q1 := hid trivial) | (have _ := Q1; at_mapUpdate; go_must (refine wpList_putM (by rfl) _ _ _ (by rfl) hL.out.m1 (by unfold maxLen; omega) HWF.out HWC.out (by rfl) (by rfl) (by rfl) ?_); intro w1 hm1 hg1; go_must (have PM := hid (And.intro hm1 hg1); clear x0 x1; have x0 : w1.cell? ⟨K, 0, none⟩ = some (.map (some M1)) := (hL.out.blk.grown hg1 (fun e => map_ne hL.out.m1 hL.out.blk (by injection e))).cell 0; have x1 : w1.cell? ⟨K, 1, none⟩ = some (.map (some M2)) := (hL.out.blk.grown hg1 (fun e => map_ne hL.out.m1 hL.out.blk (by injection e))).cell 1; clear Q1 hm1 hg1; have Q2 := hid trivial)) | (have _ := Q2; at_lookup; go_must (refine wpList_lookM (by rfl) _ _ (by rfl) PM.out.1 HWF.out (by rfl) (by rfl) ?_); rw [updM_same]; clear Q2; have Q3 := hid trivial))
            go_ret
            have e0 : withR l f r = none := by unfold withR; rw [HE.out, if_pos (by omega)]
            have hn := hL.out.m2.of (PM.out.2.block M2 hL.out.m2.lt (fun e => hL.out.ne (by injection e with e; exact e.symm)))
            exact ⟨by rw [e0]; rfl, ⟨_, hn.mono (by omega), fun f' h => by rw [e0] at h; cases h⟩, hG.out.trans (Gr2.of1 PM.out.2)⟩
          · go_wp2_with (first | (have _ := Q0; at_lookup; go_must (refine wpList_lookM (by rfl) _ _ (by rfl) hL.out.m1 HWF.out (by rfl) (by rfl) ?_); rw [← HC.out]; clear Q0; have Q1 := hid trivial) | (have _ := Q1; at_mapUpdate; go_must (refine wpList_putM (by rfl) _ _ _ (by rfl) hL.out.m1 (by unfold maxLen; omega) HWF.out HWC.out (by rfl) (by rfl) (by rfl) ?_); intro w1 hm1 hg1; go_must (have PM := hid (And.intro hm1 hg1); clear x0 x1; have x0 : w1.cell? ⟨K, 0, none⟩ = some (.map (some M1)) := (hL.out.blk.grown hg1 (fun e => map_ne hL.out.m1 hL.out.blk (by injection e))).cell 0; have x1 : w1.cell? ⟨K, 1, none⟩ = some (.map (some M2)) := (hL.out.blk.grown hg1 (fun e => map_ne hL.out.m1 hL.out.blk (by injection e))).cell 1; clear Q1 hm1 hg1; have Q2 := hid trivial)) | (have _ := Q2; at_lookup; go_must (refine wpList_lookM (by rfl) _ _ (by rfl) PM.out.1 HWF.out (by rfl) (by rfl) ?_); rw [updM_same]; clear Q2; have Q3 := hid trivial) | (have _ := Q3; at_lookup; go_must (refine wpList_lookM (by rfl) _ _ (by rfl) (hL.out.m2.of (PM.out.2.block M2 hL.out.m2.lt (fun e => hL.out.ne (by injection e with e; exact e.symm)))) HWF.out (by rfl) (by rfl) ?_); rw [← HD.out]; clear Q3; have Q4 := hid trivial) | (have _ := Q4; at_mapUpdate; go_must (refine wpList_putM (by rfl) _ _ _ (by rfl) (hL.out.m2.of (PM.out.2.block M2 hL.out.m2.lt (fun e => hL.out.ne (by injection e with e; exact e.symm)))) (by unfold maxLen; omega) HWF.out HWD.out (by rfl) (by rfl) (by rfl) ?_); intro w2 hm2 hg2; go_must (have PN := hid (And.intro hm2 hg2); clear Q4 hm2 hg2; have Q5 := hid trivial)))
            have hgk := Hj.out
            go_roundg (gk - 1)
            case rel =>
              have N := hL.out.next HC.out HD.out (by omega) PM.out.1 PM.out.2 PN.out.1 PN.out.2
              refine ⟨j + 1, _, by omega, by go_num, hid (by rw [HE.out, if_neg (by omega), HC.out]), hid ?_, hid (hG.out.trans N.2)⟩
              rw [List.take_succ_eq_append_getElem HLT.out, upM_snoc, ← HX.out]
              exact N.1
            case measure => omega
    · obtain rfl : j = l.length := by omega
      have hE2 := hE.out
      rw [List.drop_length, addV] at hE2
      have hL2 := hL.out
      rw [List.take_length] at hL2
      have C := hid (Q.out.2.2 wr f1 hG.out hE2 hL2)
      have HE := hid hE2
      have HL2 := hid hL2
      obtain ⟨q, hq⟩ : ∃ q, (r f1).isSome = q := ⟨_, rfl⟩
      have HQ := hid hq
      clear hj hE hE2 hL hL2 hq hlt
      cases q
      all_goals
        go_wp2_with (go_at_call 65; go_must (refine C.out.mono ?_); rintro e w3 ⟨e9, ⟨g', hg', hq'⟩, hg3⟩; go_must (rw [HQ.out] at e9; subst e9; have R3 := hid (And.intro hg' (And.intro hq' hg3)); clear hg' hq' hg3))
        go_loopg [52] l.length (fun gg x wq => ∃ (j : Nat), j + gg = l.length ∧ x = .int .i64 j ∧ Hid (MapI wq M2 (dnW (l.take j) g') (e2 + j)) ∧ Hid (Gr2 M1 M2 w wq) ∧ Hid (wq.heap[M1]? = w3.heap[M1]?) ∧ Hid (Blk wq K 78 #[.map (some M1), .map (some M2)]))
        case atStart => exact ⟨0, by omega, rfl, hid R3.out.1, hid (hG.out.trans R3.out.2.2), hid rfl, hid (R3.out.2.2.blk HL2.out.blk (map_ne HL2.out.m1 HL2.out.blk) (map_ne HL2.out.m2 HL2.out.blk))⟩
        case round =>
          clear x0 x1
          obtain ⟨j, hj, rfl, hM, hG2, hM1, hK⟩ := hrel
          have Hj := hid hj
          have x1 : wr.cell? ⟨K, 1, none⟩ = some (.map (some M2)) := hK.out.cell 1
          by_cases hlt : j < l.length
          · have hlt' : (j : Int) < l.length := by omega
            obtain ⟨ad, rfl, hSb, y0, hwf⟩ := (Q.out.1.keep (w' := wr) (T := S) (fun b hb hl => ⟨hG2.out.block b hl (Q.out.2.1 b hb).1 (Q.out.2.1 b hb).2, hb⟩)).2 j hlt
            obtain ⟨x, hx⟩ : ∃ x, x = l[j] := ⟨_, rfl⟩
            rw [← hx] at y0 hwf
            obtain ⟨d, hd⟩ : ∃ d, d = dnW (l.take j) g' x := ⟨_, rfl⟩
            have HD := hid hd
            have HX := hid hx
            have HWF := hid hwf
            have HLT := hid hlt
            obtain ⟨d9, hd9⟩ : ∃ d9, d9 = IntKind.i64.wrap (d - 1) := ⟨_, rfl⟩
            have q5 : IntKind.i64.wrap (d - 1) = d9 := hd9.symm
            have HWD := hid (show (Lit.int .i64 d9).wf = true by rw [hd9]; exact wf_wrapI _)
            have HD9 := hid hd9
            clear hd9
            clear hj hSb hx hd hwf
            go_wp2_with (first
              | (have _ := HD; at_lookup; go_must (refine wpList_lookM (by rfl) _ _ (by rfl) hM.out HWF.out (by rfl) (by rfl) ?_); rw [← HD.out]; have HD2 := HD; clear HD)
              | (at_mapUpdate; go_must (refine wpList_putM (by rfl) _ _ _ (by rfl) hM.out (by unfold maxLen; omega) HWF.out HWD.out (by rfl) (by rfl) (by rfl) ?_); intro w4 hm4 hg4; go_must (have PN := hid (And.intro hm4 hg4); clear hm4 hg4)))
            have hgk := Hj.out
            go_roundg (gk - 1)
            case rel =>
              refine ⟨j + 1, by omega, by go_num, hid ?_, hid (hG2.out.trans (Gr2.of2 PN.out.2)), hid ((PN.out.2.block M1 (lt_of_get hM1.out (Nat.lt_of_lt_of_le HL2.out.m1.lt R3.out.2.2.size)) (fun e => HL2.out.ne (by injection e))).trans hM1.out), hid (hK.out.grown PN.out.2 (fun e => map_ne HL2.out.m2 HL2.out.blk (by injection e)))⟩
              rw [List.take_succ_eq_append_getElem HLT.out, dnW_snoc, ← HX.out, ← HD2.out, ← HD9.out]
              exact PN.out.1
            case measure => omega
          · obtain rfl : j = l.length := by omega
            have hM2 := hM.out
            rw [List.take_length] at hM2
            have HM2 := hid hM2
            clear hj hM hM2
            go_wp2
            go_ret
            have e0 : withR l f r = r f1 := by unfold withR; rw [HE.out]
            refine ⟨by rw [e0, HQ.out]; rfl, ⟨_, HM2.out, fun f' h => ?_⟩, hG2.out⟩
            rw [e0] at h
            obtain ⟨h1, h2⟩ := R3.out.2.1 f' h
            refine ⟨h1.of hM1.out, ?_⟩
            rw [h2]
            exact dnW_up l g B HL.out.b (by omega)
set_option maxHeartbeats 8000000 in
set_option maxRecDepth 100000 in
theorem with_2 (l : List Int) (T : Option Addr) (tc : Nat) (S : Nat → Prop) (K M1 M2 : Nat) (f g : Int → Int) (k1 k2 B c0 c1 e1 e2 : Nat) (r : (Int → Int) → Option (Int → Int)) (w : World) (hI : IAt w S l T tc) (hS : ∀ b, S b → b ≠ M1 ∧ b ≠ M2) (hl : LK w K M1 M2 f g k1 k2 B) (hb1 : k1 + l.length ≤ 17592186044416) (hb2 : k2 + l.length ≤ e2) (hb3 : e2 + l.length ≤ 17592186044416) (hb4 : B + l.length ≤ 17592186044416)
    (HW : ∀ (w1 : World) (f1 : Int → Int), Gr2 M1 M2 w w1 → addV l f = some f1 → LK w1 K M1 M2 f1 (upM l g) (k1 + l.length) (k2 + l.length) (B + l.length) → Calls Try.prog 67 #[.pointer (some ⟨c0, 0, none⟩), .pointer (some ⟨c1, 0, none⟩)] w1 (GdP (r f1) (upM l g) e1 e2 M1 M2 w1)) :
    Calls Try.prog 64 #[.pointer (some ⟨K, 0, none⟩), .slice T l.length tc, .func (.func 67) #[] #[.pointer (some ⟨c0, 0, none⟩), .pointer (some ⟨c1, 0, none⟩)]] w (GdP (withR l f r) g e1 (e2 + l.length) M1 M2 w) := by
  have hul := hI.1.2.2.2
  have hL9 : l.length ≤ 281474976710656 := by omega
  have Q := hid (And.intro hI (And.intro hS HW))
  have HL := hid hl
  clear hI hS HW hl
  go_enter Try.func64, Try.ntmps64
  go_wp2
  go_loopg [14] l.length (fun gg x wr => ∃ (j : Nat) (f1 : Int → Int), j + gg = l.length ∧ x = .int .i64 j ∧ Hid (addV l f = addV (l.drop j) f1) ∧ Hid (LK wr K M1 M2 f1 (upM (l.take j) g) (k1 + j) (k2 + j) (B + j)) ∧ Hid (Gr2 M1 M2 w wr))
  case atStart => exact ⟨0, f, by omega, rfl, hid rfl, HL, hid (Gr2.refl _ _ _)⟩
  case round =>
    obtain ⟨j, f1, hj, rfl, hE, hL, hG⟩ := hrel
    have Hj := hid hj
    have x0 : wr.cell? ⟨K, 0, none⟩ = some (.map (some M1)) := hL.out.blk.cell 0
    have x1 : wr.cell? ⟨K, 1, none⟩ = some (.map (some M2)) := hL.out.blk.cell 1
    by_cases hlt : j < l.length
    · have hlt' : (j : Int) < l.length := by omega
      obtain ⟨ad, rfl, hSb, y0, hwf⟩ := (Q.out.1.keep (w' := wr) (T := S) (fun b hb hl => ⟨hG.out.block b hl (Q.out.2.1 b hb).1 (Q.out.2.1 b hb).2, hb⟩)).2 j hlt
      obtain ⟨x, hx⟩ : ∃ x, x = l[j] := ⟨_, rfl⟩
      have hE2 := hE.out
      rw [addV_at hlt, ← hx] at hE2
      rw [← hx] at y0 hwf
      obtain ⟨c, hc⟩ : ∃ c, c = f1 x := ⟨_, rfl⟩
      obtain ⟨d, hd⟩ : ∃ d, d = upM (l.take j) g x := ⟨_, rfl⟩
      have hc01 : 0 ≤ c ∧ c ≤ 1 := by rw [hc]; exact hL.out.z x
      have hd01 : 0 ≤ d ∧ d ≤ B + j := by rw [hd]; have := hL.out.b x; omega
      have q1 : IntKind.i64.wrap (c + 1) = c + 1 := IntWalk.i64_in _ (by omega)
      have q2 : IntKind.i64.wrap (d + 1) = d + 1 := IntWalk.i64_in _ (by omega)
      have HWC := hid (show (Lit.int .i64 (c + 1)).wf = true by rw [← q1]; exact wf_wrapI _)
      have HWD := hid (show (Lit.int .i64 (d + 1)).wf = true by rw [← q2]; exact wf_wrapI _)
      rw [← hc] at hE2
      have HC := hid hc
      have HD := hid hd
      have HE := hid hE2
      have HX := hid hx
      have HWF := hid hwf
      have HLT := hid hlt
      have Q0 := hid trivial
      clear hj hSb hx hc hd hwf hE2 hE
      by_cases h1 : 1 < c + 1
      · skip
        go_wp2_with (first | (have _ := Q0; at_lookup; go_must (refine wpList_lookM (by rfl) _ _ (by rfl) hL.out.m1 HWF.out (by rfl) (by rfl) ?_); rw [← HC.out]; clear Q0; have Q1 := hid trivial) | (have _ := Q1; at_mapUpdate; go_must (refine wpList_putM (by rfl) _ _ _ (by rfl) hL.out.m1 (by unfold maxLen; omega) HWF.out HWC.out (by rfl) (by rfl) (by rfl) ?_); intro w1 hm1 hg1; go_must (have PM := hid (And.intro hm1 hg1); clear x0 x1; have x0 : w1.cell? ⟨K, 0, none⟩ = some (.map (some M1)) := (hL.out.blk.grown hg1 (fun e => map_ne hL.out.m1 hL.out.blk (by injection e))).cell 0; have x1 : w1.cell? ⟨K, 1, none⟩ = some (.map (some M2)) := (hL.out.blk.grown hg1 (fun e => map_ne hL.out.m1 hL.out.blk (by injection e))).cell 1; clear Q1 hm1 hg1; have Q2 := hid trivial)) | (have _ := Q2; at_lookup; go_must (refine wpList_lookM (by rfl) _ _ (by rfl) PM.out.1 HWF.out (by rfl) (by rfl) ?_); rw [updM_same]; clear Q2; have Q3 := hid trivial))
        go_ret
        have e0 : withR l f r = none := by unfold withR; rw [HE.out, if_pos (by omega)]
        have hn := hL.out.m2.of (PM.out.2.block M2 hL.out.m2.lt (fun e => hL.out.ne (by injection e with e; exact e.symm)))
        exact ⟨by rw [e0]; rfl, ⟨_, hn.mono (by omega), fun f' h => by rw [e0] at h; cases h⟩, hG.out.trans (Gr2.of1 PM.out.2)⟩
      · by_cases h2 : x < 1
        · skip
          go_wp2_with (first | (have _ := Q0; at_lookup; go_must (refine wpList_lookM (by rfl) _ _ (by rfl) hL.out.m1 HWF.out (by rfl) (by rfl) ?_); rw [← HC.out]; clear Q0; have Q1 := hid trivial) | (have _ := Q1; at_mapUpdate; go_must (refine wpList_putM (by rfl) _ _ _ (by rfl) hL.out.m1 (by unfold maxLen; omega) HWF.out HWC.out (by rfl) (by rfl) (by rfl) ?_); intro w1 hm1 hg1; go_must (have PM := hid (And.intro hm1 hg1); clear x0 x1; have x0 : w1.cell? ⟨K, 0, none⟩ = some (.map (some M1)) := (hL.out.blk.grown hg1 (fun e => map_ne hL.out.m1 hL.out.blk (by injection e))).cell 0; have x1 : w1.cell? ⟨K, 1, none⟩ = some (.map (some M2)) := (hL.out.blk.grown hg1 (fun e => map_ne hL.out.m1 hL.out.blk (by injection e))).cell 1; clear Q1 hm1 hg1; have Q2 := hid trivial)) | (have _ := Q2; at_lookup; go_must (refine wpList_lookM (by rfl) _ _ (by rfl) PM.out.1 HWF.out (by rfl) (by rfl) ?_); rw [updM_same]; clear Q2; have Q3 := hid trivial))
          go_ret
          have e0 : withR l f r = none := by unfold withR; rw [HE.out, if_pos (by omega)]
          have hn := hL.out.m2.of (PM.out.2.block M2 hL.out.m2.lt (fun e => hL.out.ne (by injection e with e; exact e.symm)))
          exact ⟨by rw [e0]; rfl, ⟨_, hn.mono (by omega), fun f' h => by rw [e0] at h; cases h⟩, hG.out.trans (Gr2.of1 PM.out.2)⟩
        · by_cases h3 : 262144 < x
          · skip
            go_wp2_with (first | (have _ := Q0; at_lookup; go_must (refine wpList_lookM (by rfl) _ _ (by rfl) hL.out.m1 HWF.out (by rfl) (by rfl) ?_); rw [← HC.out]; clear Q0; have Q1 := hid trivial) | (have _ := Q1; at_mapUpdate; go_must (refine wpList_putM (by rfl) _ _ _ (by rfl) hL.out.m1 (by unfold maxLen; omega) HWF.out HWC.out (by rfl) (by rfl) (by rfl) ?_); intro w1 hm1 hg1; go_must (have PM := hid (And.intro hm1 hg1); clear x0 x1; have x0 : w1.cell? ⟨K, 0, none⟩ = some (.map (some M1)) := (hL.out.blk.grown hg1 (fun e => map_ne hL.out.m1 hL.out.blk (by injection e))).cell 0; have x1 : w1.cell? ⟨K, 1, none⟩ = some (.map (some M2)) := (hL.out.blk.grown hg1 (fun e => map_ne hL.out.m1 hL.out.blk (by injection e))).cell 1; clear Q1 hm1 hg1; have Q2 := hid trivial)) | (have _ := Q2; at_lookup; go_must (refine wpList_lookM (by rfl) _ _ (by rfl) PM.out.1 HWF.out (by rfl) (by rfl) ?_); rw [updM_same]; clear Q2; have Q3 := hid trivial))
            go_ret
            have e0 : withR l f r = none := by unfold withR; rw [HE.out, if_pos (by omega)]
            have hn := hL.out.m2.of (PM.out.2.block M2 hL.out.m2.lt (fun e => hL.out.ne (by injection e with e; exact e.symm)))
            exact ⟨by rw [e0]; rfl, ⟨_, hn.mono (by omega), fun f' h => by rw [e0] at h; cases h⟩, hG.out.trans (Gr2.of1 PM.out.2)⟩
          · go_wp2_with (first | (have _ := Q0; at_lookup; go_must (refine wpList_lookM (by rfl) _ _ (by rfl) hL.out.m1 HWF.out (by rfl) (by rfl) ?_); rw [← HC.out]; clear Q0; have Q1 := hid trivial) | (have _ := Q1; at_mapUpdate; go_must (refine wpList_putM (by rfl) _ _ _ (by rfl) hL.out.m1 (by unfold maxLen; omega) HWF.out HWC.out (by rfl) (by rfl) (by rfl) ?_); intro w1 hm1 hg1; go_must (have PM := hid (And.intro hm1 hg1); clear x0 x1; have x0 : w1.cell? ⟨K, 0, none⟩ = some (.map (some M1)) := (hL.out.blk.grown hg1 (fun e => map_ne hL.out.m1 hL.out.blk (by injection e))).cell 0; have x1 : w1.cell? ⟨K, 1, none⟩ = some (.map (some M2)) := (hL.out.blk.grown hg1 (fun e => map_ne hL.out.m1 hL.out.blk (by injection e))).cell 1; clear Q1 hm1 hg1; have Q2 := hid trivial)) | (have _ := Q2; at_lookup; go_must (refine wpList_lookM (by rfl) _ _ (by rfl) PM.out.1 HWF.out (by rfl) (by rfl) ?_); rw [updM_same]; clear Q2; have Q3 := hid trivial) | (have _ := Q3; at_lookup; go_must (refine wpList_lookM (by rfl) _ _ (by rfl) (hL.out.m2.of (PM.out.2.block M2 hL.out.m2.lt (fun e => hL.out.ne (by injection e with e; exact e.symm)))) HWF.out (by rfl) (by rfl) ?_); rw [← HD.out]; clear Q3; have Q4 := hid trivial) | (have _ := Q4; at_mapUpdate; go_must (refine wpList_putM (by rfl) _ _ _ (by rfl) (hL.out.m2.of (PM.out.2.block M2 hL.out.m2.lt (fun e => hL.out.ne (by injection e with e; exact e.symm)))) (by unfold maxLen; omega) HWF.out HWD.out (by rfl) (by rfl) (by rfl) ?_); intro w2 hm2 hg2; go_must (have PN := hid (And.intro hm2 hg2); clear Q4 hm2 hg2; have Q5 := hid trivial)))
            have hgk := Hj.out
            go_roundg (gk - 1)
            case rel =>
              have N := hL.out.next HC.out HD.out (by omega) PM.out.1 PM.out.2 PN.out.1 PN.out.2
              refine ⟨j + 1, _, by omega, by go_num, hid (by rw [HE.out, if_neg (by omega), HC.out]), hid ?_, hid (hG.out.trans N.2)⟩
              rw [List.take_succ_eq_append_getElem HLT.out, upM_snoc, ← HX.out]
              exact N.1
            case measure => omega
    · obtain rfl : j = l.length := by omega
      have hE2 := hE.out
      rw [List.drop_length, addV] at hE2
      have hL2 := hL.out
      rw [List.take_length] at hL2
      have C := hid (Q.out.2.2 wr f1 hG.out hE2 hL2)
      have HE := hid hE2
      have HL2 := hid hL2
      obtain ⟨q, hq⟩ : ∃ q, (r f1).isSome = q := ⟨_, rfl⟩
      have HQ := hid hq
      clear hj hE hE2 hL hL2 hq hlt
      cases q
      all_goals
        go_wp2_with (go_at_call 67; go_must (refine C.out.mono ?_); rintro e w3 ⟨e9, ⟨g', hg', hq'⟩, hg3⟩; go_must (rw [HQ.out] at e9; subst e9; have R3 := hid (And.intro hg' (And.intro hq' hg3)); clear hg' hq' hg3))
        go_loopg [52] l.length (fun gg x wq => ∃ (j : Nat), j + gg = l.length ∧ x = .int .i64 j ∧ Hid (MapI wq M2 (dnW (l.take j) g') (e2 + j)) ∧ Hid (Gr2 M1 M2 w wq) ∧ Hid (wq.heap[M1]? = w3.heap[M1]?) ∧ Hid (Blk wq K 78 #[.map (some M1), .map (some M2)]))
        case atStart => exact ⟨0, by omega, rfl, hid R3.out.1, hid (hG.out.trans R3.out.2.2), hid rfl, hid (R3.out.2.2.blk HL2.out.blk (map_ne HL2.out.m1 HL2.out.blk) (map_ne HL2.out.m2 HL2.out.blk))⟩
        case round =>
          clear x0 x1
          obtain ⟨j, hj, rfl, hM, hG2, hM1, hK⟩ := hrel
          have Hj := hid hj
          have x1 : wr.cell? ⟨K, 1, none⟩ = some (.map (some M2)) := hK.out.cell 1
          by_cases hlt : j < l.length
          · have hlt' : (j : Int) < l.length := by omega
            obtain ⟨ad, rfl, hSb, y0, hwf⟩ := (Q.out.1.keep (w' := wr) (T := S) (fun b hb hl => ⟨hG2.out.block b hl (Q.out.2.1 b hb).1 (Q.out.2.1 b hb).2, hb⟩)).2 j hlt
            obtain ⟨x, hx⟩ : ∃ x, x = l[j] := ⟨_, rfl⟩
            rw [← hx] at y0 hwf
            obtain ⟨d, hd⟩ : ∃ d, d = dnW (l.take j) g' x := ⟨_, rfl⟩
            have HD := hid hd
            have HX := hid hx
            have HWF := hid hwf
            have HLT := hid hlt
            obtain ⟨d9, hd9⟩ : ∃ d9, d9 = IntKind.i64.wrap (d - 1) := ⟨_, rfl⟩
            have q5 : IntKind.i64.wrap (d - 1) = d9 := hd9.symm
            have HWD := hid (show (Lit.int .i64 d9).wf = true by rw [hd9]; exact wf_wrapI _)
            have HD9 := hid hd9
            clear hd9
            clear hj hSb hx hd hwf
            go_wp2_with (first
              | (have _ := HD; at_lookup; go_must (refine wpList_lookM (by rfl) _ _ (by rfl) hM.out HWF.out (by rfl) (by rfl) ?_); rw [← HD.out]; have HD2 := HD; clear HD)
              | (at_mapUpdate; go_must (refine wpList_putM (by rfl) _ _ _ (by rfl) hM.out (by unfold maxLen; omega) HWF.out HWD.out (by rfl) (by rfl) (by rfl) ?_); intro w4 hm4 hg4; go_must (have PN := hid (And.intro hm4 hg4); clear hm4 hg4)))
            have hgk := Hj.out
            go_roundg (gk - 1)
            case rel =>
              refine ⟨j + 1, by omega, by go_num, hid ?_, hid (hG2.out.trans (Gr2.of2 PN.out.2)), hid ((PN.out.2.block M1 (lt_of_get hM1.out (Nat.lt_of_lt_of_le HL2.out.m1.lt R3.out.2.2.size)) (fun e => HL2.out.ne (by injection e))).trans hM1.out), hid (hK.out.grown PN.out.2 (fun e => map_ne HL2.out.m2 HL2.out.blk (by injection e)))⟩
              rw [List.take_succ_eq_append_getElem HLT.out, dnW_snoc, ← HX.out, ← HD2.out, ← HD9.out]
              exact PN.out.1
            case measure => omega
          · obtain rfl : j = l.length := by omega
            have hM2 := hM.out
            rw [List.take_length] at hM2
            have HM2 := hid hM2
            clear hj hM hM2
            go_wp2
            go_ret
            have e0 : withR l f r = r f1 := by unfold withR; rw [HE.out]
            refine ⟨by rw [e0, HQ.out]; rfl, ⟨_, HM2.out, fun f' h => ?_⟩, hG2.out⟩
            rw [e0] at h
            obtain ⟨h1, h2⟩ := R3.out.2.1 f' h
            refine ⟨h1.of hM1.out, ?_⟩
            rw [h2]
            exact dnW_up l g B HL.out.b (by omega)
set_option maxHeartbeats 8000000 in
set_option maxRecDepth 100000 in
theorem with_3 (l : List Int) (T : Option Addr) (tc : Nat) (S : Nat → Prop) (K M1 M2 : Nat) (f g : Int → Int) (k1 k2 B c0 c1 e1 e2 : Nat) (r : (Int → Int) → Option (Int → Int)) (w : World) (hI : IAt w S l T tc) (hS : ∀ b, S b → b ≠ M1 ∧ b ≠ M2) (hl : LK w K M1 M2 f g k1 k2 B) (hb1 : k1 + l.length ≤ 17592186044416) (hb2 : k2 + l.length ≤ e2) (hb3 : e2 + l.length ≤ 17592186044416) (hb4 : B + l.length ≤ 17592186044416)
    (HW : ∀ (w1 : World) (f1 : Int → Int), Gr2 M1 M2 w w1 → addV l f = some f1 → LK w1 K M1 M2 f1 (upM l g) (k1 + l.length) (k2 + l.length) (B + l.length) → Calls Try.prog 68 #[.pointer (some ⟨c0, 0, none⟩), .pointer (some ⟨c1, 0, none⟩)] w1 (GdP (r f1) (upM l g) e1 e2 M1 M2 w1)) :
    Calls Try.prog 64 #[.pointer (some ⟨K, 0, none⟩), .slice T l.length tc, .func (.func 68) #[] #[.pointer (some ⟨c0, 0, none⟩), .pointer (some ⟨c1, 0, none⟩)]] w (GdP (withR l f r) g e1 (e2 + l.length) M1 M2 w) := by
  have hul := hI.1.2.2.2
  have hL9 : l.length ≤ 281474976710656 := by omega
  have Q := hid (And.intro hI (And.intro hS HW))
  have HL := hid hl
  clear hI hS HW hl
  go_enter Try.func64, Try.ntmps64
  go_wp2
  go_loopg [14] l.length (fun gg x wr => ∃ (j : Nat) (f1 : Int → Int), j + gg = l.length ∧ x = .int .i64 j ∧ Hid (addV l f = addV (l.drop j) f1) ∧ Hid (LK wr K M1 M2 f1 (upM (l.take j) g) (k1 + j) (k2 + j) (B + j)) ∧ Hid (Gr2 M1 M2 w wr))
  case atStart => exact ⟨0, f, by omega, rfl, hid rfl, HL, hid (Gr2.refl _ _ _)⟩
  case round =>
    obtain ⟨j, f1, hj, rfl, hE, hL, hG⟩ := hrel
    have Hj := hid hj
    have x0 : wr.cell? ⟨K, 0, none⟩ = some (.map (some M1)) := hL.out.blk.cell 0
    have x1 : wr.cell? ⟨K, 1, none⟩ = some (.map (some M2)) := hL.out.blk.cell 1
    by_cases hlt : j < l.length
    · have hlt' : (j : Int) < l.length := by omega
      obtain ⟨ad, rfl, hSb, y0, hwf⟩ := (Q.out.1.keep (w' := wr) (T := S) (fun b hb hl => ⟨hG.out.block b hl (Q.out.2.1 b hb).1 (Q.out.2.1 b hb).2, hb⟩)).2 j hlt
      obtain ⟨x, hx⟩ : ∃ x, x = l[j] := ⟨_, rfl⟩
      have hE2 := hE.out
      rw [addV_at hlt, ← hx] at hE2
      rw [← hx] at y0 hwf
      obtain ⟨c, hc⟩ : ∃ c, c = f1 x := ⟨_, rfl⟩
      obtain ⟨d, hd⟩ : ∃ d, d = upM (l.take j) g x := ⟨_, rfl⟩
      have hc01 : 0 ≤ c ∧ c ≤ 1 := by rw [hc]; exact hL.out.z x
      have hd01 : 0 ≤ d ∧ d ≤ B + j := by rw [hd]; have := hL.out.b x; omega
      have q1 : IntKind.i64.wrap (c + 1) = c + 1 := IntWalk.i64_in _ (by omega)
      have q2 : IntKind.i64.wrap (d + 1) = d + 1 := IntWalk.i64_in _ (by omega)
      have HWC := hid (show (Lit.int .i64 (c + 1)).wf = true by rw [← q1]; exact wf_wrapI _)
      have HWD := hid (show (Lit.int .i64 (d + 1)).wf = true by rw [← q2]; exact wf_wrapI _)
      rw [← hc] at hE2
      have HC := hid hc
      have HD := hid hd
      have HE := hid hE2
      have HX := hid hx
      have HWF := hid hwf
      have HLT := hid hlt
      have Q0 := hid trivial
      clear hj hSb hx hc hd hwf hE2 hE
      by_cases h1 : 1 < c + 1
      · skip
        go_wp2_with (first | (have _ := Q0; at_lookup; go_must (refine wpList_lookM (by rfl) _ _ (by rfl) hL.out.m1 HWF.out (by rfl) (by rfl) ?_); rw [← HC.out]; clear Q0; have Q1 := hid trivial) | (have _ := Q1; at_mapUpdate; go_must (refine wpList_putM (by rfl) _ _ _ (by rfl) hL.out.m1 (by unfold maxLen; omega) HWF.out HWC.out (by rfl) (by rfl) (by rfl) ?_); intro w1 hm1 hg1; go_must (have PM := hid (And.intro hm1 hg1); clear x0 x1; have x0 : w1.cell? ⟨K, 0, none⟩ = some (.map (some M1)) := (hL.out.blk.grown hg1 (fun e => map_ne hL.out.m1 hL.out.blk (by injection e))).cell 0; have x1 : w1.cell? ⟨K, 1, none⟩ = some (.map (some M2)) := (hL.out.blk.grown hg1 (fun e => map_ne hL.out.m1 hL.out.blk (by injection e))).cell 1; clear Q1 hm1 hg1; have Q2 := hid trivial)) | (have _ := Q2; at_lookup; go_must (refine wpList_lookM (by rfl) _ _ (by rfl) PM.out.1 HWF.out (by rfl) (by rfl) ?_); rw [updM_same]; clear Q2; have Q3 := hid trivial))
        go_ret
        have e0 : withR l f r = none := by unfold withR; rw [HE.out, if_pos (by omega)]
        have hn := hL.out.m2.of (PM.out.2.block M2 hL.out.m2.lt (fun e => hL.out.ne (by injection e with e; exact e.symm)))
        exact ⟨by rw [e0]; rfl, ⟨_, hn.mono (by omega), fun f' h => by rw [e0] at h; cases h⟩, hG.out.trans (Gr2.of1 PM.out.2)⟩
      · by_cases h2 : x < 1
        · skip
          go_wp2_with (first | (have _ := Q0; at_lookup; go_must (refine wpList_lookM (by rfl) _ _ (by rfl) hL.out.m1 HWF.out (by rfl) (by rfl) ?_); rw [← HC.out]; clear Q0; have Q1 := hid trivial) | (have _ := Q1; at_mapUpdate; go_must (refine wpList_putM (by rfl) _ _ _ (by rfl) hL.out.m1 (by unfold maxLen; omega) HWF.out HWC.out (by rfl) (by rfl) (by rfl) ?_); intro w1 hm1 hg1; go_must (have PM := hid (And.intro hm1 hg1); clear x0 x1; have x0 : w1.cell? ⟨K, 0, none⟩ = some (.map (some M1)) := (hL.out.blk.grown hg1 (fun e => map_ne hL.out.m1 hL.out.blk (by injection e))).cell 0; have x1 : w1.cell? ⟨K, 1, none⟩ = some (.map (some M2)) := (hL.out.blk.grown hg1 (fun e => map_ne hL.out.m1 hL.out.blk (by injection e))).cell 1; clear Q1 hm1 hg1; have Q2 := hid trivial)) | (have _ := Q2; at_lookup; go_must (refine wpList_lookM (by rfl) _ _ (by rfl) PM.out.1 HWF.out (by rfl) (by rfl) ?_); rw [updM_same]; clear Q2; have Q3 := hid trivial))
          go_ret
          have e0 : withR l f r = none := by unfold withR; rw [HE.out, if_pos (by omega)]
          have hn := hL.out.m2.of (PM.out.2.block M2 hL.out.m2.lt (fun e => hL.out.ne (by injection e with e; exact e.symm)))
          exact ⟨by rw [e0]; rfl, ⟨_, hn.mono (by omega), fun f' h => by rw [e0] at h; cases h⟩, hG.out.trans (Gr2.of1 PM.out.2)⟩
        · by_cases h3 : 262144 < x
          · skip
            go_wp2_with (first | (have _ := Q0; at_lookup; go_must (refine wpList_lookM (by rfl) _ _ (by rfl) hL.out.m1 HWF.out (by rfl) (by rfl) ?_); rw [← HC.out]; clear Q0; have Q1 := hid trivial) | (have _ := Q1; at_mapUpdate; go_must (refine wpList_putM (by rfl) _ _ _ (by rfl) hL.out.m1 (by unfold maxLen; omega) HWF.out HWC.out (by rfl) (by rfl) (by rfl) ?_); intro w1 hm1 hg1; go_must (have PM := hid (And.intro hm1 hg1); clear x0 x1; have x0 : w1.cell? ⟨K, 0, none⟩ = some (.map (some M1)) := (hL.out.blk.grown hg1 (fun e => map_ne hL.out.m1 hL.out.blk (by injection e))).cell 0; have x1 : w1.cell? ⟨K, 1, none⟩ = some (.map (some M2)) := (hL.out.blk.grown hg1 (fun e => map_ne hL.out.m1 hL.out.blk (by injection e))).cell 1; clear Q1 hm1 hg1; have Q2 := hid trivial)) | (have _ := Q2; at_lookup; go_must (refine wpList_lookM (by rfl) _ _ (by rfl) PM.out.1 HWF.out (by rfl) (by rfl) ?_); rw [updM_same]; clear Q2; have Q3 := hid trivial))
            go_ret
            have e0 : withR l f r = none := by unfold withR; rw [HE.out, if_pos (by omega)]
            have hn := hL.out.m2.of (PM.out.2.block M2 hL.out.m2.lt (fun e => hL.out.ne (by injection e with e; exact e.symm)))
            exact ⟨by rw [e0]; rfl, ⟨_, hn.mono (by omega), fun f' h => by rw [e0] at h; cases h⟩, hG.out.trans (Gr2.of1 PM.out.2)⟩
          · go_wp2_with (first | (have _ := Q0; at_lookup; go_must (refine wpList_lookM (by rfl) _ _ (by rfl) hL.out.m1 HWF.out (by rfl) (by rfl) ?_); rw [← HC.out]; clear Q0; have Q1 := hid trivial) | (have _ := Q1; at_mapUpdate; go_must (refine wpList_putM (by rfl) _ _ _ (by rfl) hL.out.m1 (by unfold maxLen; omega) HWF.out HWC.out (by rfl) (by rfl) (by rfl) ?_); intro w1 hm1 hg1; go_must (have PM := hid (And.intro hm1 hg1); clear x0 x1; have x0 : w1.cell? ⟨K, 0, none⟩ = some (.map (some M1)) := (hL.out.blk.grown hg1 (fun e => map_ne hL.out.m1 hL.out.blk (by injection e))).cell 0; have x1 : w1.cell? ⟨K, 1, none⟩ = some (.map (some M2)) := (hL.out.blk.grown hg1 (fun e => map_ne hL.out.m1 hL.out.blk (by injection e))).cell 1; clear Q1 hm1 hg1; have Q2 := hid trivial)) | (have _ := Q2; at_lookup; go_must (refine wpList_lookM (by rfl) _ _ (by rfl) PM.out.1 HWF.out (by rfl) (by rfl) ?_); rw [updM_same]; clear Q2; have Q3 := hid trivial) | (have _ := Q3; at_lookup; go_must (refine wpList_lookM (by rfl) _ _ (by rfl) (hL.out.m2.of (PM.out.2.block M2 hL.out.m2.lt (fun e => hL.out.ne (by injection e with e; exact e.symm)))) HWF.out (by rfl) (by rfl) ?_); rw [← HD.out]; clear Q3; have Q4 := hid trivial) | (have _ := Q4; at_mapUpdate; go_must (refine wpList_putM (by rfl) _ _ _ (by rfl) (hL.out.m2.of (PM.out.2.block M2 hL.out.m2.lt (fun e => hL.out.ne (by injection e with e; exact e.symm)))) (by unfold maxLen; omega) HWF.out HWD.out (by rfl) (by rfl) (by rfl) ?_); intro w2 hm2 hg2; go_must (have PN := hid (And.intro hm2 hg2); clear Q4 hm2 hg2; have Q5 := hid trivial)))
            have hgk := Hj.out
            go_roundg (gk - 1)
            case rel =>
              have N := hL.out.next HC.out HD.out (by omega) PM.out.1 PM.out.2 PN.out.1 PN.out.2
              refine ⟨j + 1, _, by omega, by go_num, hid (by rw [HE.out, if_neg (by omega), HC.out]), hid ?_, hid (hG.out.trans N.2)⟩
              rw [List.take_succ_eq_append_getElem HLT.out, upM_snoc, ← HX.out]
              exact N.1
            case measure => omega
    · obtain rfl : j = l.length := by omega
      have hE2 := hE.out
      rw [List.drop_length, addV] at hE2
      have hL2 := hL.out
      rw [List.take_length] at hL2
      have C := hid (Q.out.2.2 wr f1 hG.out hE2 hL2)
      have HE := hid hE2
      have HL2 := hid hL2
      obtain ⟨q, hq⟩ : ∃ q, (r f1).isSome = q := ⟨_, rfl⟩
      have HQ := hid hq
      clear hj hE hE2 hL hL2 hq hlt
      cases q
      all_goals
        go_wp2_with (go_at_call 68; go_must (refine C.out.mono ?_); rintro e w3 ⟨e9, ⟨g', hg', hq'⟩, hg3⟩; go_must (rw [HQ.out] at e9; subst e9; have R3 := hid (And.intro hg' (And.intro hq' hg3)); clear hg' hq' hg3))
        go_loopg [52] l.length (fun gg x wq => ∃ (j : Nat), j + gg = l.length ∧ x = .int .i64 j ∧ Hid (MapI wq M2 (dnW (l.take j) g') (e2 + j)) ∧ Hid (Gr2 M1 M2 w wq) ∧ Hid (wq.heap[M1]? = w3.heap[M1]?) ∧ Hid (Blk wq K 78 #[.map (some M1), .map (some M2)]))
        case atStart => exact ⟨0, by omega, rfl, hid R3.out.1, hid (hG.out.trans R3.out.2.2), hid rfl, hid (R3.out.2.2.blk HL2.out.blk (map_ne HL2.out.m1 HL2.out.blk) (map_ne HL2.out.m2 HL2.out.blk))⟩
        case round =>
          clear x0 x1
          obtain ⟨j, hj, rfl, hM, hG2, hM1, hK⟩ := hrel
          have Hj := hid hj
          have x1 : wr.cell? ⟨K, 1, none⟩ = some (.map (some M2)) := hK.out.cell 1
          by_cases hlt : j < l.length
          · have hlt' : (j : Int) < l.length := by omega
            obtain ⟨ad, rfl, hSb, y0, hwf⟩ := (Q.out.1.keep (w' := wr) (T := S) (fun b hb hl => ⟨hG2.out.block b hl (Q.out.2.1 b hb).1 (Q.out.2.1 b hb).2, hb⟩)).2 j hlt
            obtain ⟨x, hx⟩ : ∃ x, x = l[j] := ⟨_, rfl⟩
            rw [← hx] at y0 hwf
            obtain ⟨d, hd⟩ : ∃ d, d = dnW (l.take j) g' x := ⟨_, rfl⟩
            have HD := hid hd
            have HX := hid hx
            have HWF := hid hwf
            have HLT := hid hlt
            obtain ⟨d9, hd9⟩ : ∃ d9, d9 = IntKind.i64.wrap (d - 1) := ⟨_, rfl⟩
            have q5 : IntKind.i64.wrap (d - 1) = d9 := hd9.symm
            have HWD := hid (show (Lit.int .i64 d9).wf = true by rw [hd9]; exact wf_wrapI _)
            have HD9 := hid hd9
            clear hd9
            clear hj hSb hx hd hwf
            go_wp2_with (first
              | (have _ := HD; at_lookup; go_must (refine wpList_lookM (by rfl) _ _ (by rfl) hM.out HWF.out (by rfl) (by rfl) ?_); rw [← HD.out]; have HD2 := HD; clear HD)
              | (at_mapUpdate; go_must (refine wpList_putM (by rfl) _ _ _ (by rfl) hM.out (by unfold maxLen; omega) HWF.out HWD.out (by rfl) (by rfl) (by rfl) ?_); intro w4 hm4 hg4; go_must (have PN := hid (And.intro hm4 hg4); clear hm4 hg4)))
            have hgk := Hj.out
            go_roundg (gk - 1)
            case rel =>
              refine ⟨j + 1, by omega, by go_num, hid ?_, hid (hG2.out.trans (Gr2.of2 PN.out.2)), hid ((PN.out.2.block M1 (lt_of_get hM1.out (Nat.lt_of_lt_of_le HL2.out.m1.lt R3.out.2.2.size)) (fun e => HL2.out.ne (by injection e))).trans hM1.out), hid (hK.out.grown PN.out.2 (fun e => map_ne HL2.out.m2 HL2.out.blk (by injection e)))⟩
              rw [List.take_succ_eq_append_getElem HLT.out, dnW_snoc, ← HX.out, ← HD2.out, ← HD9.out]
              exact PN.out.1
            case measure => omega
          · obtain rfl : j = l.length := by omega
            have hM2 := hM.out
            rw [List.take_length] at hM2
            have HM2 := hid hM2
            clear hj hM hM2
            go_wp2
            go_ret
            have e0 : withR l f r = r f1 := by unfold withR; rw [HE.out]
            refine ⟨by rw [e0, HQ.out]; rfl, ⟨_, HM2.out, fun f' h => ?_⟩, hG2.out⟩
            rw [e0] at h
            obtain ⟨h1, h2⟩ := R3.out.2.1 f' h
            refine ⟨h1.of hM1.out, ?_⟩
            rw [h2]
            exact dnW_up l g B HL.out.b (by omega)
end Go.Proofs.Ytdmkjndlobichaa
