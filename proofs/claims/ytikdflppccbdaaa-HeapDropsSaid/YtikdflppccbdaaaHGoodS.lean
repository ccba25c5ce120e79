/-
  heap.Good WHERE THE OBJECTS LIE ONE BEHIND THE OTHER.
-/
import Derived.Test.YtikdflppccbdaaaHGoodP
import Derived.Laws.EntriesVeiled
namespace Go.Proofs.Ytikdflppccbdaaa
open Go.ChangeShapes Go.WideShapes Go.ChangeAt Go.RowKit Go.Shelf
attribute [local go_sem] Oper.semAt_some

/-- An object of the run, by its number. -/
theorem ob_at {f : Nat → Int} {top bn : Nat} {sts : List Nat} (h : stl f top bn = some sts) {k : Nat} (hk : k < (oseq f top bn).length) :
    ∃ p : Nat, (oseq f top bn)[k] = ⟨p, ofT (f p), ofS (f p)⟩ ∧ p + ofS (f p) < top ∧ sts[k]? = some p ∧ ofS (f p) ≤ 64 := by
  obtain ⟨e, ho⟩ := oseq_some _ bn (Nat.le_refl _) sts h
  obtain ⟨p, h1, h2, h3, h4⟩ := ho _ (List.getElem_mem hk)
  refine ⟨p, h1, h3, ?_, ofS_le h4⟩
  rw [e, List.getElem?_map, List.getElem?_eq_getElem hk, h1]
  simp
theorem add_form (ad : Addr) (p q : Nat) : ad.add (p + 1 + q) = ⟨ad.block, ad.off + (p + 1) + q, none⟩ := by
  unfold Addr.add; rw [if_neg (by omega)]; congr 1; omega
theorem obAts_all {f : Nat → Int} {top bn : Nat} {sts : List Nat} (h : stl f top bn = some sts) : obAts (oseq f top bn) (oseq f top bn).length = sts ∧ (oseq f top bn).length = sts.length := by
  obtain ⟨e, _⟩ := oseq_some _ bn (Nat.le_refl _) sts h
  constructor
  · unfold obAts; rw [List.take_of_length_le (Nat.le_refl _)]; exact e.symm
  · rw [e]; simp

set_option maxHeartbeats 4000000 in
set_option maxRecDepth 100000 in
theorem good_some (B : Nat) (A A2 : Option Addr) (n c m d : Nat) (ws roots : List Int) (room : Int) (bn tn : Nat) (w : World) (hBw : B ≤ w.heap.size) (g1 : Ints w B A n c ws) (g2 : Ints w B A2 m d roots) (hs : ShapedP n room bn tn) (hm : m ≤ 64) (hn : n ≤ 6000) (sts : List Nat) (hst : stl (gw ws) tn bn = some sts) :
    Calls Try.prog 16 #[.agg #[.slice A n c, .int .i64 room, .int .i64 bn, .int .i64 tn], .slice A2 m d] w fun e w' => (∃ b : Bool, e = .returned (.bool b) ∧ (b = true ↔ (BodyOk n sts (gw ws) bn tn ∧ RootsOk n sts (gw roots) m))) ∧ Below w.heap.size w w' := by
  have htn : tn ≤ n := by unfold ShapedP at hs; omega
  have hmk := make_bools n (by omega)
  have HO := hid (And.intro (fun (k : Nat) (hk : k < (oseq (gw ws) tn bn).length) => ob_at hst hk) (obAts_all hst))
  have HST := hid hst
  have hsh : 64 ≤ room ∧ room ≤ 131072 ∧ (n : Int) = 2 * room ∧ ((bn : Int) = 0 ∨ (bn : Int) = room) ∧ bn ≤ tn ∧ (tn : Int) ≤ bn + room := by unfold ShapedP at hs; omega
  obtain ⟨s1, s2, s3, s4, s5, s6⟩ := hsh
  clear hs hst
  rw [s3] at hmk
  have G1 := hid (And.intro g1 (And.intro hn htn))
  have G2 := hid g2
  clear g1 g2
  rcases s4 with s4 | s4
  · obtain rfl : bn = 0 := by omega
    refine callsIn_wide (n := 5) |>.1 ?_
    refine callsIn_of_wp_marks Try.func16 rfl trivial ?_ rfl
    simp only [Try.ntmps16, List.size_toArray, List.length_cons, List.length_nil, Nat.reduceAdd, Nat.reduceSub, Array.replicate_succ, Array.replicate_zero, List.push_toArray, List.append_toArray, List.nil_append, List.cons_append]
    gi_wp2_with (refine ⟨trivial, ?_⟩; gi_at_call 28; go_must (refine (callsIn_wide.2 (heap_objects _ _ _ _ _ _)).mono ?_); rintro e w1 ⟨rfl, rfl⟩)
    refine (?_ : Code.wpIn _ _ _ _ _ _ (GW w A n c room 0 tn))
    have hsz := hid (GW_size w A n c room 0 tn)
    have hwd := hid (GW_words w A n c room 0 tn)
    have hgs := hid (GW_start w A n c room 0 tn)
    refine wpIn_rangeFunc_y (P := Try.prog) (w := GW w A n c room 0 tn) rfl (by omega) (gf := 48) (lb := #[.pointer (some ⟨w.heap.size + 1 + 1 + 1 + 1 + 1, 0, none⟩), .pointer (some ⟨w.heap.size + 1 + 1 + 1 + 1 + 1 + 1, 0, none⟩), .pointer (some ⟨w.heap.size + 1 + 1 + 1 + 1, 0, none⟩)]) rfl trivial (enters_of Try.func48 (by kernel_rfl) rfl)
      (encs := encO) (Kp := KpZ w.heap.size (w.heap.size + 1 + 1 + 1 + 1)) (xs0 := oseq (gw ws) tn 0) (z := w.heap.size + 1 + 1 + 1 + 1 + 1) (by rw [hsz.out]; omega)
      (objs_seq (5 - 1) w.heap.size (w.heap.size + 1 + 1 + 1 + 1) A n c ws 0 tn _ (by omega) (by omega) (G1.out.1.below ((hgs.out [] 0).2.1.mono hBw) hBw) G1.out.2.1 G1.out.2.2 hwd.out.1 hwd.out.2.1 hwd.out.2.2)
      (fun h k => h.trans k) (KpZ.put (by rw [hsz.out]; omega) (by rw [hsz.out]; omega)) (fun _ => rfl)
      (GI w A n c room 0 tn (oseq (gw ws) tn 0) (oseq (gw ws) tn 0).length) (fun _ _ _ => False) (GI.own (by rw [hsz.out]; omega)) (fun _ _ _ _ _ h _ _ => h) (GI.set_ (by omega)) (fun _ _ _ _ h => h) (hgs.out _ _) ?round ?done ?stop
    case round =>
      intro l k hk W K hl hlt hI hK
      have hl7 : w.heap.size + 1 + 1 + 1 + 1 + 1 + 1 + 1 ≤ l := by rw [← hsz.out]; exact hl
      obtain ⟨p, hx, hp, _, _⟩ := HO.out.1 k hk
      have HL := hid (And.intro hl hlt)
      have HIk := hid hI
      clear hI hl hlt
      rw [hx]
      simp only [encO]
      have hpn : p < n := by omega
      have Hx := hid (And.intro hx (And.intro (obAts_succ hk) hk))
      clear hx hp
      generalize ofS (gw ws p) = s at Hx ⊢
      generalize ofT (gw ws p) = tg at Hx ⊢
      gi_wp2
      refine ⟨(KeepsOthers.alloc _ _).from _, KpZ.alloc (by have := HL.out.2; omega) (by have := HL.out.2; omega) _, HIk.out.alloc _, ?_⟩
      intro W2 hj hsz2 hI2 _
      have x0 : Blk W2 W.heap.size 54 #[.int .i64 p, .int .i64 tg, .int .i64 s] := (hj _ (by have := HL.out.2; omega)).trans (Blk.new W _ _)
      have y0 := x0.cell 0
      have y2 := x0.cell 2
      obtain ⟨h0, h1, h2, h3, h4, h5⟩ := hI2
      have z1 := h5.cell0
      have z2 := h4.cell p
      rw [cellsB_get _ hpn] at z2
      have z3 := h4.frozen p
      have H2 := hid h2
      have H3 := hid h3
      have H4 := hid h4
      have H5 := hid h5
      have H1 := hid h1
      clear h1 h2 h3 h4 h5 hj hsz2 x0
      gi_wp2
      refine ⟨(KeepsOthers.setCell _ _ _).from _, KpZ.set_ (by omega) (by omega) (by omega) (by omega) _, by have := Hx.out.2.2; omega, below_set H1.out (by omega) _, H2.out.far (by dsimp only; omega) _, H3.out.far (by dsimp only; omega) _, ?_, H5.out.far (by dsimp only; omega) _⟩
      have hset := H4.out.set_ p (.bool true)
      rw [cellsB_set] at hset
      rw [Hx.out.2.1, Hx.out.1]
      simpa using hset
    case stop =>
      intro D cc k W hD _ h _
      exact h.elim
    case done =>
      intro D W hD hI hK
      have hD7 : w.heap.size + 1 + 1 + 1 + 1 + 1 + 1 + 1 ≤ D := by rw [← hsz.out]; exact hD
      have HF := hid (GW2_facts (f := gw ws) hI HO.out.2.1 hK)
      have HDl := hid (Array.getElem?_eq_some_iff.1 hK).1
      have x0 : ∀ o, (W.alloc o).cell? ⟨w.heap.size, 0, none⟩ = some (.slice A n c) := fun o => (hI.2.2.1.alloc o).cell 0
      have x2 : ∀ o, (W.alloc o).cell? ⟨w.heap.size, 2, none⟩ = some (.int .i64 0) := fun o => (hI.2.2.1.alloc o).cell 2
      have x3 : ∀ o, (W.alloc o).cell? ⟨w.heap.size, 3, none⟩ = some (.int .i64 tn) := fun o => (hI.2.2.1.alloc o).cell 3
      have HI := hid (And.intro hI hK)
      clear hI hK hD hmk
      gi_wp2_with (refine ⟨trivial, ?_⟩; gi_at_call 28; go_must (refine (callsIn_wide.2 (heap_objects _ _ _ _ _ _)).mono ?_); rintro e w1 ⟨rfl, rfl⟩)
      refine (?_ : Code.wpIn _ _ _ _ _ _ (GW2 w W A n c 0 tn))
      obtain ⟨t1, t2, t3, t4, t5⟩ := HF.out
      have hsz2 := hid t1
      have hst2 := hid t2
      have hwd2 := hid (And.intro t3 (And.intro t4 t5))
      have hWs : w.heap.size + 1 + 1 + 1 + 1 + 1 + 1 + 1 < W.heap.size := by have := HDl.out; omega
      clear t1 t2 t3 t4 t5 HF x0 x2 x3 hgs hwd
      refine wpIn_rangeFunc_y (P := Try.prog) (w := GW2 w W A n c 0 tn) rfl (by omega) (gf := 48) (lb := #[.pointer (some ⟨W.heap.size + 1 + 1, 0, none⟩), .pointer (some ⟨W.heap.size + 1 + 1 + 1, 0, none⟩), .pointer (some ⟨W.heap.size + 1, 0, none⟩)]) rfl trivial (enters_of Try.func48 (by kernel_rfl) rfl)
        (encs := encO) (Kp := KpZ w.heap.size (W.heap.size + 1)) (xs0 := oseq (gw ws) tn 0) (z := W.heap.size + 1 + 1) (by rw [hsz2.out]; omega)
        (objs_seq (5 - 1) w.heap.size (W.heap.size + 1) A n c ws 0 tn _ (by omega) (by omega) (G1.out.1.below (hst2.out.2.1.mono hBw) hBw) G1.out.2.1 G1.out.2.2 hwd2.out.1 hwd2.out.2.1 hwd2.out.2.2)
        (fun h k => h.trans k) (KpZ.put (by rw [hsz2.out]; omega) (by rw [hsz2.out]; omega)) (fun _ => rfl)
        (GI2 w A n c room 0 tn (gw ws) sts D W.heap.size) (GX2 w D (¬ BodyOk n sts (gw ws) 0 tn)) (GI2.own (by rw [hsz2.out]; omega) (by have := HDl.out; rw [hsz2.out]; omega) (by rw [hsz2.out]; omega)) (fun _ => GX2.own (by rw [hsz2.out]; omega) (by have := HDl.out; rw [hsz2.out]; omega)) (GI2.set_ (by omega) (by have := HDl.out; omega) (by omega)) (GX2.set_ (by omega) (by have := HDl.out; omega)) hst2.out ?round2 ?done2 ?stop2
      case round2 =>
        intro l k hk W1 K hl hlt hI hK
        have hl7 : W.heap.size + 1 + 1 + 1 + 1 ≤ l := by rw [← hsz2.out]; exact hl
        obtain ⟨p, hx, hp, hsk, hs64⟩ := HO.out.1 k hk
        have HL := hid (And.intro hl hlt)
        have HIk := hid hI
        clear hI hl hlt
        rw [hx]
        simp only [encO]
        have hpn : p < n := by omega
        obtain ⟨ad, rfl⟩ := G1.out.1.some_ hpn
        have Hx := hid (And.intro hsk (And.intro hx hk))
        clear hx hsk
        obtain ⟨s, hss⟩ : ∃ s, s = ofS (gw ws p) := ⟨_, rfl⟩
        rw [← hss] at hp hs64 ⊢
        have HS := hid hss
        clear hss
        generalize ofT (gw ws p) = tg
        gi_wp2
        refine ⟨(KeepsOthers.alloc _ _).from _, KpZ.alloc (by have := HL.out.2; omega) (by have := HL.out.2; omega) _, HIk.out.alloc _, ?_⟩
        intro W2 hj hsz3 hI2 _
        have x0 : Blk W2 W1.heap.size 54 #[.int .i64 p, .int .i64 tg, .int .i64 s] := (hj _ (by have := HL.out.2; omega)).trans (Blk.new W1 _ _)
        have y0 := x0.cell 0
        have y2 := x0.cell 2
        obtain ⟨h0, h1, h2, h3, h4, h5, h6, h7⟩ := hI2
        have z1 := h2.cell 0
        have z2 := h3.cell0
        have z3 := h3.frozen 0
        have z4 := h6.cell0
        have H0 := hid h0
        have H1 := hid h1
        have H2 := hid h2
        have H3 := hid h3
        have H4 := hid h4
        have H5 := hid h5
        have H6 := hid h6
        have H7 := hid h7
        clear h0 h1 h2 h3 h4 h5 h6 h7 hj hsz3 x0
        have hp6 : p + s < 6000 := by omega
        have hcap : p + 1 + s ≤ c := by have := G1.out.1.cap; omega
        by_cases hcp : p + 1 < c
        · gi_wp2
          simp only [Nat.add_sub_cancel_left]
          gi_loopg [103] s (fun g x wr => ∃ q : Nat, q + g = s ∧ x = .int .i64 q ∧ wr = W2 ∧ Hid (∀ j, j < q → wordB n sts (gw ws (p + 1 + j)) = true))
          case atStart => exact ⟨0, by omega, rfl, rfl, hid (fun j hj => by omega)⟩
          case round =>
            obtain ⟨q, hq, rfl, rfl, hdn⟩ := hrel
            have Hq := hid hq
            by_cases hlt : q < s
            · have hqn : p + 1 + q < n := by omega
              have q1 := (G1.out.1.below (H1.out.mono hBw) (Nat.le_refl _)).cell hqn
              rw [add_form] at q1
              have hw := hid (G1.out.1.wf_at hqn)
              clear hq
              cases hwb : wordB n sts (gw ws (p + 1 + q)) with
              | true =>
                have HW := hid hwb
                clear hwb
                gi_wp2_with (refine ⟨trivial, ?_⟩; gi_at_call 29; go_must (refine (CallsIn.inRound l (callsIn_wide.2 (good_1 _ hw.out n _ _ sts _ H5.out H4.out))).mono ?_); rw [HW.out]; rintro e w3 ⟨rfl, rfl⟩)
                have hgk := Hq.out
                gi_roundg (gk - 1)
                case rel => exact ⟨q + 1, by omega, by go_num, rfl, hid (fun j hj => by rcases Nat.lt_succ_iff_lt_or_eq.1 hj with h | rfl; exact hdn.out j h; exact HW.out)⟩
                case measure => omega
              | false =>
                have HW := hid hwb
                clear hwb
                gi_wp2_with (refine ⟨trivial, ?_⟩; gi_at_call 29; go_must (refine (CallsIn.inRound l (callsIn_wide.2 (good_1 _ hw.out n _ _ sts _ H5.out H4.out))).mono ?_); rw [HW.out]; rintro e w3 ⟨rfl, rfl⟩)
                exact ⟨(KeepsOthers.setCell _ _ _).from _, rfl, not_body HST.out Hx.out.1 (by rw [← HS.out]; exact hlt) HW.out, below_set H1.out (by omega) _, H3.out.set0 _, (heap_set_ne (by omega) _).trans H7.out⟩
            · clear hq
              gi_wp2
              exact ⟨KeepsFrom.refl _ _, KpZ.refl _ _ _, H0.out.succ Hx.out.1 (by rw [← HS.out]; have := Hq.out; rw [show s = q from by omega]; exact hdn.out), H1.out, H2.out, H3.out, H4.out, H5.out, H6.out, H7.out⟩
        · obtain rfl : c = p + 1 := by omega
          obtain rfl : s = 0 := by omega
          gi_wp2
          gi_loopg [103] 0 (fun _ x wr => x = .int .i64 0 ∧ wr = W2)
          case atStart => exact ⟨rfl, rfl⟩
          case round =>
            obtain ⟨rfl, rfl⟩ := hrel
            gi_wp2
            exact ⟨KeepsFrom.refl _ _, KpZ.refl _ _ _, H0.out.succ Hx.out.1 (by rw [← HS.out]; intro j hj; omega), H1.out, H2.out, H3.out, H4.out, H5.out, H6.out, H7.out⟩
      case done2 =>
        intro D2 Wd hD2 hI hK2
        have hDD : W.heap.size + 1 + 1 + 1 + 1 ≤ D2 := by rw [← hsz2.out]; exact hD2
        obtain ⟨h0, h1, h2, h3, h4, h5, h6, h7⟩ := hI
        have hbody : BodyOk n sts (gw ws) 0 tn := Done2.all HST.out (by rw [← HO.out.2.2]; exact h0)
        have HBd := hid hbody
        have H1 := hid h1
        have H3 := hid h3
        have H4 := hid h4
        have H5 := hid h5
        have H6 := hid h6
        have H7 := hid h7
        have HK2 := hid hK2
        have z2 := h3.cell0
        have z3 := h3.frozen 0
        have z4 := h6.cell0
        clear h0 h1 h2 h3 h4 h5 h6 h7 hbody hK2 hD2
        gi_wp2_with (refine ⟨trivial, ?_⟩; gi_at_call 32; go_must (refine (callsIn_wide.2 (contains_Good B A2 m d roots n _ _ _ sts _ (G2.out.below (H1.out.mono hBw) (Nat.le_refl _)) (by omega) H5.out H4.out H6.out)).mono ?_); rintro e w3 ⟨rfl, rfl⟩)
        have hDw := HDl.out
        refine ⟨by simp, .inl ⟨_, _, rfl, run_takeDeferred ((heap_set_ne (by omega) _).trans HK2.out), by simp, .inl ⟨_, _, rfl, run_takeDeferred ((World.putObj_heap_other (by omega)).trans ((heap_set_ne (by omega) _).trans H7.out)), ?_⟩⟩⟩
        have x1 : ((((Wd.setCell ⟨w.heap.size + 1, 0, none⟩ (.bool (decide (RootsOk n sts (gw roots) m)))).putObj D2 (.deferred none)).putObj D (.deferred none))).cell? ⟨w.heap.size + 1, 0, none⟩ = some (.bool (decide (RootsOk n sts (gw roots) m))) := Blk.cell0 (t := 4) ((World.putObj_heap_other (by omega)).trans ((World.putObj_heap_other (by omega)).trans (H3.out.set0 _)))
        refine ⟨.bool (decide (RootsOk n sts (gw roots) m)), by simp [results, Try.results16, go_sem, x1], ⟨_, rfl, by rw [decide_eq_true_eq]; exact ⟨fun h => ⟨HBd.out, h⟩, fun h => h.2⟩⟩, ?_⟩
        have hB3 := below_set H1.out (show w.heap.size ≤ w.heap.size + 1 by omega) (i := 0) (.bool (decide (RootsOk n sts (gw roots) m)))
        exact (hB3.trans ((Below.refl _ _).grown (grownBy_putObj' _ D2 _) hB3.size (fun k e => by cases e; omega))).trans ((Below.refl _ _).grown (grownBy_putObj' _ D _) (by simpa using H1.out.size) (fun k e => by cases e; omega))
      case stop2 =>
        rintro D2 cc k Wd hD2 _ ⟨rfl, hno, hB, hR, hK1⟩ hK2
        have hDD : W.heap.size + 1 + 1 + 1 + 1 ≤ D2 := by rw [← hsz2.out]; exact hD2
        have x0 := hR.cell0
        gi_wp2
        have hDw := HDl.out
        refine ⟨by simp, .inl ⟨_, _, rfl, run_takeDeferred hK2, by simp, .inl ⟨_, _, rfl, run_takeDeferred ((World.putObj_heap_other (by omega)).trans hK1), ?_⟩⟩⟩
        have x1 : ((Wd.putObj D2 (.deferred none)).putObj D (.deferred none)).cell? ⟨w.heap.size + 1, 0, none⟩ = some (.bool false) := Blk.cell0 (t := 4) ((World.putObj_heap_other (by omega)).trans ((World.putObj_heap_other (by omega)).trans hR))
        refine ⟨.bool false, by simp [results, Try.results16, go_sem, x1], ⟨false, rfl, by simp; intro h; exact absurd h hno⟩, ?_⟩
        exact (hB.trans ((Below.refl _ Wd).grown (grownBy_putObj' Wd D2 _) hB.size (fun k e => by cases e; omega))).trans ((Below.refl _ _).grown (grownBy_putObj' _ D _) (by simpa using hB.size) (fun k e => by cases e; omega))
  · subst s4
    have q0 : ((bn : Int) != 0) = true := by simp; omega
    refine callsIn_wide (n := 5) |>.1 ?_
    refine callsIn_of_wp_marks Try.func16 rfl trivial ?_ rfl
    simp only [Try.ntmps16, List.size_toArray, List.length_cons, List.length_nil, Nat.reduceAdd, Nat.reduceSub, Array.replicate_succ, Array.replicate_zero, List.push_toArray, List.append_toArray, List.nil_append, List.cons_append]
    gi_wp2_with (refine ⟨trivial, ?_⟩; gi_at_call 28; go_must (refine (callsIn_wide.2 (heap_objects _ _ _ _ _ _)).mono ?_); rintro e w1 ⟨rfl, rfl⟩)
    refine (?_ : Code.wpIn _ _ _ _ _ _ (GW w A n c (bn : Int) (bn : Int) tn))
    have hsz := hid (GW_size w A n c (bn : Int) (bn : Int) tn)
    have hwd := hid (GW_words w A n c (bn : Int) (bn : Int) tn)
    have hgs := hid (GW_start w A n c (bn : Int) (bn : Int) tn)
    refine wpIn_rangeFunc_y (P := Try.prog) (w := GW w A n c (bn : Int) (bn : Int) tn) rfl (by omega) (gf := 48) (lb := #[.pointer (some ⟨w.heap.size + 1 + 1 + 1 + 1 + 1, 0, none⟩), .pointer (some ⟨w.heap.size + 1 + 1 + 1 + 1 + 1 + 1, 0, none⟩), .pointer (some ⟨w.heap.size + 1 + 1 + 1 + 1, 0, none⟩)]) rfl trivial (enters_of Try.func48 (by kernel_rfl) rfl)
      (encs := encO) (Kp := KpZ w.heap.size (w.heap.size + 1 + 1 + 1 + 1)) (xs0 := oseq (gw ws) tn bn) (z := w.heap.size + 1 + 1 + 1 + 1 + 1) (by rw [hsz.out]; omega)
      (objs_seq (5 - 1) w.heap.size (w.heap.size + 1 + 1 + 1 + 1) A n c ws bn tn _ (by omega) (by omega) (G1.out.1.below ((hgs.out [] 0).2.1.mono hBw) hBw) G1.out.2.1 G1.out.2.2 hwd.out.1 hwd.out.2.1 hwd.out.2.2)
      (fun h k => h.trans k) (KpZ.put (by rw [hsz.out]; omega) (by rw [hsz.out]; omega)) (fun _ => rfl)
      (GI w A n c (bn : Int) (bn : Int) tn (oseq (gw ws) tn bn) (oseq (gw ws) tn bn).length) (fun _ _ _ => False) (GI.own (by rw [hsz.out]; omega)) (fun _ _ _ _ _ h _ _ => h) (GI.set_ (by omega)) (fun _ _ _ _ h => h) (hgs.out _ _) ?round ?done ?stop
    case round =>
      intro l k hk W K hl hlt hI hK
      have hl7 : w.heap.size + 1 + 1 + 1 + 1 + 1 + 1 + 1 ≤ l := by rw [← hsz.out]; exact hl
      obtain ⟨p, hx, hp, _, _⟩ := HO.out.1 k hk
      have HL := hid (And.intro hl hlt)
      have HIk := hid hI
      clear hI hl hlt
      rw [hx]
      simp only [encO]
      have hpn : p < n := by omega
      have Hx := hid (And.intro hx (And.intro (obAts_succ hk) hk))
      clear hx hp
      generalize ofS (gw ws p) = s at Hx ⊢
      generalize ofT (gw ws p) = tg at Hx ⊢
      gi_wp2
      refine ⟨(KeepsOthers.alloc _ _).from _, KpZ.alloc (by have := HL.out.2; omega) (by have := HL.out.2; omega) _, HIk.out.alloc _, ?_⟩
      intro W2 hj hsz2 hI2 _
      have x0 : Blk W2 W.heap.size 54 #[.int .i64 p, .int .i64 tg, .int .i64 s] := (hj _ (by have := HL.out.2; omega)).trans (Blk.new W _ _)
      have y0 := x0.cell 0
      have y2 := x0.cell 2
      obtain ⟨h0, h1, h2, h3, h4, h5⟩ := hI2
      have z1 := h5.cell0
      have z2 := h4.cell p
      rw [cellsB_get _ hpn] at z2
      have z3 := h4.frozen p
      have H2 := hid h2
      have H3 := hid h3
      have H4 := hid h4
      have H5 := hid h5
      have H1 := hid h1
      clear h1 h2 h3 h4 h5 hj hsz2 x0
      gi_wp2
      refine ⟨(KeepsOthers.setCell _ _ _).from _, KpZ.set_ (by omega) (by omega) (by omega) (by omega) _, by have := Hx.out.2.2; omega, below_set H1.out (by omega) _, H2.out.far (by dsimp only; omega) _, H3.out.far (by dsimp only; omega) _, ?_, H5.out.far (by dsimp only; omega) _⟩
      have hset := H4.out.set_ p (.bool true)
      rw [cellsB_set] at hset
      rw [Hx.out.2.1, Hx.out.1]
      simpa using hset
    case stop =>
      intro D cc k W hD _ h _
      exact h.elim
    case done =>
      intro D W hD hI hK
      have hD7 : w.heap.size + 1 + 1 + 1 + 1 + 1 + 1 + 1 ≤ D := by rw [← hsz.out]; exact hD
      have HF := hid (GW2_facts (f := gw ws) hI HO.out.2.1 hK)
      have HDl := hid (Array.getElem?_eq_some_iff.1 hK).1
      have x0 : ∀ o, (W.alloc o).cell? ⟨w.heap.size, 0, none⟩ = some (.slice A n c) := fun o => (hI.2.2.1.alloc o).cell 0
      have x2 : ∀ o, (W.alloc o).cell? ⟨w.heap.size, 2, none⟩ = some (.int .i64 (bn : Int)) := fun o => (hI.2.2.1.alloc o).cell 2
      have x3 : ∀ o, (W.alloc o).cell? ⟨w.heap.size, 3, none⟩ = some (.int .i64 tn) := fun o => (hI.2.2.1.alloc o).cell 3
      have HI := hid (And.intro hI hK)
      clear hI hK hD hmk
      gi_wp2_with (refine ⟨trivial, ?_⟩; gi_at_call 28; go_must (refine (callsIn_wide.2 (heap_objects _ _ _ _ _ _)).mono ?_); rintro e w1 ⟨rfl, rfl⟩)
      refine (?_ : Code.wpIn _ _ _ _ _ _ (GW2 w W A n c (bn : Int) tn))
      obtain ⟨t1, t2, t3, t4, t5⟩ := HF.out
      have hsz2 := hid t1
      have hst2 := hid t2
      have hwd2 := hid (And.intro t3 (And.intro t4 t5))
      have hWs : w.heap.size + 1 + 1 + 1 + 1 + 1 + 1 + 1 < W.heap.size := by have := HDl.out; omega
      clear t1 t2 t3 t4 t5 HF x0 x2 x3 hgs hwd
      refine wpIn_rangeFunc_y (P := Try.prog) (w := GW2 w W A n c (bn : Int) tn) rfl (by omega) (gf := 48) (lb := #[.pointer (some ⟨W.heap.size + 1 + 1, 0, none⟩), .pointer (some ⟨W.heap.size + 1 + 1 + 1, 0, none⟩), .pointer (some ⟨W.heap.size + 1, 0, none⟩)]) rfl trivial (enters_of Try.func48 (by kernel_rfl) rfl)
        (encs := encO) (Kp := KpZ w.heap.size (W.heap.size + 1)) (xs0 := oseq (gw ws) tn bn) (z := W.heap.size + 1 + 1) (by rw [hsz2.out]; omega)
        (objs_seq (5 - 1) w.heap.size (W.heap.size + 1) A n c ws bn tn _ (by omega) (by omega) (G1.out.1.below (hst2.out.2.1.mono hBw) hBw) G1.out.2.1 G1.out.2.2 hwd2.out.1 hwd2.out.2.1 hwd2.out.2.2)
        (fun h k => h.trans k) (KpZ.put (by rw [hsz2.out]; omega) (by rw [hsz2.out]; omega)) (fun _ => rfl)
        (GI2 w A n c (bn : Int) (bn : Int) tn (gw ws) sts D W.heap.size) (GX2 w D (¬ BodyOk n sts (gw ws) bn tn)) (GI2.own (by rw [hsz2.out]; omega) (by have := HDl.out; rw [hsz2.out]; omega) (by rw [hsz2.out]; omega)) (fun _ => GX2.own (by rw [hsz2.out]; omega) (by have := HDl.out; rw [hsz2.out]; omega)) (GI2.set_ (by omega) (by have := HDl.out; omega) (by omega)) (GX2.set_ (by omega) (by have := HDl.out; omega)) hst2.out ?round2 ?done2 ?stop2
      case round2 =>
        intro l k hk W1 K hl hlt hI hK
        have hl7 : W.heap.size + 1 + 1 + 1 + 1 ≤ l := by rw [← hsz2.out]; exact hl
        obtain ⟨p, hx, hp, hsk, hs64⟩ := HO.out.1 k hk
        have HL := hid (And.intro hl hlt)
        have HIk := hid hI
        clear hI hl hlt
        rw [hx]
        simp only [encO]
        have hpn : p < n := by omega
        obtain ⟨ad, rfl⟩ := G1.out.1.some_ hpn
        have Hx := hid (And.intro hsk (And.intro hx hk))
        clear hx hsk
        obtain ⟨s, hss⟩ : ∃ s, s = ofS (gw ws p) := ⟨_, rfl⟩
        rw [← hss] at hp hs64 ⊢
        have HS := hid hss
        clear hss
        generalize ofT (gw ws p) = tg
        gi_wp2
        refine ⟨(KeepsOthers.alloc _ _).from _, KpZ.alloc (by have := HL.out.2; omega) (by have := HL.out.2; omega) _, HIk.out.alloc _, ?_⟩
        intro W2 hj hsz3 hI2 _
        have x0 : Blk W2 W1.heap.size 54 #[.int .i64 p, .int .i64 tg, .int .i64 s] := (hj _ (by have := HL.out.2; omega)).trans (Blk.new W1 _ _)
        have y0 := x0.cell 0
        have y2 := x0.cell 2
        obtain ⟨h0, h1, h2, h3, h4, h5, h6, h7⟩ := hI2
        have z1 := h2.cell 0
        have z2 := h3.cell0
        have z3 := h3.frozen 0
        have z4 := h6.cell0
        have H0 := hid h0
        have H1 := hid h1
        have H2 := hid h2
        have H3 := hid h3
        have H4 := hid h4
        have H5 := hid h5
        have H6 := hid h6
        have H7 := hid h7
        clear h0 h1 h2 h3 h4 h5 h6 h7 hj hsz3 x0
        have hp6 : p + s < 6000 := by omega
        have hcap : p + 1 + s ≤ c := by have := G1.out.1.cap; omega
        by_cases hcp : p + 1 < c
        · gi_wp2
          simp only [Nat.add_sub_cancel_left]
          gi_loopg [103] s (fun g x wr => ∃ q : Nat, q + g = s ∧ x = .int .i64 q ∧ wr = W2 ∧ Hid (∀ j, j < q → wordB n sts (gw ws (p + 1 + j)) = true))
          case atStart => exact ⟨0, by omega, rfl, rfl, hid (fun j hj => by omega)⟩
          case round =>
            obtain ⟨q, hq, rfl, rfl, hdn⟩ := hrel
            have Hq := hid hq
            by_cases hlt : q < s
            · have hqn : p + 1 + q < n := by omega
              have q1 := (G1.out.1.below (H1.out.mono hBw) (Nat.le_refl _)).cell hqn
              rw [add_form] at q1
              have hw := hid (G1.out.1.wf_at hqn)
              clear hq
              cases hwb : wordB n sts (gw ws (p + 1 + q)) with
              | true =>
                have HW := hid hwb
                clear hwb
                gi_wp2_with (refine ⟨trivial, ?_⟩; gi_at_call 29; go_must (refine (CallsIn.inRound l (callsIn_wide.2 (good_1 _ hw.out n _ _ sts _ H5.out H4.out))).mono ?_); rw [HW.out]; rintro e w3 ⟨rfl, rfl⟩)
                have hgk := Hq.out
                gi_roundg (gk - 1)
                case rel => exact ⟨q + 1, by omega, by go_num, rfl, hid (fun j hj => by rcases Nat.lt_succ_iff_lt_or_eq.1 hj with h | rfl; exact hdn.out j h; exact HW.out)⟩
                case measure => omega
              | false =>
                have HW := hid hwb
                clear hwb
                gi_wp2_with (refine ⟨trivial, ?_⟩; gi_at_call 29; go_must (refine (CallsIn.inRound l (callsIn_wide.2 (good_1 _ hw.out n _ _ sts _ H5.out H4.out))).mono ?_); rw [HW.out]; rintro e w3 ⟨rfl, rfl⟩)
                exact ⟨(KeepsOthers.setCell _ _ _).from _, rfl, not_body HST.out Hx.out.1 (by rw [← HS.out]; exact hlt) HW.out, below_set H1.out (by omega) _, H3.out.set0 _, (heap_set_ne (by omega) _).trans H7.out⟩
            · clear hq
              gi_wp2
              exact ⟨KeepsFrom.refl _ _, KpZ.refl _ _ _, H0.out.succ Hx.out.1 (by rw [← HS.out]; have := Hq.out; rw [show s = q from by omega]; exact hdn.out), H1.out, H2.out, H3.out, H4.out, H5.out, H6.out, H7.out⟩
        · obtain rfl : c = p + 1 := by omega
          obtain rfl : s = 0 := by omega
          gi_wp2
          gi_loopg [103] 0 (fun _ x wr => x = .int .i64 0 ∧ wr = W2)
          case atStart => exact ⟨rfl, rfl⟩
          case round =>
            obtain ⟨rfl, rfl⟩ := hrel
            gi_wp2
            exact ⟨KeepsFrom.refl _ _, KpZ.refl _ _ _, H0.out.succ Hx.out.1 (by rw [← HS.out]; intro j hj; omega), H1.out, H2.out, H3.out, H4.out, H5.out, H6.out, H7.out⟩
      case done2 =>
        intro D2 Wd hD2 hI hK2
        have hDD : W.heap.size + 1 + 1 + 1 + 1 ≤ D2 := by rw [← hsz2.out]; exact hD2
        obtain ⟨h0, h1, h2, h3, h4, h5, h6, h7⟩ := hI
        have hbody : BodyOk n sts (gw ws) bn tn := Done2.all HST.out (by rw [← HO.out.2.2]; exact h0)
        have HBd := hid hbody
        have H1 := hid h1
        have H3 := hid h3
        have H4 := hid h4
        have H5 := hid h5
        have H6 := hid h6
        have H7 := hid h7
        have HK2 := hid hK2
        have z2 := h3.cell0
        have z3 := h3.frozen 0
        have z4 := h6.cell0
        clear h0 h1 h2 h3 h4 h5 h6 h7 hbody hK2 hD2
        gi_wp2_with (refine ⟨trivial, ?_⟩; gi_at_call 32; go_must (refine (callsIn_wide.2 (contains_Good B A2 m d roots n _ _ _ sts _ (G2.out.below (H1.out.mono hBw) (Nat.le_refl _)) (by omega) H5.out H4.out H6.out)).mono ?_); rintro e w3 ⟨rfl, rfl⟩)
        have hDw := HDl.out
        refine ⟨by simp, .inl ⟨_, _, rfl, run_takeDeferred ((heap_set_ne (by omega) _).trans HK2.out), by simp, .inl ⟨_, _, rfl, run_takeDeferred ((World.putObj_heap_other (by omega)).trans ((heap_set_ne (by omega) _).trans H7.out)), ?_⟩⟩⟩
        have x1 : ((((Wd.setCell ⟨w.heap.size + 1, 0, none⟩ (.bool (decide (RootsOk n sts (gw roots) m)))).putObj D2 (.deferred none)).putObj D (.deferred none))).cell? ⟨w.heap.size + 1, 0, none⟩ = some (.bool (decide (RootsOk n sts (gw roots) m))) := Blk.cell0 (t := 4) ((World.putObj_heap_other (by omega)).trans ((World.putObj_heap_other (by omega)).trans (H3.out.set0 _)))
        refine ⟨.bool (decide (RootsOk n sts (gw roots) m)), by simp [results, Try.results16, go_sem, x1], ⟨_, rfl, by rw [decide_eq_true_eq]; exact ⟨fun h => ⟨HBd.out, h⟩, fun h => h.2⟩⟩, ?_⟩
        have hB3 := below_set H1.out (show w.heap.size ≤ w.heap.size + 1 by omega) (i := 0) (.bool (decide (RootsOk n sts (gw roots) m)))
        exact (hB3.trans ((Below.refl _ _).grown (grownBy_putObj' _ D2 _) hB3.size (fun k e => by cases e; omega))).trans ((Below.refl _ _).grown (grownBy_putObj' _ D _) (by simpa using H1.out.size) (fun k e => by cases e; omega))
      case stop2 =>
        rintro D2 cc k Wd hD2 _ ⟨rfl, hno, hB, hR, hK1⟩ hK2
        have hDD : W.heap.size + 1 + 1 + 1 + 1 ≤ D2 := by rw [← hsz2.out]; exact hD2
        have x0 := hR.cell0
        gi_wp2
        have hDw := HDl.out
        refine ⟨by simp, .inl ⟨_, _, rfl, run_takeDeferred hK2, by simp, .inl ⟨_, _, rfl, run_takeDeferred ((World.putObj_heap_other (by omega)).trans hK1), ?_⟩⟩⟩
        have x1 : ((Wd.putObj D2 (.deferred none)).putObj D (.deferred none)).cell? ⟨w.heap.size + 1, 0, none⟩ = some (.bool false) := Blk.cell0 (t := 4) ((World.putObj_heap_other (by omega)).trans ((World.putObj_heap_other (by omega)).trans hR))
        refine ⟨.bool false, by simp [results, Try.results16, go_sem, x1], ⟨false, rfl, by simp; intro h; exact absurd h hno⟩, ?_⟩
        exact (hB.trans ((Below.refl _ Wd).grown (grownBy_putObj' Wd D2 _) hB.size (fun k e => by cases e; omega))).trans ((Below.refl _ _).grown (grownBy_putObj' _ D _) (by simpa using hB.size) (fun k e => by cases e; omega))
end Go.Proofs.Ytikdflppccbdaaa
