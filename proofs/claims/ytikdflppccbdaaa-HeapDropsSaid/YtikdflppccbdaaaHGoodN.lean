/-
  heap.Good WHERE THE OBJECTS DO NOT LIE ONE BEHIND THE OTHER: false.
-/
import Derived.Test.YtikdflppccbdaaaHGood
namespace Go.Proofs.Ytikdflppccbdaaa
open Go.ChangeShapes Go.WideShapes Go.ChangeAt Go.RowKit Go.Shelf
attribute [local go_sem] Oper.semAt_some

set_option maxHeartbeats 4000000 in
set_option maxRecDepth 100000 in
theorem good_none (B : Nat) (A A2 : Option Addr) (n c m d : Nat) (ws : List Int) (room : Int) (bn tn : Nat) (w : World) (hBw : B ≤ w.heap.size) (g1 : Ints w B A n c ws) (hs : ShapedP n room bn tn) (hm : m ≤ 64) (hn : n ≤ 6000) (hst : stl (gw ws) tn bn = none) :
    Calls Try.prog 16 #[.agg #[.slice A n c, .int .i64 room, .int .i64 bn, .int .i64 tn], .slice A2 m d] w fun e w' => e = .returned (.bool false) ∧ Below w.heap.size w w' := by
  have htn : tn ≤ n := by unfold ShapedP at hs; omega
  have hmk := make_bools n (by omega)
  have HO := hid (oseq_none _ bn (Nat.le_refl _) hst)
  have hsh : 64 ≤ room ∧ room ≤ 131072 ∧ (n : Int) = 2 * room ∧ ((bn : Int) = 0 ∨ (bn : Int) = room) ∧ bn ≤ tn ∧ (tn : Int) ≤ bn + room := by unfold ShapedP at hs; omega
  obtain ⟨s1, s2, s3, s4, s5, s6⟩ := hsh
  clear hs hst
  rw [s3] at hmk
  have G1 := hid (And.intro g1 (And.intro hn htn))
  clear g1
  rcases s4 with s4 | s4
  · obtain rfl : bn = 0 := by omega
    refine callsIn_wide (n := 5) |>.1 ?_
    refine callsIn_of_wp_marks Try.func16 rfl trivial ?_ rfl
    simp only [Try.ntmps16, List.size_toArray, List.length_cons, List.length_nil, Nat.reduceAdd, Nat.reduceSub, Array.replicate_succ, Array.replicate_zero, List.push_toArray, List.append_toArray, List.nil_append, List.cons_append]
    gi_wp2_with (refine ⟨trivial, ?_⟩; gi_at_call 28; go_must (refine (callsIn_wide.2 (heap_objects _ _ _ _ _ _)).mono ?_); rintro e w1 ⟨rfl, rfl⟩)
    refine (?_ : Code.wpIn _ _ _ _ _ _ (GW w A n c room 0 tn))
    have hsz := hid (GW_size w A n c room 0 tn)
    have hwd := hid (GW_words w A n c room 0 tn)
    have hgs := hid (GW_start w A n c room 0 tn)
    obtain ⟨i0, ho⟩ := HO.out
    have HI := hid ho
    clear ho HO
    refine wpIn_rangeFunc_y (P := Try.prog) (w := GW w A n c room 0 tn) rfl (by omega) (gf := 48) (lb := #[.pointer (some ⟨w.heap.size + 1 + 1 + 1 + 1 + 1, 0, none⟩), .pointer (some ⟨w.heap.size + 1 + 1 + 1 + 1 + 1 + 1, 0, none⟩), .pointer (some ⟨w.heap.size + 1 + 1 + 1 + 1, 0, none⟩)]) rfl trivial (enters_of Try.func48 (by kernel_rfl) rfl)
      (encs := encO) (Kp := KpZ w.heap.size (w.heap.size + 1 + 1 + 1 + 1)) (xs0 := oseq (gw ws) tn 0) (z := w.heap.size + 1 + 1 + 1 + 1 + 1) (by rw [hsz.out]; omega)
      (objs_seq (5 - 1) w.heap.size (w.heap.size + 1 + 1 + 1 + 1) A n c ws 0 tn _ (by omega) (by omega) (G1.out.1.below ((hgs.out [] 0).2.1.mono hBw) hBw) G1.out.2.1 G1.out.2.2 hwd.out.1 hwd.out.2.1 hwd.out.2.2)
      (fun h k => h.trans k) (KpZ.put (by rw [hsz.out]; omega) (by rw [hsz.out]; omega)) (fun _ => rfl)
      (GI w A n c room 0 tn (oseq (gw ws) tn 0) i0) (GX w) (GI.own (by rw [hsz.out]; omega)) (fun _ => GX.own (by rw [hsz.out]; omega)) (GI.set_ (by omega)) (GX.set_ (by omega)) (hgs.out _ _) ?round ?done ?stop
    case round =>
      intro l k hk W K hl hlt hI hK
      have hl7 : w.heap.size + 1 + 1 + 1 + 1 + 1 + 1 + 1 ≤ l := by rw [← hsz.out]; exact hl
      have hobj : (k = i0 ∧ ∃ p tg : Int, (oseq (gw ws) tn 0)[k] = ⟨p, tg, -1⟩) ∨ (k < i0 ∧ ∃ (p : Nat) (tg s : Int), (oseq (gw ws) tn 0)[k] = ⟨p, tg, s⟩ ∧ p < tn ∧ 0 ≤ s) := by
        obtain ⟨h1, h2, h3⟩ := HI.out
        rcases Nat.lt_or_ge k i0 with h | h
        · right
          obtain ⟨p, h4, h5, h6⟩ := h3 k hk h
          exact ⟨h, p, _, _, by rw [← h4], h5, h6⟩
        · left
          obtain rfl : k = i0 := by omega
          exact ⟨rfl, _, _, by rw [← h2 hk]⟩
      have HL := hid (And.intro hl hlt)
      have HIk := hid hI
      clear hI hl hlt
      rcases hobj with ⟨rfl, p, tg, hx⟩ | ⟨hki, p, tg, s, hx, hp, hs⟩
      · rw [hx]
        simp only [encO]
        clear hx hk
        gi_wp2
        refine ⟨(KeepsOthers.alloc _ _).from _, KpZ.alloc (by have := HL.out.2; omega) (by have := HL.out.2; omega) _, HIk.out.alloc _, ?_⟩
        intro W2 hj hsz2 hI2 _
        have x0 : Blk W2 W.heap.size 54 #[.int .i64 p, .int .i64 tg, .int .i64 (-1)] := (hj _ (by have := HL.out.2; omega)).trans (Blk.new W _ _)
        have y2 := x0.cell 2
        have y3 := hI2.2.2.2.1.cell0
        have y4 := hI2.2.2.2.1.frozen 0
        have H2 := hid hI2
        clear hI2 hj hsz2 x0
        gi_wp2
        exact ⟨(KeepsOthers.setCell _ _ _).from _, rfl, below_set H2.out.2.1 (by omega) _, H2.out.2.2.2.1.set0 _⟩
      · rw [hx]
        simp only [encO]
        have hpn : p < n := by omega
        have Hx := hid (And.intro hx (obAts_succ hk))
        clear hx
        gi_wp2
        refine ⟨(KeepsOthers.alloc _ _).from _, KpZ.alloc (by have := HL.out.2; omega) (by have := HL.out.2; omega) _, HIk.out.alloc _, ?_⟩
        intro W2 hj hsz2 hI2 _
        have x0 : Blk W2 W.heap.size 54 #[.int .i64 p, .int .i64 tg, .int .i64 s] := (hj _ (by have := HL.out.2; omega)).trans (Blk.new W _ _)
        have y0 := x0.cell 0
        have y2 := x0.cell 2
        obtain ⟨h0, h1, h2, h3, h4, h5⟩ := hI2
        have z1 := h5.cell0
        have z2 := h4.cell p
        rw [cellsB_get _ hpn] at z2
        have z3 := h4.frozen p
        have H2 := hid h2
        have H3 := hid h3
        have H4 := hid h4
        have H5 := hid h5
        have H1 := hid h1
        clear h1 h2 h3 h4 h5 hj hsz2 x0
        gi_wp2
        refine ⟨(KeepsOthers.setCell _ _ _).from _, KpZ.set_ (by omega) (by omega) (by omega) (by omega) _, by omega, below_set H1.out (by omega) _, H2.out.far (by dsimp only; omega) _, H3.out.far (by dsimp only; omega) _, ?_, H5.out.far (by dsimp only; omega) _⟩
        have hset := H4.out.set_ p (.bool true)
        rw [cellsB_set] at hset
        rw [Hx.out.2, Hx.out.1]
        simpa using hset
    case done =>
      intro D W _ hI _
      have := HI.out.1
      have := hI.1
      omega
    case stop =>
      rintro D cc k W hD _ ⟨rfl, hB, hR⟩ hK
      have x0 := hR.cell0
      gi_wp2
      have hD7 : w.heap.size + 1 < D := by rw [hsz.out] at hD; omega
      refine ⟨by simp, .inl ⟨_, _, rfl, run_takeDeferred hK, ?_⟩⟩
      have x1 : (W.putObj D (.deferred none)).cell? ⟨w.heap.size + 1, 0, none⟩ = some (.bool false) := Blk.cell0 (t := 4) ((World.putObj_heap_other (by omega)).trans hR)
      refine ⟨.bool false, by simp [results, Try.results16, go_sem, x1], rfl, ?_⟩
      exact hB.trans ((Below.refl _ W).grown (grownBy_putObj' W D _) hB.size (fun k e => by cases e; omega))
  · subst s4
    have q0 : ((bn : Int) != 0) = true := by simp; omega
    refine callsIn_wide (n := 5) |>.1 ?_
    refine callsIn_of_wp_marks Try.func16 rfl trivial ?_ rfl
    simp only [Try.ntmps16, List.size_toArray, List.length_cons, List.length_nil, Nat.reduceAdd, Nat.reduceSub, Array.replicate_succ, Array.replicate_zero, List.push_toArray, List.append_toArray, List.nil_append, List.cons_append]
    gi_wp2_with (refine ⟨trivial, ?_⟩; gi_at_call 28; go_must (refine (callsIn_wide.2 (heap_objects _ _ _ _ _ _)).mono ?_); rintro e w1 ⟨rfl, rfl⟩)
    refine (?_ : Code.wpIn _ _ _ _ _ _ (GW w A n c (bn : Int) (bn : Int) tn))
    have hsz := hid (GW_size w A n c (bn : Int) (bn : Int) tn)
    have hwd := hid (GW_words w A n c (bn : Int) (bn : Int) tn)
    have hgs := hid (GW_start w A n c (bn : Int) (bn : Int) tn)
    obtain ⟨i0, ho⟩ := HO.out
    have HI := hid ho
    clear ho HO
    refine wpIn_rangeFunc_y (P := Try.prog) (w := GW w A n c (bn : Int) (bn : Int) tn) rfl (by omega) (gf := 48) (lb := #[.pointer (some ⟨w.heap.size + 1 + 1 + 1 + 1 + 1, 0, none⟩), .pointer (some ⟨w.heap.size + 1 + 1 + 1 + 1 + 1 + 1, 0, none⟩), .pointer (some ⟨w.heap.size + 1 + 1 + 1 + 1, 0, none⟩)]) rfl trivial (enters_of Try.func48 (by kernel_rfl) rfl)
      (encs := encO) (Kp := KpZ w.heap.size (w.heap.size + 1 + 1 + 1 + 1)) (xs0 := oseq (gw ws) tn bn) (z := w.heap.size + 1 + 1 + 1 + 1 + 1) (by rw [hsz.out]; omega)
      (objs_seq (5 - 1) w.heap.size (w.heap.size + 1 + 1 + 1 + 1) A n c ws bn tn _ (by omega) (by omega) (G1.out.1.below ((hgs.out [] 0).2.1.mono hBw) hBw) G1.out.2.1 G1.out.2.2 hwd.out.1 hwd.out.2.1 hwd.out.2.2)
      (fun h k => h.trans k) (KpZ.put (by rw [hsz.out]; omega) (by rw [hsz.out]; omega)) (fun _ => rfl)
      (GI w A n c (bn : Int) (bn : Int) tn (oseq (gw ws) tn bn) i0) (GX w) (GI.own (by rw [hsz.out]; omega)) (fun _ => GX.own (by rw [hsz.out]; omega)) (GI.set_ (by omega)) (GX.set_ (by omega)) (hgs.out _ _) ?round ?done ?stop
    case round =>
      intro l k hk W K hl hlt hI hK
      have hl7 : w.heap.size + 1 + 1 + 1 + 1 + 1 + 1 + 1 ≤ l := by rw [← hsz.out]; exact hl
      have hobj : (k = i0 ∧ ∃ p tg : Int, (oseq (gw ws) tn bn)[k] = ⟨p, tg, -1⟩) ∨ (k < i0 ∧ ∃ (p : Nat) (tg s : Int), (oseq (gw ws) tn bn)[k] = ⟨p, tg, s⟩ ∧ p < tn ∧ 0 ≤ s) := by
        obtain ⟨h1, h2, h3⟩ := HI.out
        rcases Nat.lt_or_ge k i0 with h | h
        · right
          obtain ⟨p, h4, h5, h6⟩ := h3 k hk h
          exact ⟨h, p, _, _, by rw [← h4], h5, h6⟩
        · left
          obtain rfl : k = i0 := by omega
          exact ⟨rfl, _, _, by rw [← h2 hk]⟩
      have HL := hid (And.intro hl hlt)
      have HIk := hid hI
      clear hI hl hlt
      rcases hobj with ⟨rfl, p, tg, hx⟩ | ⟨hki, p, tg, s, hx, hp, hs⟩
      · rw [hx]
        simp only [encO]
        clear hx hk
        gi_wp2
        refine ⟨(KeepsOthers.alloc _ _).from _, KpZ.alloc (by have := HL.out.2; omega) (by have := HL.out.2; omega) _, HIk.out.alloc _, ?_⟩
        intro W2 hj hsz2 hI2 _
        have x0 : Blk W2 W.heap.size 54 #[.int .i64 p, .int .i64 tg, .int .i64 (-1)] := (hj _ (by have := HL.out.2; omega)).trans (Blk.new W _ _)
        have y2 := x0.cell 2
        have y3 := hI2.2.2.2.1.cell0
        have y4 := hI2.2.2.2.1.frozen 0
        have H2 := hid hI2
        clear hI2 hj hsz2 x0
        gi_wp2
        exact ⟨(KeepsOthers.setCell _ _ _).from _, rfl, below_set H2.out.2.1 (by omega) _, H2.out.2.2.2.1.set0 _⟩
      · rw [hx]
        simp only [encO]
        have hpn : p < n := by omega
        have Hx := hid (And.intro hx (obAts_succ hk))
        clear hx
        gi_wp2
        refine ⟨(KeepsOthers.alloc _ _).from _, KpZ.alloc (by have := HL.out.2; omega) (by have := HL.out.2; omega) _, HIk.out.alloc _, ?_⟩
        intro W2 hj hsz2 hI2 _
        have x0 : Blk W2 W.heap.size 54 #[.int .i64 p, .int .i64 tg, .int .i64 s] := (hj _ (by have := HL.out.2; omega)).trans (Blk.new W _ _)
        have y0 := x0.cell 0
        have y2 := x0.cell 2
        obtain ⟨h0, h1, h2, h3, h4, h5⟩ := hI2
        have z1 := h5.cell0
        have z2 := h4.cell p
        rw [cellsB_get _ hpn] at z2
        have z3 := h4.frozen p
        have H2 := hid h2
        have H3 := hid h3
        have H4 := hid h4
        have H5 := hid h5
        have H1 := hid h1
        clear h1 h2 h3 h4 h5 hj hsz2 x0
        gi_wp2
        refine ⟨(KeepsOthers.setCell _ _ _).from _, KpZ.set_ (by omega) (by omega) (by omega) (by omega) _, by omega, below_set H1.out (by omega) _, H2.out.far (by dsimp only; omega) _, H3.out.far (by dsimp only; omega) _, ?_, H5.out.far (by dsimp only; omega) _⟩
        have hset := H4.out.set_ p (.bool true)
        rw [cellsB_set] at hset
        rw [Hx.out.2, Hx.out.1]
        simpa using hset
    case done =>
      intro D W _ hI _
      have := HI.out.1
      have := hI.1
      omega
    case stop =>
      rintro D cc k W hD _ ⟨rfl, hB, hR⟩ hK
      have x0 := hR.cell0
      gi_wp2
      have hD7 : w.heap.size + 1 < D := by rw [hsz.out] at hD; omega
      refine ⟨by simp, .inl ⟨_, _, rfl, run_takeDeferred hK, ?_⟩⟩
      have x1 : (W.putObj D (.deferred none)).cell? ⟨w.heap.size + 1, 0, none⟩ = some (.bool false) := Blk.cell0 (t := 4) ((World.putObj_heap_other (by omega)).trans hR)
      refine ⟨.bool false, by simp [results, Try.results16, go_sem, x1], rfl, ?_⟩
      exact hB.trans ((Below.refl _ W).grown (grownBy_putObj' W D _) hB.size (fun k e => by cases e; omega))
end Go.Proofs.Ytikdflppccbdaaa
