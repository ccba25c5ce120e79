/-
  THE WALK OF heap.Collect.
-/
import Derived.Test.YtikdflppccbdaaaHColN
namespace Go.Proofs.Ytikdflppccbdaaa
open Go.ChangeShapes Go.WideShapes Go.ChangeAt Go.RowKit

theorem OwnI.drew {w : World} {B : Nat} {v : Value} {xs : List Int} (h : OwnI w B v xs) : OwnI w.drew B v xs := ⟨World.ownsRow.drew h.own, h.wf⟩
/-- What a collection hands back lies in blocks of its own. -/
def ColNew (B : Nat) (e : Ending) : Prop := ∀ A n c r b t A2 m d k, e = .returned (.tuple #[.agg #[.slice A n c, .int .i64 r, .int .i64 b, .int .i64 t], .slice A2 m d, k]) → (∀ ad : Addr, A = some ad → B ≤ ad.block) ∧ (∀ ad : Addr, A2 = some ad → B ≤ ad.block)
theorem OwnI.fresh {w : World} {B : Nat} {A : Option Addr} {n c : Nat} {xs : List Int} (h : OwnI w B (.slice A n c) xs) : ∀ ad : Addr, A = some ad → B ≤ ad.block := by
  rintro ad rfl
  obtain ⟨⟨_, h2⟩, _⟩ := h
  rcases h2 with ⟨h2, _⟩ | ⟨g, cap, cur, e, hB, _⟩
  · cases h2
  · injection e with e1 _ _
    injection e1 with e1
    subst e1
    exact hB
theorem ColNew.own {w : World} {B G B0 n : Nat} {u k : Value} {r b t : Int} {xs : List Int} (hG : B ≤ G) (ho : OwnI w B0 u xs) (hB : B ≤ B0) : ColNew B (.returned (.tuple #[.agg #[.slice (some ⟨G, 0, none⟩) n n, .int .i64 r, .int .i64 b, .int .i64 t], u, k])) := by
  intro A n' c' r' b' t' A2 m d k' e
  simp only [Ending.returned.injEq, Value.tuple.injEq, Array.mk.injEq, List.cons.injEq, Value.agg.injEq, Value.slice.injEq, Value.int.injEq, true_and, and_true] at e
  obtain ⟨⟨⟨rfl, _⟩, _⟩, rfl, _⟩ := e
  refine ⟨fun ad h => ?_, fun ad h => Nat.le_trans hB (ho.fresh ad h)⟩
  injection h with h
  subst h
  exact hG
theorem ColNew.none_ {B : Nat} {k : Value} : ColNew B (.returned (.tuple #[.agg #[.slice none 0 0, .int .i64 0, .int .i64 0, .int .i64 0], .slice none 0 0, k])) := by
  intro A n' c' r' b' t' A2 m d k' e
  simp only [Ending.returned.injEq, Value.tuple.injEq, Array.mk.injEq, List.cons.injEq, Value.agg.injEq, Value.slice.injEq, Value.int.injEq, true_and, and_true] at e
  obtain ⟨⟨⟨rfl, _⟩, _⟩, ⟨rfl, _⟩, _⟩ := e
  exact ⟨fun ad h => (by cases h), fun ad h => (by cases h)⟩
set_option maxHeartbeats 4000000 in
set_option maxRecDepth 100000 in
theorem heap_CollectF (B : Nat) (v rv : Value) (h : Hp) (roots : List Int) (w : World) (hBw : B ≤ w.heap.size) (i1 : IsHp w B v h) (i2 : IsInts w B rv roots) (hn6 : h.ws.length ≤ 6000) :
    Calls Try.prog 22 #[v, rv] w fun e w' => (ColAns (collectP h roots) e w' ∧ Below w.heap.size w w') ∧ ColNew w.heap.size e := by
  obtain ⟨A, n, c, rfl, g1⟩ := i1
  obtain ⟨A2, m, d, rfl, g2⟩ := i2
  obtain ⟨ws, room, base, top⟩ := h
  dsimp only at g1 hn6 ⊢
  have en := g1.len
  have em := g2.len
  have HN : Hid ((Hp.mk ws room base top).ws.length ≤ 6000) := hid hn6
  have G1 := hid g1
  have G2 := hid g2
  clear g1 g2
  by_cases h2 : GoodP ⟨ws, room, base, top⟩ roots
  · have HG := hid (decide_eq_true h2)
    have HA := hid (show collectP ⟨ws, room, base, top⟩ roots = _ from if_pos h2)
    have hs : ShapedP n room base top := by rw [en]; exact h2.1
    have hm : m ≤ 64 := by rw [em]; exact h2.2.1
    obtain ⟨sts, hst⟩ : ∃ sts, stl (gw ws) top.toNat base.toNat = some sts := by obtain ⟨_, _, s, h, _⟩ := h2; exact ⟨s, h⟩
    have hgr := hg_of_good h2 hst
    dsimp only [colB] at hgr
    rw [← en, ← em] at hgr
    have HGR := hid hgr
    have hsm : 0 ≤ base ∧ base ≤ room ∧ 64 ≤ room ∧ room ≤ 3000 ∧ n ≤ 6000 ∧ (n : Int) = 2 * room := by unfold ShapedP at hs; omega
    obtain ⟨b1, b2, b3, b4, b5, b6⟩ := hsm
    have hmk := make_ints n (by omega)
    have hmm := @run_makeMap Try.prog
    obtain ⟨bb, hbb⟩ : ∃ bb : Nat, (bb : Int) = room - base := ⟨(room - base).toNat, by omega⟩
    have HBB := hid hbb
    have HE := hid (And.intro en em)
    have HB6 := hid b6
    clear h2 hs hst hgr hn6 en em hbb b6
    go_enter Try.func22, Try.ntmps22
    go_wp2_with (first | (go_at_call 16; go_must (refine (heap_Good B _ _ ⟨ws, _, _, _⟩ roots _ (by first | (simp; done) | (simp; omega) | omega) ⟨A, n, c, rfl, G1.out.below (by go_grown : Below B w _) (Nat.le_refl _)⟩ ⟨A2, m, d, rfl, G2.out.below (by go_grown : Below B w _) (Nat.le_refl _)⟩ HN.out).mono ?_); rw [HG.out]; rintro e w1 ⟨rfl, hb⟩; go_must (have hX := hid (Blk.below ((Blk.new w 24 _).alloc _) hb (by first | (simp; done) | (simp; omega) | omega))); go_must (have hR := hid (Blk.below (Blk.new' (g := w.heap.size + 1) (by simp) 24 _) hb (by first | (simp; done) | (simp; omega) | omega))); obtain ⟨x0, x1, x2, x3, f0, f1, f2, f3⟩ := hX.out.four; obtain ⟨y0, y1, y2, y3, k0, k1, k2, k3⟩ := hR.out.four; have hB := hid (below_then (B := w.heap.size) (w := w) hb (by go_grown) (by first | (simp; done) | (simp; omega) | omega)); clear hb))
    rw [← HBB.out]
    have hb3 : bb ≤ 3000 := by have := HBB.out; omega
    have a1 : ∀ o, (w1.drew.alloc o).cell? ⟨w.heap.size, 0, none⟩ = some (.slice A n c) ∧ (w1.drew.alloc o).cell? ⟨w.heap.size, 1, none⟩ = some (.int .i64 room) ∧ (w1.drew.alloc o).cell? ⟨w.heap.size, 2, none⟩ = some (.int .i64 base) ∧ (w1.drew.alloc o).cell? ⟨w.heap.size, 3, none⟩ = some (.int .i64 top) := fun o => ⟨(hX.out.drew.alloc o).cell 0, (hX.out.drew.alloc o).cell 1, (hX.out.drew.alloc o).cell 2, (hX.out.drew.alloc o).cell 3⟩
    have a2 : ∀ o o', ((w1.drew.alloc o).alloc o').cell? ⟨w.heap.size, 0, none⟩ = some (.slice A n c) ∧ ((w1.drew.alloc o).alloc o').cell? ⟨w.heap.size, 1, none⟩ = some (.int .i64 room) ∧ ((w1.drew.alloc o).alloc o').cell? ⟨w.heap.size, 2, none⟩ = some (.int .i64 base) ∧ ((w1.drew.alloc o).alloc o').cell? ⟨w.heap.size, 3, none⟩ = some (.int .i64 top) := fun o o' => ⟨((hX.out.drew.alloc o).alloc o').cell 0, ((hX.out.drew.alloc o).alloc o').cell 1, ((hX.out.drew.alloc o).alloc o').cell 2, ((hX.out.drew.alloc o).alloc o').cell 3⟩
    have a3 : ∀ o o' o2, (((w1.drew.alloc o).alloc o').alloc o2).cell? ⟨w.heap.size, 0, none⟩ = some (.slice A n c) ∧ (((w1.drew.alloc o).alloc o').alloc o2).cell? ⟨w.heap.size, 1, none⟩ = some (.int .i64 room) ∧ (((w1.drew.alloc o).alloc o').alloc o2).cell? ⟨w.heap.size, 2, none⟩ = some (.int .i64 base) ∧ (((w1.drew.alloc o).alloc o').alloc o2).cell? ⟨w.heap.size, 3, none⟩ = some (.int .i64 top) := fun o o' o2 => ⟨(((hX.out.drew.alloc o).alloc o').alloc o2).cell 0, (((hX.out.drew.alloc o).alloc o').alloc o2).cell 1, (((hX.out.drew.alloc o).alloc o').alloc o2).cell 2, (((hX.out.drew.alloc o).alloc o').alloc o2).cell 3⟩
    go_region_held3 (fun w' => w'.cell? ⟨w.heap.size, 0, none⟩ = some (.slice A n c) ∧ w'.cell? ⟨w.heap.size, 1, none⟩ = some (.int .i64 room) ∧ w'.cell? ⟨w.heap.size, 2, none⟩ = some (.int .i64 base) ∧ w'.cell? ⟨w.heap.size, 3, none⟩ = some (.int .i64 top)) (first | exact a1 _ | exact a2 _ _ | exact a3 _ _ _ | go_keep) (fail)
    · refine (?_ : Exit.then _ _ Exit.normal _ (HW1 w1 A n c bb))
      have hcw := HW1_facts w1 A n c bb b5
      have hz : w.heap.size + 1 < w1.heap.size := hR.out.lt
      have hX1 := hX.out.below hcw.2.2 (by omega)
      have hR1 := hR.out.below hcw.2.2 hz
      have hB1 := hB.out.trans (hcw.2.2.mono hB.out.size)
      have hsz := hcw.2.1
      have hrs := hcw.1
      generalize HW1 w1 A n c bb = W0 at hcw hX1 hR1 hB1 hsz hrs ⊢
      have HSZ := hid hsz
      have HST := hid (And.intro (Own.nil W0 W0.heap.size 3) (And.intro hrs (And.intro hX1 (And.intro hR1 hB1))))
      clear hcw hX1 hR1 hB1 hX hR hB a1 a2 a3 hsz hrs hmk hmm
      clear x0 x1 x2 x3 f0 f1 f2 f3 y0 y1 y2 y3 k0 k1 k2 k3
      have hG := HGR.out.1
      rw [show (room - base).toNat = bb from by have := HBB.out; omega] at hG
      have HG1 := hid hG
      clear hG
      go_wp2
      go_loopg [9, 39] m (fun gk xo xi wr => ∃ j : Nat, j + gk = m ∧ xi = .int .i64 j ∧ Hid (OwnI wr W0.heap.size xo (outR (gw ws) ⟨fun _ => 0, bb, fun _ => 0⟩ (gw roots) (j))) ∧ Hid (PSt wr (w1.heap.size + 1 + 1) (w1.heap.size) (w1.heap.size + 1) A n c (stR (gw ws) ⟨fun _ => 0, bb, fun _ => 0⟩ (gw roots) (j))) ∧ Hid (LI (gw ws) sts bb bb (stR (gw ws) ⟨fun _ => 0, bb, fun _ => 0⟩ (gw roots) (j))) ∧ Hid (Below w.heap.size w wr ∧ W0.heap.size ≤ wr.heap.size) ∧ Hid (Blk wr w.heap.size 24 #[.slice A n c, .int .i64 room, .int .i64 base, .int .i64 top]) ∧ Hid (Blk wr (w.heap.size + 1) 24 #[.slice none 0 0, .int .i64 0, .int .i64 0, .int .i64 0]))
      case atStart => exact ⟨0, by omega, rfl, hid (OwnI.nil _ _), hid HST.out.2.1, hid (LI.start _ _ _), hid ⟨HST.out.2.2.2.2, Nat.le_refl _⟩, hid HST.out.2.2.1, hid HST.out.2.2.2.1⟩
      case round =>
        obtain ⟨j, hj, rfl, ho, hr, hl, hB, hX, hR⟩ := hrel
        have Hj := hid hj
        by_cases hlt : j < m
        · obtain ⟨ad, rfl⟩ := G2.out.some_ hlt
          have q1 := (G2.out.below (hB.out.1.mono hBw) (Nat.le_refl _)).cell hlt
          have hw := hid (G2.out.wf_at hlt)
          have HWB := hid (HGR.out.2 j hlt)
          obtain ⟨mvl, hmi⟩ := hl.out.mi
          have HMI := hid hmi
          clear hj hmi
          go_wp2_with (first | (go_at_call 42; go_must (refine (mover_word B _ _ _ A n c ws _ _ _ sts mvl bb _ hr.out (G1.out.below (hB.out.1.mono hBw) (Nat.le_refl _)) (by omega) (by omega) (by omega) (by omega) (by omega) b5 HWB.out hw.out HMI.out HG1.out).mono ?_); rintro e w2 ⟨rfl, hr2, hk2⟩; go_must (have ho2 := hid (ho.out.keeps3 hk2 (by have := HSZ.out; omega) (by have := HSZ.out; omega) (by have := HSZ.out; omega)); have hB2 := hid (And.intro (hk2.below hB.out.1 (by omega) (by omega) (by omega) hB.out.1.size) (Nat.le_trans hB.out.2 hk2.size)); have hX2 := hid (hk2.blk hX.out (by omega) (by omega) (by omega)); have hR2 := hid (hk2.blk hR.out (by omega) (by omega) (by omega)); have Hr2 := hid hr2; have hl2 := hid (hl.out.root HG1.out HWB.out); obtain ⟨mv2, hm2⟩ := hl2.out.mi; have hvw := hid (mvv_wf hm2 (by have := (hm2.le HG1.out).2; omega) hw.out); clear hr2 hk2 hm2)) | (at_builtin; go_must (refine wpList_appI (by rfl) _ _ (by rfl) W0.heap.size (by rfl) (ho2.out.alloc _) (by rfl) (ints_one (B := w2.heap.size + 1) rfl (by omega) hvw.out) (by rw [outR_length]; omega) (by have := hB2.out.2; simp; omega) ?_); intro A3 c3 w3 ho3 hgx hbb3; go_must (have hbX := hbb3 W0.heap.size w2 (Nat.le_refl _) ((Below.refl _ w2).alloc hB2.out.2 _); have Hr3 := hid (Hr2.out.below hbX (by have := HSZ.out; omega) (by have := HSZ.out; omega) (by have := HSZ.out; omega)); have hX3 := hid (hX2.out.below hbX (by have := HSZ.out; omega)); have hR3 := hid (hR2.out.below hbX (by have := HSZ.out; omega)); have hB3 := hid (And.intro (hB2.out.1.trans (hbX.mono (by have := HSZ.out; omega))) (Nat.le_trans hB2.out.2 hbX.size)); have HO3 := hid ho3; clear hgx hbb3 hbX ho3)))
          have hgk := Hj.out
          go_roundg (gk - 1)
          case rel => exact ⟨j + 1, by omega, by go_num, HO3, Hr3, hl2, hB3, hX3, hR3⟩
          case measure => omega
        · obtain rfl : j = m := by omega
          clear hj Hj hlt
          go_wp2
          go_loopg [12] room.toNat (fun gk xa wr => ∃ (a : Nat) (st : St), xa = .int .i64 a ∧ Hid (scan (gw ws) gk st a = scan (gw ws) room.toNat (stR (gw ws) ⟨fun _ => 0, bb, fun _ => 0⟩ (gw roots) (j)) bb) ∧ Hid (bb + room.toNat ≤ a + gk) ∧ Hid (LI (gw ws) sts bb a st) ∧ Hid (OwnI wr W0.heap.size u9 (outR (gw ws) ⟨fun _ => 0, bb, fun _ => 0⟩ (gw roots) (j))) ∧ Hid (PSt wr (w1.heap.size + 1 + 1) (w1.heap.size) (w1.heap.size + 1) A n c st) ∧ Hid (Below w.heap.size w wr ∧ W0.heap.size ≤ wr.heap.size) ∧ Hid (Blk wr w.heap.size 24 #[.slice A n c, .int .i64 room, .int .i64 base, .int .i64 top]) ∧ Hid (Blk wr (w.heap.size + 1) 24 #[.slice none 0 0, .int .i64 0, .int .i64 0, .int .i64 0]))
          case atStart => exact ⟨bb, _, rfl, hid rfl, hid (Nat.le_refl _), hl, ho, hr, hB, hX, hR⟩
          case round =>
            obtain ⟨a, st, rfl, hs2, hf2, hl2, ho2, hr2, hB2, hX2, hR2⟩ := hrel
            have htop := (by obtain ⟨mv9, hm9⟩ := hl2.out.mi; exact (hm9.le HG1.out).2 : st.top ≤ bb + room.toNat)
            have hbn : bb + room.toNat ≤ n := HG1.out.lim
            obtain ⟨x0, x1, x2, x3, f0, f1, f2, f3⟩ := hr2.out.blk.four
            clear x0 x3 f0 f1 f2 f3
            by_cases hat : a < st.top
            · obtain ⟨gp, rfl⟩ : ∃ gp, gk = gp + 1 := ⟨gk - 1, by have := hf2.out; omega⟩
              have hbeg := hl2.out.begin HG1.out hat
              have hOV := hid (ofV_yes hbeg.1)
              have hs64 := ofS_le hbeg.1
              have hstep := hid ((scan_step hat).symm.trans hs2.out)
              have q1 := hr2.out.to.cell (show a < n by omega)
              rw [gw_tab (show a < n by omega)] at q1
              have hw := hid (tab_wf hr2.out.to (show a < n by omega))
              have HOI := hid hbeg.2.2
              have has := hbeg.2.1
              clear hbeg
              obtain ⟨s, hss⟩ : ∃ s, s = ofS (st.to a) := ⟨_, rfl⟩
              rw [← hss] at hOV hs64 hstep HOI has
              clear hss
              go_wp2_with (go_at_call 43; go_must (refine (cells_Of _ hw.out _).mono ?_); rw [hOV.out]; rintro e w2 ⟨rfl, rfl⟩)
              go_loopg [16] s (fun gj y w3 => ∃ (i : Nat) (st' : St), i + gj = s ∧ y = .int .i64 ((a + 1 + i : Nat) : Int) ∧ Hid (scanO (gw ws) gj st' (a + 1 + i) = scanO (gw ws) s st (a + 1)) ∧ Hid (OI (gw ws) n sts bb gj (a + 1 + i) st') ∧ Hid (OwnI w3 W0.heap.size u9 (outR (gw ws) ⟨fun _ => 0, bb, fun _ => 0⟩ (gw roots) (j))) ∧ Hid (PSt w3 (w1.heap.size + 1 + 1) (w1.heap.size) (w1.heap.size + 1) A n c st') ∧ Hid (Below w.heap.size w w3 ∧ W0.heap.size ≤ w3.heap.size) ∧ Hid (Blk w3 w.heap.size 24 #[.slice A n c, .int .i64 room, .int .i64 base, .int .i64 top]) ∧ Hid (Blk w3 (w.heap.size + 1) 24 #[.slice none 0 0, .int .i64 0, .int .i64 0, .int .i64 0]))
              case atStart => exact ⟨0, st, by omega, by rw [show ((a + 1 + 0 : Nat) : Int) = (a : Int) + 1 from by omega], hid rfl, HOI, ho2, hr2, hB2, hX2, hR2⟩
              case round =>
                obtain ⟨i, st', hi, rfl, hs3, hoi3, ho3, hr3, hB3, hX3, hR3⟩ := hrel
                have Hi := hid hi
                by_cases hlt : i < s
                · obtain ⟨gq, rfl⟩ : ∃ gq, gk = gq + 1 := ⟨gk - 1, by omega⟩
                  obtain ⟨hwb, hit, mv4, hm4⟩ := hoi3.out.word
                  have hle4 := (hm4.le HG1.out).2
                  obtain ⟨q, hqe⟩ : ∃ q : Nat, a + 1 + i = q := ⟨_, rfl⟩
                  rw [hqe] at hwb hit ⊢
                  have hq2 : (q : Int) ≤ (a : Int) + (s : Int) := by omega
                  have hqn : q < n := by omega
                  have HWB := hid hwb
                  have HMI := hid hm4
                  obtain ⟨x0, x1, x2, x3, f0, f1, f2, f3⟩ := hr3.out.blk.four
                  clear x0 x2 x3 f0 f1 f2 f3
                  have q2 := hr3.out.to.cell hqn
                  rw [gw_tab hqn] at q2
                  have hw2 := hid (tab_wf hr3.out.to hqn)
                  have HQE := hid hqe
                  have hqw : IntKind.i64.wrap (q : Int) = (q : Int) := IntWalk.i64_in _ (by omega)
                  have hqi : (q : Int) < (n : Int) := by omega
                  have hq0 : (0 : Int) ≤ (q : Int) := by omega
                  have hoi4 := hoi3.out.step HG1.out
                  rw [hqe] at hoi4
                  have HOI4 := hid hoi4
                  obtain ⟨mv5, _, hm5, _⟩ := hoi4
                  have hvw := hid (mvv_wf hm5 (by have := (hm5.le HG1.out).2; omega) hw2.out)
                  clear hwb hm4 q1 hi hit hqe hm5
                  go_wp2
                  go_region_with (go_at_call 42; refine (mover_word B _ _ _ A n c ws st' (st'.to q) _ sts mv4 bb _ (by first | exact hr3.out.drew | exact hr3.out) (by exact G1.out.below (Below.drew (hB3.out.1.mono hBw)) (Nat.le_refl _)) (by omega) (by omega) (by omega) (by omega) (by omega) b5 HWB.out hw2.out HMI.out HG1.out).mono ?_; rintro e w4 ⟨rfl, hr4, hk4⟩; have x1b := hr4.blk.four.2.1; have q3 := hr4.to.cell hqn; rw [gw_tab hqn] at q3; have f3 := hr4.to.frozen q; have Hr4 := hid hr4; have Hk4 := hid hk4.of_drew; clear hr4 hk4)
                  all_goals go_wp2
                  all_goals
                    go_roundg gq
                    case rel =>
                      have e9 := HQE.out
                      refine ⟨i + 1, mvo (gw ws) st' q, by have := Hi.out; omega, by rw [show (q : Int) + 1 = ((a + 1 + (i + 1) : Nat) : Int) from by have := HQE.out; omega], hid ?_, hid ?_, hid ((ho3.out.keeps3 Hk4.out (by have := HSZ.out; omega) (by have := HSZ.out; omega) (by have := HSZ.out; omega)).set_ (by have := HSZ.out; dsimp only; omega) _), hid (Hr4.out.mvo hqn hvw.out (by omega) (by omega)), hid ⟨below_set (Hk4.out.below hB3.out.1 (by omega) (by omega) (by omega) hB3.out.1.size) (by omega) _, by simp only [World.setCell, Array.size_modify]; exact Nat.le_trans hB3.out.2 Hk4.out.size⟩, hid ((Hk4.out.blk hX3.out (by omega) (by omega) (by omega)).far (by dsimp only; omega) _), hid ((Hk4.out.blk hR3.out (by omega) (by omega) (by omega)).far (by dsimp only; omega) _)⟩
                      · have h8 := hs3.out
                        rw [e9] at h8
                        rw [show a + 1 + (i + 1) = q + 1 from by omega]
                        exact h8
                      · rw [show a + 1 + (i + 1) = q + 1 from by omega]
                        exact HOI4.out
                    case measure => omega
                · obtain rfl : gk = 0 := by omega
                  obtain rfl : i = s := by omega
                  obtain ⟨q, hqe⟩ : ∃ q : Nat, a + 1 + i = q := ⟨_, rfl⟩
                  rw [hqe]
                  have hq2 : (a : Int) + (i : Int) < (q : Int) := by omega
                  have hq3 : q ≤ 6100 := by omega
                  have HQE := hid hqe
                  clear hi hlt q1 hqe
                  go_wp2
                  go_roundg gp
                  case rel =>
                    refine ⟨a + i + 1, st', by go_num, hid ?_, hid (by have := hf2.out; omega), hid ?_, ho3, hr3, hB3, hX3, hR3⟩
                    · have h8 := hs3.out
                      have h9 := hstep.out
                      rw [← h8] at h9
                      exact h9
                    · have h8 := hoi3.out.done
                      rwa [show a + 1 + i = a + i + 1 from by omega] at h8
                  case measure => omega
            · have hfin := (scan_done hat).symm.trans hs2.out
              have HF := hid hfin
              obtain ⟨y0, y1, y2, y3, k0, k1, k2, k3⟩ := hR2.out.four
              obtain ⟨z0, z1, z2, z3, _, _, _, _⟩ := hX2.out.four
              have n1 : ¬ w.heap.size = w.heap.size + 1 := by omega
              have n2 : ¬ w1.heap.size + 1 + 1 = w.heap.size + 1 := by omega
              have n3 : ¬ w.heap.size + 1 = w1.heap.size + 1 + 1 := by omega
              have n4 : ¬ w1.heap.size + 1 = w.heap.size := by omega
              have n5 : ¬ w.heap.size = w1.heap.size + 1 := by omega
              clear hfin
              go_wp2
              go_region_held3 (fun w' => w'.cell? ⟨w1.heap.size + 1 + 1, 1, none⟩ = some (.slice (some ⟨w1.heap.size, 0, none⟩) n n) ∧ w'.cell? ⟨w1.heap.size + 1 + 1, 2, none⟩ = some (.int .i64 st.top) ∧ w'.cell? ⟨w.heap.size, 1, none⟩ = some (.int .i64 room)) (go_keep) (fail)
              all_goals go_wp2
              refine bodyPost_ret (v := .tuple #[.agg #[.slice (some ⟨w1.heap.size, 0, none⟩) n n, .int .i64 room, .int .i64 (bb : Int), .int .i64 (st.top : Int)], u9, .int .i64 0]) (by simp [results, Try.results22, go_sem, y0, y1, y2, y3]) rfl ?_
              refine ⟨⟨?_, by repeat (first | exact hB2.out.1 | refine below_set ?_ (by omega) _ | refine Below.drew ?_)⟩, ColNew.own (by omega) ho2.out (by have := HSZ.out; omega)⟩
              rw [HA.out]
              have ec : colS ⟨ws, room, base, top⟩ roots = st := by
                unfold colS colR colB
                dsimp only
                rw [← HE.out.2, show (room - base).toNat = bb from by have := HBB.out; omega]
                exact HF.out.symm
              have eb : colB ⟨ws, room, base, top⟩ = bb := by unfold colB; dsimp only; have := HBB.out; omega
              refine ⟨_, _, rfl, ⟨some ⟨w1.heap.size, 0, none⟩, n, n, ?_, ?_⟩, ?_⟩
              · dsimp only
                rw [ec, HBB.out]
              · dsimp only
                rw [ec, ← HE.out.1]
                refine Row.ints ?_ (by simpa [World.setCell, World.drew] using hr2.out.to.lt)
                repeat (first | exact hr2.out.to | refine Row.far ?_ (by dsimp only; omega) _ | refine Row.drew ?_)
              · dsimp only
                rw [eb, ← HE.out.2]
                refine OwnI.isInts (B := W0.heap.size) ?_
                have h9 := HSZ.out
                repeat (first | exact ho2.out | refine OwnI.set_ ?_ (by dsimp only; omega) _ | refine OwnI.drew ?_)
    · refine (?_ : Exit.then _ _ Exit.normal _ (HW2 w1 A n c bb))
      have hcw := HW2_facts w1 A n c bb b5
      have hz : w.heap.size + 1 < w1.heap.size := hR.out.lt
      have hX1 := hX.out.below hcw.2.2 (by omega)
      have hR1 := hR.out.below hcw.2.2 hz
      have hB1 := hB.out.trans (hcw.2.2.mono hB.out.size)
      have hsz := hcw.2.1
      have hrs := hcw.1
      generalize HW2 w1 A n c bb = W0 at hcw hX1 hR1 hB1 hsz hrs ⊢
      have HSZ := hid hsz
      have HST := hid (And.intro (Own.nil W0 W0.heap.size 3) (And.intro hrs (And.intro hX1 (And.intro hR1 hB1))))
      clear hcw hX1 hR1 hB1 hX hR hB a1 a2 a3 hsz hrs hmk hmm
      clear x0 x1 x2 x3 f0 f1 f2 f3 y0 y1 y2 y3 k0 k1 k2 k3
      have hG := HGR.out.1
      rw [show (room - base).toNat = bb from by have := HBB.out; omega] at hG
      have HG1 := hid hG
      clear hG
      go_wp2
      go_loopg [9, 39] m (fun gk xo xi wr => ∃ j : Nat, j + gk = m ∧ xi = .int .i64 j ∧ Hid (OwnI wr W0.heap.size xo (outR (gw ws) ⟨fun _ => 0, bb, fun _ => 0⟩ (gw roots) (j))) ∧ Hid (PSt wr (w1.heap.size + 1 + 1) (w1.heap.size + 1) (w1.heap.size) A n c (stR (gw ws) ⟨fun _ => 0, bb, fun _ => 0⟩ (gw roots) (j))) ∧ Hid (LI (gw ws) sts bb bb (stR (gw ws) ⟨fun _ => 0, bb, fun _ => 0⟩ (gw roots) (j))) ∧ Hid (Below w.heap.size w wr ∧ W0.heap.size ≤ wr.heap.size) ∧ Hid (Blk wr w.heap.size 24 #[.slice A n c, .int .i64 room, .int .i64 base, .int .i64 top]) ∧ Hid (Blk wr (w.heap.size + 1) 24 #[.slice none 0 0, .int .i64 0, .int .i64 0, .int .i64 0]))
      case atStart => exact ⟨0, by omega, rfl, hid (OwnI.nil _ _), hid HST.out.2.1, hid (LI.start _ _ _), hid ⟨HST.out.2.2.2.2, Nat.le_refl _⟩, hid HST.out.2.2.1, hid HST.out.2.2.2.1⟩
      case round =>
        obtain ⟨j, hj, rfl, ho, hr, hl, hB, hX, hR⟩ := hrel
        have Hj := hid hj
        by_cases hlt : j < m
        · obtain ⟨ad, rfl⟩ := G2.out.some_ hlt
          have q1 := (G2.out.below (hB.out.1.mono hBw) (Nat.le_refl _)).cell hlt
          have hw := hid (G2.out.wf_at hlt)
          have HWB := hid (HGR.out.2 j hlt)
          obtain ⟨mvl, hmi⟩ := hl.out.mi
          have HMI := hid hmi
          clear hj hmi
          go_wp2_with (first | (go_at_call 42; go_must (refine (mover_word B _ _ _ A n c ws _ _ _ sts mvl bb _ hr.out (G1.out.below (hB.out.1.mono hBw) (Nat.le_refl _)) (by omega) (by omega) (by omega) (by omega) (by omega) b5 HWB.out hw.out HMI.out HG1.out).mono ?_); rintro e w2 ⟨rfl, hr2, hk2⟩; go_must (have ho2 := hid (ho.out.keeps3 hk2 (by have := HSZ.out; omega) (by have := HSZ.out; omega) (by have := HSZ.out; omega)); have hB2 := hid (And.intro (hk2.below hB.out.1 (by omega) (by omega) (by omega) hB.out.1.size) (Nat.le_trans hB.out.2 hk2.size)); have hX2 := hid (hk2.blk hX.out (by omega) (by omega) (by omega)); have hR2 := hid (hk2.blk hR.out (by omega) (by omega) (by omega)); have Hr2 := hid hr2; have hl2 := hid (hl.out.root HG1.out HWB.out); obtain ⟨mv2, hm2⟩ := hl2.out.mi; have hvw := hid (mvv_wf hm2 (by have := (hm2.le HG1.out).2; omega) hw.out); clear hr2 hk2 hm2)) | (at_builtin; go_must (refine wpList_appI (by rfl) _ _ (by rfl) W0.heap.size (by rfl) (ho2.out.alloc _) (by rfl) (ints_one (B := w2.heap.size + 1) rfl (by omega) hvw.out) (by rw [outR_length]; omega) (by have := hB2.out.2; simp; omega) ?_); intro A3 c3 w3 ho3 hgx hbb3; go_must (have hbX := hbb3 W0.heap.size w2 (Nat.le_refl _) ((Below.refl _ w2).alloc hB2.out.2 _); have Hr3 := hid (Hr2.out.below hbX (by have := HSZ.out; omega) (by have := HSZ.out; omega) (by have := HSZ.out; omega)); have hX3 := hid (hX2.out.below hbX (by have := HSZ.out; omega)); have hR3 := hid (hR2.out.below hbX (by have := HSZ.out; omega)); have hB3 := hid (And.intro (hB2.out.1.trans (hbX.mono (by have := HSZ.out; omega))) (Nat.le_trans hB2.out.2 hbX.size)); have HO3 := hid ho3; clear hgx hbb3 hbX ho3)))
          have hgk := Hj.out
          go_roundg (gk - 1)
          case rel => exact ⟨j + 1, by omega, by go_num, HO3, Hr3, hl2, hB3, hX3, hR3⟩
          case measure => omega
        · obtain rfl : j = m := by omega
          clear hj Hj hlt
          go_wp2
          go_loopg [12] room.toNat (fun gk xa wr => ∃ (a : Nat) (st : St), xa = .int .i64 a ∧ Hid (scan (gw ws) gk st a = scan (gw ws) room.toNat (stR (gw ws) ⟨fun _ => 0, bb, fun _ => 0⟩ (gw roots) (j)) bb) ∧ Hid (bb + room.toNat ≤ a + gk) ∧ Hid (LI (gw ws) sts bb a st) ∧ Hid (OwnI wr W0.heap.size u9 (outR (gw ws) ⟨fun _ => 0, bb, fun _ => 0⟩ (gw roots) (j))) ∧ Hid (PSt wr (w1.heap.size + 1 + 1) (w1.heap.size + 1) (w1.heap.size) A n c st) ∧ Hid (Below w.heap.size w wr ∧ W0.heap.size ≤ wr.heap.size) ∧ Hid (Blk wr w.heap.size 24 #[.slice A n c, .int .i64 room, .int .i64 base, .int .i64 top]) ∧ Hid (Blk wr (w.heap.size + 1) 24 #[.slice none 0 0, .int .i64 0, .int .i64 0, .int .i64 0]))
          case atStart => exact ⟨bb, _, rfl, hid rfl, hid (Nat.le_refl _), hl, ho, hr, hB, hX, hR⟩
          case round =>
            obtain ⟨a, st, rfl, hs2, hf2, hl2, ho2, hr2, hB2, hX2, hR2⟩ := hrel
            have htop := (by obtain ⟨mv9, hm9⟩ := hl2.out.mi; exact (hm9.le HG1.out).2 : st.top ≤ bb + room.toNat)
            have hbn : bb + room.toNat ≤ n := HG1.out.lim
            obtain ⟨x0, x1, x2, x3, f0, f1, f2, f3⟩ := hr2.out.blk.four
            clear x0 x3 f0 f1 f2 f3
            by_cases hat : a < st.top
            · obtain ⟨gp, rfl⟩ : ∃ gp, gk = gp + 1 := ⟨gk - 1, by have := hf2.out; omega⟩
              have hbeg := hl2.out.begin HG1.out hat
              have hOV := hid (ofV_yes hbeg.1)
              have hs64 := ofS_le hbeg.1
              have hstep := hid ((scan_step hat).symm.trans hs2.out)
              have q1 := hr2.out.to.cell (show a < n by omega)
              rw [gw_tab (show a < n by omega)] at q1
              have hw := hid (tab_wf hr2.out.to (show a < n by omega))
              have HOI := hid hbeg.2.2
              have has := hbeg.2.1
              clear hbeg
              obtain ⟨s, hss⟩ : ∃ s, s = ofS (st.to a) := ⟨_, rfl⟩
              rw [← hss] at hOV hs64 hstep HOI has
              clear hss
              go_wp2_with (go_at_call 43; go_must (refine (cells_Of _ hw.out _).mono ?_); rw [hOV.out]; rintro e w2 ⟨rfl, rfl⟩)
              go_loopg [16] s (fun gj y w3 => ∃ (i : Nat) (st' : St), i + gj = s ∧ y = .int .i64 ((a + 1 + i : Nat) : Int) ∧ Hid (scanO (gw ws) gj st' (a + 1 + i) = scanO (gw ws) s st (a + 1)) ∧ Hid (OI (gw ws) n sts bb gj (a + 1 + i) st') ∧ Hid (OwnI w3 W0.heap.size u9 (outR (gw ws) ⟨fun _ => 0, bb, fun _ => 0⟩ (gw roots) (j))) ∧ Hid (PSt w3 (w1.heap.size + 1 + 1) (w1.heap.size + 1) (w1.heap.size) A n c st') ∧ Hid (Below w.heap.size w w3 ∧ W0.heap.size ≤ w3.heap.size) ∧ Hid (Blk w3 w.heap.size 24 #[.slice A n c, .int .i64 room, .int .i64 base, .int .i64 top]) ∧ Hid (Blk w3 (w.heap.size + 1) 24 #[.slice none 0 0, .int .i64 0, .int .i64 0, .int .i64 0]))
              case atStart => exact ⟨0, st, by omega, by rw [show ((a + 1 + 0 : Nat) : Int) = (a : Int) + 1 from by omega], hid rfl, HOI, ho2, hr2, hB2, hX2, hR2⟩
              case round =>
                obtain ⟨i, st', hi, rfl, hs3, hoi3, ho3, hr3, hB3, hX3, hR3⟩ := hrel
                have Hi := hid hi
                by_cases hlt : i < s
                · obtain ⟨gq, rfl⟩ : ∃ gq, gk = gq + 1 := ⟨gk - 1, by omega⟩
                  obtain ⟨hwb, hit, mv4, hm4⟩ := hoi3.out.word
                  have hle4 := (hm4.le HG1.out).2
                  obtain ⟨q, hqe⟩ : ∃ q : Nat, a + 1 + i = q := ⟨_, rfl⟩
                  rw [hqe] at hwb hit ⊢
                  have hq2 : (q : Int) ≤ (a : Int) + (s : Int) := by omega
                  have hqn : q < n := by omega
                  have HWB := hid hwb
                  have HMI := hid hm4
                  obtain ⟨x0, x1, x2, x3, f0, f1, f2, f3⟩ := hr3.out.blk.four
                  clear x0 x2 x3 f0 f1 f2 f3
                  have q2 := hr3.out.to.cell hqn
                  rw [gw_tab hqn] at q2
                  have hw2 := hid (tab_wf hr3.out.to hqn)
                  have HQE := hid hqe
                  have hqw : IntKind.i64.wrap (q : Int) = (q : Int) := IntWalk.i64_in _ (by omega)
                  have hqi : (q : Int) < (n : Int) := by omega
                  have hq0 : (0 : Int) ≤ (q : Int) := by omega
                  have hoi4 := hoi3.out.step HG1.out
                  rw [hqe] at hoi4
                  have HOI4 := hid hoi4
                  obtain ⟨mv5, _, hm5, _⟩ := hoi4
                  have hvw := hid (mvv_wf hm5 (by have := (hm5.le HG1.out).2; omega) hw2.out)
                  clear hwb hm4 q1 hi hit hqe hm5
                  go_wp2
                  go_region_with (go_at_call 42; refine (mover_word B _ _ _ A n c ws st' (st'.to q) _ sts mv4 bb _ (by first | exact hr3.out.drew | exact hr3.out) (by exact G1.out.below (Below.drew (hB3.out.1.mono hBw)) (Nat.le_refl _)) (by omega) (by omega) (by omega) (by omega) (by omega) b5 HWB.out hw2.out HMI.out HG1.out).mono ?_; rintro e w4 ⟨rfl, hr4, hk4⟩; have x1b := hr4.blk.four.2.1; have q3 := hr4.to.cell hqn; rw [gw_tab hqn] at q3; have f3 := hr4.to.frozen q; have Hr4 := hid hr4; have Hk4 := hid hk4.of_drew; clear hr4 hk4)
                  all_goals go_wp2
                  all_goals
                    go_roundg gq
                    case rel =>
                      have e9 := HQE.out
                      refine ⟨i + 1, mvo (gw ws) st' q, by have := Hi.out; omega, by rw [show (q : Int) + 1 = ((a + 1 + (i + 1) : Nat) : Int) from by have := HQE.out; omega], hid ?_, hid ?_, hid ((ho3.out.keeps3 Hk4.out (by have := HSZ.out; omega) (by have := HSZ.out; omega) (by have := HSZ.out; omega)).set_ (by have := HSZ.out; dsimp only; omega) _), hid (Hr4.out.mvo hqn hvw.out (by omega) (by omega)), hid ⟨below_set (Hk4.out.below hB3.out.1 (by omega) (by omega) (by omega) hB3.out.1.size) (by omega) _, by simp only [World.setCell, Array.size_modify]; exact Nat.le_trans hB3.out.2 Hk4.out.size⟩, hid ((Hk4.out.blk hX3.out (by omega) (by omega) (by omega)).far (by dsimp only; omega) _), hid ((Hk4.out.blk hR3.out (by omega) (by omega) (by omega)).far (by dsimp only; omega) _)⟩
                      · have h8 := hs3.out
                        rw [e9] at h8
                        rw [show a + 1 + (i + 1) = q + 1 from by omega]
                        exact h8
                      · rw [show a + 1 + (i + 1) = q + 1 from by omega]
                        exact HOI4.out
                    case measure => omega
                · obtain rfl : gk = 0 := by omega
                  obtain rfl : i = s := by omega
                  obtain ⟨q, hqe⟩ : ∃ q : Nat, a + 1 + i = q := ⟨_, rfl⟩
                  rw [hqe]
                  have hq2 : (a : Int) + (i : Int) < (q : Int) := by omega
                  have hq3 : q ≤ 6100 := by omega
                  have HQE := hid hqe
                  clear hi hlt q1 hqe
                  go_wp2
                  go_roundg gp
                  case rel =>
                    refine ⟨a + i + 1, st', by go_num, hid ?_, hid (by have := hf2.out; omega), hid ?_, ho3, hr3, hB3, hX3, hR3⟩
                    · have h8 := hs3.out
                      have h9 := hstep.out
                      rw [← h8] at h9
                      exact h9
                    · have h8 := hoi3.out.done
                      rwa [show a + 1 + i = a + i + 1 from by omega] at h8
                  case measure => omega
            · have hfin := (scan_done hat).symm.trans hs2.out
              have HF := hid hfin
              obtain ⟨y0, y1, y2, y3, k0, k1, k2, k3⟩ := hR2.out.four
              obtain ⟨z0, z1, z2, z3, _, _, _, _⟩ := hX2.out.four
              have n1 : ¬ w.heap.size = w.heap.size + 1 := by omega
              have n2 : ¬ w1.heap.size + 1 + 1 = w.heap.size + 1 := by omega
              have n3 : ¬ w.heap.size + 1 = w1.heap.size + 1 + 1 := by omega
              have n4 : ¬ w1.heap.size + 1 = w.heap.size := by omega
              have n5 : ¬ w.heap.size = w1.heap.size + 1 := by omega
              clear hfin
              go_wp2
              go_region_held3 (fun w' => w'.cell? ⟨w1.heap.size + 1 + 1, 1, none⟩ = some (.slice (some ⟨w1.heap.size + 1, 0, none⟩) n n) ∧ w'.cell? ⟨w1.heap.size + 1 + 1, 2, none⟩ = some (.int .i64 st.top) ∧ w'.cell? ⟨w.heap.size, 1, none⟩ = some (.int .i64 room)) (go_keep) (fail)
              all_goals go_wp2
              refine bodyPost_ret (v := .tuple #[.agg #[.slice (some ⟨w1.heap.size + 1, 0, none⟩) n n, .int .i64 room, .int .i64 (bb : Int), .int .i64 (st.top : Int)], u9, .int .i64 0]) (by simp [results, Try.results22, go_sem, y0, y1, y2, y3]) rfl ?_
              refine ⟨⟨?_, by repeat (first | exact hB2.out.1 | refine below_set ?_ (by omega) _ | refine Below.drew ?_)⟩, ColNew.own (by omega) ho2.out (by have := HSZ.out; omega)⟩
              rw [HA.out]
              have ec : colS ⟨ws, room, base, top⟩ roots = st := by
                unfold colS colR colB
                dsimp only
                rw [← HE.out.2, show (room - base).toNat = bb from by have := HBB.out; omega]
                exact HF.out.symm
              have eb : colB ⟨ws, room, base, top⟩ = bb := by unfold colB; dsimp only; have := HBB.out; omega
              refine ⟨_, _, rfl, ⟨some ⟨w1.heap.size + 1, 0, none⟩, n, n, ?_, ?_⟩, ?_⟩
              · dsimp only
                rw [ec, HBB.out]
              · dsimp only
                rw [ec, ← HE.out.1]
                refine Row.ints ?_ (by simpa [World.setCell, World.drew] using hr2.out.to.lt)
                repeat (first | exact hr2.out.to | refine Row.far ?_ (by dsimp only; omega) _ | refine Row.drew ?_)
              · dsimp only
                rw [eb, ← HE.out.2]
                refine OwnI.isInts (B := W0.heap.size) ?_
                have h9 := HSZ.out
                repeat (first | exact ho2.out | refine OwnI.set_ ?_ (by dsimp only; omega) _ | refine OwnI.drew ?_)
  · have HG := hid (decide_eq_false h2)
    have HA := hid (show collectP ⟨ws, room, base, top⟩ roots = (hpZ, [], 280) from if_neg h2)
    clear h2 en em hn6
    go_enter Try.func22, Try.ntmps22
    go_wp2_with (first | (go_at_call 16; go_must (refine (heap_Good B _ _ ⟨ws, _, _, _⟩ roots _ (by first | (simp; done) | (simp; omega) | omega) ⟨A, n, c, rfl, G1.out.below (by go_grown : Below B w _) (Nat.le_refl _)⟩ ⟨A2, m, d, rfl, G2.out.below (by go_grown : Below B w _) (Nat.le_refl _)⟩ HN.out).mono ?_); rw [HG.out]; rintro e w1 ⟨rfl, hb⟩; go_must (have hX := hid (Blk.below ((Blk.new w 24 _).alloc _) hb (by first | (simp; done) | (simp; omega) | omega))); go_must (have hR := hid (Blk.below (Blk.new' (g := w.heap.size + 1) (by simp) 24 _) hb (by first | (simp; done) | (simp; omega) | omega))); obtain ⟨x0, x1, x2, x3, f0, f1, f2, f3⟩ := hX.out.four; obtain ⟨y0, y1, y2, y3, k0, k1, k2, k3⟩ := hR.out.four; have hB := hid (below_then (B := w.heap.size) (w := w) hb (by go_grown) (by first | (simp; done) | (simp; omega) | omega)); clear hb))
    refine bodyPost_ret (v := .tuple #[.agg #[.slice none 0 0, .int .i64 0, .int .i64 0, .int .i64 0], .slice none 0 0, .int .i64 280]) (by simp [results, Try.results22, go_sem, y0, y1, y2, y3]) rfl ?_
    refine ⟨⟨?_, by have := hB.out; go_grown⟩, ColNew.none_⟩
    rw [HA.out]
    exact ⟨_, _, rfl, IsHp.zero _ _, IsInts.nil _ _⟩
theorem heap_Collect (B : Nat) (v rv : Value) (h : Hp) (roots : List Int) (w : World) (hBw : B ≤ w.heap.size) (i1 : IsHp w B v h) (i2 : IsInts w B rv roots) (hn6 : h.ws.length ≤ 6000) :
    Calls Try.prog 22 #[v, rv] w fun e w' => ColAns (collectP h roots) e w' ∧ Below w.heap.size w w' := (heap_CollectF B v rv h roots w hBw i1 i2 hn6).mono fun _ _ h => h.1
end Go.Proofs.Ytikdflppccbdaaa
