/-
  THE WALK OF ref28.Alloc.
-/
import Derived.Test.YtikdflppccbdaaaHAlloc
namespace Go.Proofs.Ytikdflppccbdaaa
open Go.ChangeShapes Go.WideShapes Go.ChangeAt Go.RowKit

set_option maxHeartbeats 2000000 in
set_option maxRecDepth 100000 in
theorem ref28_Alloc (B : Nat) (v rv : Value) (h : Hp) (tag : Int) (words : List Int) (w : World) (hBw : B ≤ w.heap.size) (i1 : IsHp w B v h) (i2 : IsInts w B rv words) (hn6 : h.ws.length ≤ 6000) :
    Calls Try.prog 20 #[v, .int .i64 tag, rv] w fun e w' => AllocAns (allocP h tag words) e w' ∧ Below w.heap.size w w' := by
  obtain ⟨A, n, c, rfl, g1⟩ := i1
  obtain ⟨A2, m, d, rfl, g2⟩ := i2
  obtain ⟨ws, room, base, top⟩ := h
  dsimp only at g1 hn6 ⊢
  have en := g1.len
  have em := g2.len
  have HN : Hid ((Hp.mk ws room base top).ws.length ≤ 6000) := hid hn6
  have G1 := hid g1
  have G2 := hid g2
  clear g1 g2
  by_cases h1 : 0 ≤ tag ∧ tag < 1048576 ∧ m ≤ 64
  · have HD := hid (hdV_yes (t := tag) (s := m) (by omega))
    by_cases h2 : GoodP ⟨ws, room, base, top⟩ words
    · have HG := hid (decide_eq_true h2)
      have hs : ShapedP n room base top := by rw [en]; exact h2.1
      by_cases h3 : base + room < top + 1 + m
      · have HA := hid (show allocP ⟨ws, room, base, top⟩ tag words = (hpZ, 0, 3) by unfold allocP; rw [if_neg (by rw [← em]; omega), if_neg (fun h => h h2), if_pos (by rw [← em]; exact h3)])
        have hsm : 0 ≤ base ∧ base ≤ 131072 ∧ 0 ≤ room ∧ room ≤ 131072 ∧ 0 ≤ top ∧ top ≤ 262144 ∧ m ≤ 64 := by unfold ShapedP at hs; omega
        obtain ⟨b1, b2, b3, b4, b5, b6, b7⟩ := hsm
        clear h1 h2 hs en em hn6
        go_enter Try.func20, Try.ntmps20
        go_wp2_with (first | (go_at_call 40; go_must (refine (ref27_Head _ _ _).mono ?_); rw [HD.out]; rintro e w1 ⟨rfl, rfl⟩) | (go_at_call 17; go_must (refine (ref28_Good B _ _ ⟨ws, room, base, _⟩ words _ (by first | (simp; done) | (simp; omega) | omega) ⟨A, n, c, rfl, G1.out.below (by go_grown : Below B w _) (Nat.le_refl _)⟩ ⟨A2, m, d, rfl, G2.out.below (by go_grown : Below B w _) (Nat.le_refl _)⟩ HN.out).mono ?_); rw [HG.out]; rintro e w1 ⟨rfl, hb⟩; go_must (have hX := hid (Blk.below ((Blk.new w 24 _).alloc _) hb (by first | (simp; done) | (simp; omega) | omega))); go_must (have hR := hid (Blk.below (Blk.new' (g := w.heap.size + 1) (by simp) 24 _) hb (by first | (simp; done) | (simp; omega) | omega))); obtain ⟨x0, x1, x2, x3, f0, f1, f2, f3⟩ := hX.out.four; obtain ⟨y0, y1, y2, y3, k0, k1, k2, k3⟩ := hR.out.four; have a0 : ∀ o, (w1.alloc o).cell? ⟨w.heap.size, 0, none⟩ = some (.slice A n c) := (fun o => (hX.out.alloc o).cell 0); have hB := hid (below_then (B := w.heap.size) (w := w) hb (by go_grown) (by first | (simp; done) | (simp; omega) | omega)); clear hb))
        refine bodyPost_ret (v := .tuple #[.agg #[.slice none 0 0, .int .i64 0, .int .i64 0, .int .i64 0], .int .i64 0, .int .i64 3]) (by simp [results, Try.results20, go_sem, y0, y1, y2, y3]) rfl ?_
        refine ⟨?_, by have := hB.out; go_grown⟩
        rw [HA.out]
        exact ⟨_, rfl, IsHp.zero _ _⟩
      · have hsm : 0 ≤ base ∧ base ≤ 131072 ∧ 64 ≤ room ∧ room ≤ 131072 ∧ 0 ≤ top ∧ m ≤ 64 ∧ top + 1 + m ≤ n ∧ n ≤ 6000 ∧ 128 ≤ n := by unfold ShapedP at hs; omega
        obtain ⟨b1, b2, b3, b4, b5, b7, b8, b9, b10⟩ := hsm
        have HA := hid (fun tn : Nat => show allocP ⟨ws, room, base, tn⟩ tag words = if GoodP ⟨ws, room, base, tn⟩ words ∧ (tn : Int) + 1 + m ≤ base + room then ((⟨spl (ws.set tn (512 * tag + 2 * m + 1)) (tn + 1) words, room, base, tn + 1 + m⟩ : Hp), (1024 + 4 * tn : Int), (0 : Int)) else allocP ⟨ws, room, base, tn⟩ tag words by
          split
          · rename_i h9
            unfold allocP; rw [if_neg (by rw [← em]; omega), if_neg (fun h => h h9.1), if_neg (by rw [← em]; have := h9.2; simp only; omega), ← em]; rfl
          · rfl)
        have H2 := hid h2
        have HK := hid (show (Lit.int .i64 (512 * tag + 2 * m + 1)).wf = true by rw [← wrap_small (z := 512 * tag + 2 * m + 1) (by omega)]; exact wrap64_wf _)
        have hh : 0 ≤ tag ∧ tag < 1048576 := ⟨h1.1, h1.2.1⟩
        have hlt : top + 1 + m ≤ base + room := by omega
        have htop : top < 262144 := by omega
        have HB := hid (And.intro b8 (And.intro b9 b10))
        clear h1 h2 h3 hs en em hn6 b8 b9 b10
        go_enter Try.func20, Try.ntmps20
        go_wp2_with (first | (go_at_call 40; go_must (refine (ref27_Head _ _ _).mono ?_); rw [HD.out]; rintro e w1 ⟨rfl, rfl⟩) | (go_at_call 17; go_must (refine (ref28_Good B _ _ ⟨ws, room, base, _⟩ words _ (by first | (simp; done) | (simp; omega) | omega) ⟨A, n, c, rfl, G1.out.below (by go_grown : Below B w _) (Nat.le_refl _)⟩ ⟨A2, m, d, rfl, G2.out.below (by go_grown : Below B w _) (Nat.le_refl _)⟩ HN.out).mono ?_); rw [HG.out]; rintro e w1 ⟨rfl, hb⟩; go_must (have hX := hid (Blk.below ((Blk.new w 24 _).alloc _) hb (by first | (simp; done) | (simp; omega) | omega))); go_must (have hR := hid (Blk.below (Blk.new' (g := w.heap.size + 1) (by simp) 24 _) hb (by first | (simp; done) | (simp; omega) | omega))); obtain ⟨x0, x1, x2, x3, f0, f1, f2, f3⟩ := hX.out.four; obtain ⟨y0, y1, y2, y3, k0, k1, k2, k3⟩ := hR.out.four; have a0 : ∀ o, (w1.alloc o).cell? ⟨w.heap.size, 0, none⟩ = some (.slice A n c) := (fun o => (hX.out.alloc o).cell 0); have hB := hid (below_then (B := w.heap.size) (w := w) hb (by go_grown) (by first | (simp; done) | (simp; omega) | omega)); clear hb) | (go_at_call 41; go_must (refine (ref27_Pointer _ _).mono ?_); rw [ptV_yes (by omega)]; rintro e w4 ⟨rfl, rfl⟩) | (at_builtin; go_must (obtain ⟨tn, rfl⟩ := Int.eq_ofNat_of_zero_le b5); go_must (have HL := hid hlt; clear hlt); go_must (obtain ⟨b8, b9, b10⟩ := HB.out); go_must (refine wpList_appI (by rfl) _ _ (by rfl) (w.heap.size + 1 + 1) (by rfl) (OwnI.lit0 (by simp) (Nat.succ_le_of_lt hR.out.lt)) (by rfl) (G1.out.below ((hB.out.mono hBw).alloc (Nat.le_trans hBw hB.out.size) _) (Nat.le_refl _)) (by simp; omega) (Nat.le_succ_of_le (Nat.succ_le_of_lt hR.out.lt) |> fun h => (by simpa using h)) ?_); go_must (intro A3 cap w2 ho hg hbb; have ho1 := ho; simp only [List.length_nil, Nat.zero_add, List.nil_append] at ho1; obtain ⟨g, rfl, hgz0, hrow⟩ := row_of_own ho1 (by omega); clear x0 x1 x2 x3 f0 f1 f2 f3 y0 y1 y2 y3 k0 k1 k2 k3; clear a0; have hbX := hbb (w.heap.size + 1 + 1) w1 (Nat.le_refl _) ((Below.refl _ w1).alloc (Nat.succ_le_of_lt hR.out.lt) _); have hX2 := hid (hX.out.below hbX (by omega)); have hR2 := hid (hR.out.below hbX (by omega)); have hB2 := hid (hB.out.trans (hbX.mono (by omega))); clear hX hR hB ho ho1 hg hbb hbX; have hX := hX2; have hR := hR2; have hB := hB2; clear hX2 hR2 hB2; obtain ⟨x0, x1, x2, x3, f0, f1, f2, f3⟩ := hX.out.four; obtain ⟨y0, y1, y2, y3, k0, k1, k2, k3⟩ := hR.out.four; have hgz : w.heap.size + 1 < g := (by omega); have HRow := hid hrow; have q1 := hrow.cell (i := tn) (by omega); have q2 := hrow.frozen tn; have ne1 : ¬ w.heap.size = g := (by omega); have ne2 : ¬ g = w.heap.size := (by omega); have hcap := hrow.le; clear hrow hgz0)) | (refine (?_ : wpList _ _ _ ({ dst := some 71, op := _, type := _, pos := _, after := _, guard := _ } :: _) _ _); obtain ⟨q, hq⟩ : ∃ q : Nat, (1 : Int) + m = q := ⟨1 + m, by omega⟩; rw [hq]; have hq6 : q ≤ 65 := (by omega); have HQ := hid hq; clear hq) | (refine (?_ : wpList _ _ _ ({ dst := some 73, op := _, type := _, pos := _, after := _, guard := _ } :: _) _ (World.setCell (World.setCell w3 _ _) _ _)); go_must (have hX5 : Blk ((w3.setCell ⟨w.heap.size, 0, none⟩ (.slice (some ⟨g, 0, none⟩) n cap)).setCell ⟨w.heap.size, 3, none⟩ (.int .i64 (tn + q))) w.heap.size 24 #[.slice (some ⟨g, 0, none⟩) n cap, .int .i64 room, .int .i64 base, .int .i64 (tn + q)] := (hX.out.set_ 0 _).set_ 3 _; have hR5 := (hR.out.far (p := ⟨w.heap.size, 0, none⟩) (by dsimp only; omega) (.slice (some ⟨g, 0, none⟩) n cap)).far (p := ⟨w.heap.size, 3, none⟩) (by dsimp only; omega) (.int .i64 (tn + q)); have HR5 := (HRow3.out.far (p := ⟨w.heap.size, 0, none⟩) (by dsimp only; omega) (.slice (some ⟨g, 0, none⟩) n cap)).far (p := ⟨w.heap.size, 3, none⟩) (by dsimp only; omega) (.int .i64 (tn + q)); have hB5 := below_set (below_set hB.out (Nat.le_refl _) (i := 0) (.slice (some ⟨g, 0, none⟩) n cap)) (Nat.le_refl _) (i := 3) (.int .i64 (tn + q)); generalize (w3.setCell ⟨w.heap.size, 0, none⟩ (.slice (some ⟨g, 0, none⟩) n cap)).setCell ⟨w.heap.size, 3, none⟩ (.int .i64 (tn + q)) = w5 at hX5 hR5 HR5 hB5 ⊢; clear x0 x1 x2 x3 f0 f1 f2 f3 y0 y1 y2 y3 k0 k1 k2 k3; clear hX hR HRow3 hB; have hX := hid hX5; have hR := hid hR5; have HRow3 := hid HR5; have hB := hid hB5; clear hX5 hR5 HR5 hB5; obtain ⟨x0, x1, x2, x3, f0, f1, f2, f3⟩ := hX.out.four; obtain ⟨y0, y1, y2, y3, k0, k1, k2, k3⟩ := hR.out.four)) | (refine (?_ : wpList _ _ _ ({ dst := some 63, op := _, type := _, pos := _, after := _, guard := _ } :: _) _ _); go_must (refine wpList_copyI (by rfl) _ _ (by rfl) (g := g) (n := n) (cap := cap) (HRow.out.set_ (i := tn) (by omega) HK.out) (Bs := B) (ys := words) (G2.out.below (below_set (hB.out.mono hBw) (by omega) _) (Nat.le_refl _)) (by rfl) (by rfl) (off := tn + 1) (by intro hm0; rw [if_neg (by omega)]) (by omega) (by omega) ?_); go_must (intro w3 ho hr3; generalize (if cap = tn + 1 then some (⟨g, 0, none⟩ : Addr) else some ⟨g, tn + 1, none⟩) = dq; clear x0 x1 x2 x3 f0 f1 f2 f3 y0 y1 y2 y3 k0 k1 k2 k3; clear q1 q2; have b12 : tn < 6000 := (by omega); clear b8; have hX3 := ho.blk (hX.out.far (p := ⟨g, tn, none⟩) (by dsimp only; omega) _) ne1; have hR3 := ho.blk (hR.out.far (p := ⟨g, tn, none⟩) (by dsimp only; omega) _) (by omega); have hB3 := hid (ho.below (below_set hB.out (by omega) _) (by omega : w.heap.size ≤ g)); have HRow3 := hid hr3; clear HRow hX hR hB ho hr3; have hX := hid hX3; have hR := hid hR3; have hB := hB3; clear hX3 hR3 hB3; obtain ⟨x0, x1, x2, x3, f0, f1, f2, f3⟩ := hX.out.four; obtain ⟨y0, y1, y2, y3, k0, k1, k2, k3⟩ := hR.out.four)))
        all_goals (refine bodyPost_ret (v := .tuple #[.agg #[.slice (some ⟨g, 0, none⟩) n (cap), .int .i64 room, .int .i64 base, .int .i64 ((tn : Int) + (q : Int))], .int .i64 (1024 + 4 * tn), .int .i64 0]) (by simp [results, Try.results20, go_sem, y0, y1, y2, y3]) rfl ?_; have e1 := HA.out tn; rw [if_pos ⟨H2.out, HL.out⟩] at e1; rw [e1]; refine ⟨⟨_, rfl, some ⟨g, 0, none⟩, n, cap, (by dsimp only; rw [show (tn : Int) + 1 + m = tn + q from by have := HQ.out; omega]), Row.ints ?_ (by simpa using HRow3.out.lt)⟩, by have := hB.out; go_grown⟩; repeat (first | exact HRow3.out | refine Row.far ?_ (by dsimp only; omega) _))
    · have HG := hid (decide_eq_false h2)
      have HA := hid (show allocP ⟨ws, room, base, top⟩ tag words = (hpZ, 0, 280) by unfold allocP; rw [if_neg (by rw [← em]; omega), if_pos h2])
      clear h1 h2 en em hn6
      go_enter Try.func20, Try.ntmps20
      go_wp2_with (first | (go_at_call 40; go_must (refine (ref27_Head _ _ _).mono ?_); rw [HD.out]; rintro e w1 ⟨rfl, rfl⟩) | (go_at_call 17; go_must (refine (ref28_Good B _ _ ⟨ws, room, base, _⟩ words _ (by first | (simp; done) | (simp; omega) | omega) ⟨A, n, c, rfl, G1.out.below (by go_grown : Below B w _) (Nat.le_refl _)⟩ ⟨A2, m, d, rfl, G2.out.below (by go_grown : Below B w _) (Nat.le_refl _)⟩ HN.out).mono ?_); rw [HG.out]; rintro e w1 ⟨rfl, hb⟩; go_must (have hX := hid (Blk.below ((Blk.new w 24 _).alloc _) hb (by first | (simp; done) | (simp; omega) | omega))); go_must (have hR := hid (Blk.below (Blk.new' (g := w.heap.size + 1) (by simp) 24 _) hb (by first | (simp; done) | (simp; omega) | omega))); obtain ⟨x0, x1, x2, x3, f0, f1, f2, f3⟩ := hX.out.four; obtain ⟨y0, y1, y2, y3, k0, k1, k2, k3⟩ := hR.out.four; have a0 : ∀ o, (w1.alloc o).cell? ⟨w.heap.size, 0, none⟩ = some (.slice A n c) := (fun o => (hX.out.alloc o).cell 0); have hB := hid (below_then (B := w.heap.size) (w := w) hb (by go_grown) (by first | (simp; done) | (simp; omega) | omega)); clear hb))
      refine bodyPost_ret (v := .tuple #[.agg #[.slice none 0 0, .int .i64 0, .int .i64 0, .int .i64 0], .int .i64 0, .int .i64 280]) (by simp [results, Try.results20, go_sem, y0, y1, y2, y3]) rfl ?_
      refine ⟨?_, by have := hB.out; go_grown⟩
      rw [HA.out]
      exact ⟨_, rfl, IsHp.zero _ _⟩
  · have HD := hid (hdV_no (t := tag) (s := m) (by omega))
    have HA := hid (show allocP ⟨ws, room, base, top⟩ tag words = (hpZ, 0, 1) by unfold allocP; rw [if_pos (by rw [← em]; exact h1)])
    clear h1 en em hn6
    go_enter Try.func20, Try.ntmps20
    go_wp2_with (go_at_call 40; go_must (refine (ref27_Head _ _ _).mono ?_); rw [HD.out]; rintro e w1 ⟨rfl, rfl⟩)
    refine bodyPost_ret (v := .tuple #[.agg #[.slice none 0 0, .int .i64 0, .int .i64 0, .int .i64 0], .int .i64 0, .int .i64 1]) (by simp [results, Try.results20, go_sem]) rfl ?_
    refine ⟨?_, by go_grown⟩
    rw [HA.out]
    exact ⟨_, rfl, IsHp.zero _ _⟩
end Go.Proofs.Ytikdflppccbdaaa
