/-
  THE WALKS OF Alloc AND OF ITS REFERENCE.
-/
import Derived.Test.YtikdflppccbdaaaHGoodA
import Derived.Test.YtikdflppccbdaaaHRow
import Derived.Lib.BufferMore
namespace Go.Proofs.Ytikdflppccbdaaa
open Go.ChangeShapes Go.WideShapes Go.ChangeAt Go.RowKit

theorem wpList_copyI {w : World} {ops : Array Oper} {rest : List Oper} {o : Oper} {a : Act} {Q : Exit → Act → World → Prop} (hgd : o.guard = none) (d s : Operand)
    (ho : o.op = .call { callee := .builtin .copy, args := #[d, s], argTypes := #[22, 22] })
    {g n cap : Nat} {xs : List Int} (hr : Row w g n cap xs) {A : Option Addr} {m c Bs : Nat} {ys : List Int} (hi : Ints w Bs A m c ys) {off dLen dCap : Nat} {dp : Option Addr}
    (hd : a.eval d = .slice dp dLen dCap) (hs : a.eval s = .slice A m c) (hdp : 0 < m → dp = some ⟨g, off, none⟩) (hm : m ≤ dLen) (hoff : off + m ≤ n)
    (h : ∀ w', Only g w w' → Row w' g n cap (spl xs off ys) → wpList Try.prog ops Q rest (a.put o.dst (.int .i64 m)) w') : wpList Try.prog ops Q (o :: rest) a w := by
  refine wpList_plain hgd fun K hK => ?_
  obtain ⟨w', hrun, h1, h2⟩ := run_copyI hr hi hdp hm hoff o.type
  unfold Oper.wp
  simp [execOp, ho, resolve, invoke, builtin, hd, hs, Result.andThen]
  rw [hrun]
  exact hK _ _ (h w' h1 h2)

theorem slices_Clone (B : Nat) (A : Option Addr) (n c : Nat) (xs : List Int) (w : World) (hi : Ints w B A n c xs) (hn : 0 < n) (hn6 : n ≤ 6000) (hBw : B ≤ w.heap.size) :
    Calls Try.prog 38 #[.slice A n c] w fun e w' => ∃ g cap, e = .returned (.slice (some ⟨g, 0, none⟩) n cap) ∧ w.heap.size ≤ g ∧ Row w' g n cap xs ∧ Below w.heap.size w w' := by
  obtain ⟨ad, rfl⟩ := hi.some_ hn
  have G := hid hi
  clear hi
  have hnil : ∀ W, (binOp .eql 22 (.slice (some ad) n c) (.slice none 0 0)).run Try.prog W = .ok (.bool false) W := fun W => Lib.run_eql_slice_some_nil W _ _ _ Try.underlying22
  go_enter Try.func38, Try.ntmps38
  go_wp2_with (at_builtin; go_must (refine wpList_appI (by rfl) _ _ (by rfl) w.heap.size (by rfl) (OwnI.lit0 (by simp) (by simp)) (by rfl) ((G.out.below (hB := Nat.le_refl _) (by go_grown : Below B w _))) (by simp; omega) (by first | (simp; done) | (simp; omega) | omega) ?_); intro A2 c2 w2 ho hg hbb; have ho2 := hid ho; go_must (have hB2 := hid (hbb w.heap.size w (Nat.le_refl _) (by go_grown))); clear hbb hg ho)
  go_ret
  have h := ho2.out
  simp only [List.length_nil, Nat.zero_add, List.nil_append] at h
  obtain ⟨g, rfl, hg, hr⟩ := row_of_own h hn
  exact ⟨g, c2, rfl, hg, hr, hB2.out⟩

/-- An object more. -/
noncomputable def allocP (h : Hp) (tag : Int) (words : List Int) : Hp × Int × Int :=
  if ¬ (0 ≤ tag ∧ tag < 1048576 ∧ words.length ≤ 64) then (hpZ, 0, 1)
  else if ¬ GoodP h words then (hpZ, 0, 280)
  else if h.base + h.room < h.top + 1 + words.length then (hpZ, 0, 3)
  else (⟨spl (h.ws.set h.top.toNat (512 * tag + 2 * words.length + 1)) (h.top.toNat + 1) words, h.room, h.base, h.top + 1 + words.length⟩, 1024 + 4 * h.top, 0)
def AllocAns (r : Hp × Int × Int) (e : Ending) (w' : World) : Prop := ∃ v, e = .returned (.tuple #[v, .int .i64 r.2.1, .int .i64 r.2.2]) ∧ IsHp w' w'.heap.size v r.1
theorem hdV_no {t s : Int} (hk : ¬ (0 ≤ t ∧ t < 1048576 ∧ 0 ≤ s ∧ s ≤ 64)) : hdV t s = .tuple #[.int .i64 0, .int .i64 1] := by unfold hdV; rw [if_neg hk]
theorem hdV_yes {t s : Int} (hk : 0 ≤ t ∧ t < 1048576 ∧ 0 ≤ s ∧ s ≤ 64) : hdV t s = .tuple #[.int .i64 (512 * t + 2 * s + 1), .int .i64 0] := by unfold hdV; rw [if_pos hk]
theorem ptV_yes {p : Int} (hk : 0 ≤ p ∧ p < 262144) : ptV p = .tuple #[.int .i64 (1024 + 4 * p), .int .i64 0] := by unfold ptV; rw [if_pos hk]

set_option maxHeartbeats 2000000 in
set_option maxRecDepth 100000 in
theorem heap_Alloc (B : Nat) (v rv : Value) (h : Hp) (tag : Int) (words : List Int) (w : World) (hBw : B ≤ w.heap.size) (i1 : IsHp w B v h) (i2 : IsInts w B rv words) (hn6 : h.ws.length ≤ 6000) :
    Calls Try.prog 19 #[v, .int .i64 tag, rv] w fun e w' => AllocAns (allocP h tag words) e w' ∧ Below w.heap.size w w' := by
  obtain ⟨A, n, c, rfl, g1⟩ := i1
  obtain ⟨A2, m, d, rfl, g2⟩ := i2
  obtain ⟨ws, room, base, top⟩ := h
  dsimp only at g1 hn6 ⊢
  have en := g1.len
  have em := g2.len
  have HN : Hid ((Hp.mk ws room base top).ws.length ≤ 6000) := hid hn6
  have G1 := hid g1
  have G2 := hid g2
  clear g1 g2
  by_cases h1 : 0 ≤ tag ∧ tag < 1048576 ∧ m ≤ 64
  · have HD := hid (hdV_yes (t := tag) (s := m) (by omega))
    by_cases h2 : GoodP ⟨ws, room, base, top⟩ words
    · have HG := hid (decide_eq_true h2)
      have hs : ShapedP n room base top := by rw [en]; exact h2.1
      by_cases h3 : base + room < top + 1 + m
      · have HA := hid (show allocP ⟨ws, room, base, top⟩ tag words = (hpZ, 0, 3) by unfold allocP; rw [if_neg (by rw [← em]; omega), if_neg (fun h => h h2), if_pos (by rw [← em]; exact h3)])
        have hsm : 0 ≤ base ∧ base ≤ 131072 ∧ 0 ≤ room ∧ room ≤ 131072 ∧ 0 ≤ top ∧ top ≤ 262144 ∧ m ≤ 64 := by unfold ShapedP at hs; omega
        obtain ⟨b1, b2, b3, b4, b5, b6, b7⟩ := hsm
        clear h1 h2 hs en em hn6
        go_enter Try.func19, Try.ntmps19
        go_wp2_with (first | (go_at_call 37; go_must (refine (cells_Head _ _ _).mono ?_); rw [HD.out]; rintro e w1 ⟨rfl, rfl⟩) | (go_at_call 16; go_must (refine (heap_Good B _ _ ⟨ws, room, base, _⟩ words _ (by first | (simp; done) | (simp; omega) | omega) ⟨A, n, c, rfl, G1.out.below (by go_grown : Below B w _) (Nat.le_refl _)⟩ ⟨A2, m, d, rfl, G2.out.below (by go_grown : Below B w _) (Nat.le_refl _)⟩ HN.out).mono ?_); rw [HG.out]; rintro e w1 ⟨rfl, hb⟩; go_must (have hX := hid (Blk.below ((Blk.new w 24 _).alloc _) hb (by first | (simp; done) | (simp; omega) | omega))); go_must (have hR := hid (Blk.below (Blk.new' (g := w.heap.size + 1) (by simp) 24 _) hb (by first | (simp; done) | (simp; omega) | omega))); obtain ⟨x0, x1, x2, x3, f0, f1, f2, f3⟩ := hX.out.four; obtain ⟨y0, y1, y2, y3, k0, k1, k2, k3⟩ := hR.out.four; have hB := hid (below_then (B := w.heap.size) (w := w) hb (by go_grown) (by first | (simp; done) | (simp; omega) | omega)); clear hb))
        refine bodyPost_ret (v := .tuple #[.agg #[.slice none 0 0, .int .i64 0, .int .i64 0, .int .i64 0], .int .i64 0, .int .i64 3]) (by simp [results, Try.results19, go_sem, y0, y1, y2, y3]) rfl ?_
        refine ⟨?_, by have := hB.out; go_grown⟩
        rw [HA.out]
        exact ⟨_, rfl, IsHp.zero _ _⟩
      · have hsm : 0 ≤ base ∧ base ≤ 131072 ∧ 64 ≤ room ∧ room ≤ 131072 ∧ 0 ≤ top ∧ m ≤ 64 ∧ top + 1 + m ≤ n ∧ n ≤ 6000 ∧ 128 ≤ n := by unfold ShapedP at hs; omega
        obtain ⟨b1, b2, b3, b4, b5, b7, b8, b9, b10⟩ := hsm
        have HA := hid (fun tn : Nat => show allocP ⟨ws, room, base, tn⟩ tag words = if GoodP ⟨ws, room, base, tn⟩ words ∧ (tn : Int) + 1 + m ≤ base + room then ((⟨spl (ws.set tn (512 * tag + 2 * m + 1)) (tn + 1) words, room, base, tn + 1 + m⟩ : Hp), (1024 + 4 * tn : Int), (0 : Int)) else allocP ⟨ws, room, base, tn⟩ tag words by
          split
          · rename_i h9
            unfold allocP; rw [if_neg (by rw [← em]; omega), if_neg (fun h => h h9.1), if_neg (by rw [← em]; have := h9.2; simp only; omega), ← em]; rfl
          · rfl)
        have H2 := hid h2
        have HK := hid (show (Lit.int .i64 (512 * tag + 2 * m + 1)).wf = true by rw [← wrap_small (z := 512 * tag + 2 * m + 1) (by omega)]; exact wrap64_wf _)
        have hh : 0 ≤ tag ∧ tag < 1048576 := ⟨h1.1, h1.2.1⟩
        have hlt : (m : Int) < base + room - top := by omega
        have htop : top ≤ 262144 := by omega
        have HB := hid (And.intro b8 (And.intro b9 b10))
        clear h1 h2 h3 hs en em hn6 b8 b9 b10
        go_enter Try.func19, Try.ntmps19
        go_wp2_with (first | (go_at_call 37; go_must (refine (cells_Head _ _ _).mono ?_); rw [HD.out]; rintro e w1 ⟨rfl, rfl⟩) | (go_at_call 16; go_must (refine (heap_Good B _ _ ⟨ws, room, base, _⟩ words _ (by first | (simp; done) | (simp; omega) | omega) ⟨A, n, c, rfl, G1.out.below (by go_grown : Below B w _) (Nat.le_refl _)⟩ ⟨A2, m, d, rfl, G2.out.below (by go_grown : Below B w _) (Nat.le_refl _)⟩ HN.out).mono ?_); rw [HG.out]; rintro e w1 ⟨rfl, hb⟩; go_must (have hX := hid (Blk.below ((Blk.new w 24 _).alloc _) hb (by first | (simp; done) | (simp; omega) | omega))); go_must (have hR := hid (Blk.below (Blk.new' (g := w.heap.size + 1) (by simp) 24 _) hb (by first | (simp; done) | (simp; omega) | omega))); obtain ⟨x0, x1, x2, x3, f0, f1, f2, f3⟩ := hX.out.four; obtain ⟨y0, y1, y2, y3, k0, k1, k2, k3⟩ := hR.out.four; have hB := hid (below_then (B := w.heap.size) (w := w) hb (by go_grown) (by first | (simp; done) | (simp; omega) | omega)); clear hb) | (go_at_call 38; go_must (obtain ⟨tn, rfl⟩ := Int.eq_ofNat_of_zero_le b5); go_must (obtain ⟨b8, b9, b10⟩ := HB.out); go_must (refine (slices_Clone B _ n c ws _ (G1.out.below (hB.out.mono hBw) (Nat.le_refl _)) (by omega) b9 (Nat.le_trans hBw hB.out.size)).mono ?_); go_must (rintro e w2 ⟨g, cap, rfl, hg, hrow, hb⟩; clear x0 x1 x2 x3 f0 f1 f2 f3 y0 y1 y2 y3 k0 k1 k2 k3; have hX2 := hid (hX.out.below hb hX.out.lt); have hR2 := hid (hR.out.below hb hR.out.lt); have hgz : w.heap.size + 1 < g := Nat.lt_of_lt_of_le hR.out.lt hg; clear hX hR hg; have hX := hX2; have hR := hR2; clear hX2 hR2; obtain ⟨x0, x1, x2, x3, f0, f1, f2, f3⟩ := hX.out.four; obtain ⟨y0, y1, y2, y3, k0, k1, k2, k3⟩ := hR.out.four; have hB2 := hid (hB.out.trans (hb.mono hB.out.size)); clear hB hb; have hB := hB2; clear hB2; have HRow := hid hrow; have q1 := hrow.cell (i := tn) (by omega); have q2 := hrow.frozen tn; have ne1 : ¬ w.heap.size = g := (by omega); have ne2 : ¬ g = w.heap.size := (by omega); have hcap := hrow.le; clear hrow)) | (refine (?_ : wpList _ _ _ ({ dst := some 59, op := _, type := _, pos := _, after := _, guard := _ } :: _) _ _); go_must (refine wpList_copyI (by rfl) _ _ (by rfl) (g := g) (n := n) (cap := cap) ((HRow.out.only (Only.setCell _ w.heap.size 0 _) ne2).set_ (i := tn) (by omega) HK.out) (Bs := B) (ys := words) (G2.out.below (below_set (below_set (hB.out.mono hBw) (by omega) _) (by omega) _) (Nat.le_refl _)) (by rfl) (by rfl) (off := tn + 1) (by intro hm0; rw [if_neg (by omega)]) (by omega) (by omega) ?_); go_must (intro w3 ho hr3; clear x0 x1 x2 x3 f0 f1 f2 f3 y0 y1 y2 y3 k0 k1 k2 k3; clear q1 q2; have hX3 : Blk w3 w.heap.size 24 #[_, .int .i64 room, .int .i64 base, .int .i64 tn] := ho.blk ((hX.out.set_ 0 _).far (p := ⟨g, tn, none⟩) (by dsimp only; omega) _) ne1; have hR3 := ho.blk ((hR.out.far (p := ⟨w.heap.size, 0, none⟩) (by dsimp only; omega) _).far (p := ⟨g, tn, none⟩) (by dsimp only; omega) _) (by omega); have hB3 := hid (ho.below (below_set (below_set hB.out (Nat.le_refl _) _) (by omega) _) (by omega : w.heap.size ≤ g)); have HRow3 := hid hr3; clear HRow hX hR hB ho hr3; have hX := hid hX3; have hR := hid hR3; have hB := hB3; clear hX3 hR3 hB3; obtain ⟨x0, x1, x2, x3, f0, f1, f2, f3⟩ := hX.out.four; obtain ⟨y0, y1, y2, y3, k0, k1, k2, k3⟩ := hR.out.four)) | (go_at_call 39; go_must (refine (cells_Pointer _ _).mono ?_); rw [ptV_yes (by omega)]; rintro e w4 ⟨rfl, rfl⟩))
        · obtain rfl : cap = tn + 1 := by assumption
          (refine bodyPost_ret (v := .tuple #[.agg #[.slice (some ⟨g, 0, none⟩) n (tn + 1), .int .i64 room, .int .i64 base, .int .i64 ((tn : Int) + ((m : Int) + 1))], .int .i64 (1024 + 4 * tn), .int .i64 0]) (by simp [results, Try.results19, go_sem, y0, y1, y2, y3]) rfl ?_; have e1 := HA.out tn; rw [if_pos ⟨H2.out, by omega⟩] at e1; rw [e1]; refine ⟨⟨_, rfl, some ⟨g, 0, none⟩, n, tn + 1, (by dsimp only; rw [show (tn : Int) + 1 + m = tn + (m + 1) from by omega]), Row.ints ?_ (by simpa using HRow3.out.lt)⟩, by have := hB.out; go_grown⟩; repeat (first | exact HRow3.out | refine Row.far ?_ (by dsimp only; omega) _))
        · (refine bodyPost_ret (v := .tuple #[.agg #[.slice (some ⟨g, 0, none⟩) n (cap), .int .i64 room, .int .i64 base, .int .i64 ((tn : Int) + ((m : Int) + 1))], .int .i64 (1024 + 4 * tn), .int .i64 0]) (by simp [results, Try.results19, go_sem, y0, y1, y2, y3]) rfl ?_; have e1 := HA.out tn; rw [if_pos ⟨H2.out, by omega⟩] at e1; rw [e1]; refine ⟨⟨_, rfl, some ⟨g, 0, none⟩, n, cap, (by dsimp only; rw [show (tn : Int) + 1 + m = tn + (m + 1) from by omega]), Row.ints ?_ (by simpa using HRow3.out.lt)⟩, by have := hB.out; go_grown⟩; repeat (first | exact HRow3.out | refine Row.far ?_ (by dsimp only; omega) _))
    · have HG := hid (decide_eq_false h2)
      have HA := hid (show allocP ⟨ws, room, base, top⟩ tag words = (hpZ, 0, 280) by unfold allocP; rw [if_neg (by rw [← em]; omega), if_pos h2])
      clear h1 h2 en em hn6
      go_enter Try.func19, Try.ntmps19
      go_wp2_with (first | (go_at_call 37; go_must (refine (cells_Head _ _ _).mono ?_); rw [HD.out]; rintro e w1 ⟨rfl, rfl⟩) | (go_at_call 16; go_must (refine (heap_Good B _ _ ⟨ws, room, base, _⟩ words _ (by first | (simp; done) | (simp; omega) | omega) ⟨A, n, c, rfl, G1.out.below (by go_grown : Below B w _) (Nat.le_refl _)⟩ ⟨A2, m, d, rfl, G2.out.below (by go_grown : Below B w _) (Nat.le_refl _)⟩ HN.out).mono ?_); rw [HG.out]; rintro e w1 ⟨rfl, hb⟩; go_must (have hX := hid (Blk.below ((Blk.new w 24 _).alloc _) hb (by first | (simp; done) | (simp; omega) | omega))); go_must (have hR := hid (Blk.below (Blk.new' (g := w.heap.size + 1) (by simp) 24 _) hb (by first | (simp; done) | (simp; omega) | omega))); obtain ⟨x0, x1, x2, x3, f0, f1, f2, f3⟩ := hX.out.four; obtain ⟨y0, y1, y2, y3, k0, k1, k2, k3⟩ := hR.out.four; have hB := hid (below_then (B := w.heap.size) (w := w) hb (by go_grown) (by first | (simp; done) | (simp; omega) | omega)); clear hb))
      refine bodyPost_ret (v := .tuple #[.agg #[.slice none 0 0, .int .i64 0, .int .i64 0, .int .i64 0], .int .i64 0, .int .i64 280]) (by simp [results, Try.results19, go_sem, y0, y1, y2, y3]) rfl ?_
      refine ⟨?_, by have := hB.out; go_grown⟩
      rw [HA.out]
      exact ⟨_, rfl, IsHp.zero _ _⟩
  · have HD := hid (hdV_no (t := tag) (s := m) (by omega))
    have HA := hid (show allocP ⟨ws, room, base, top⟩ tag words = (hpZ, 0, 1) by unfold allocP; rw [if_pos (by rw [← em]; exact h1)])
    clear h1 en em hn6
    go_enter Try.func19, Try.ntmps19
    go_wp2_with (go_at_call 37; go_must (refine (cells_Head _ _ _).mono ?_); rw [HD.out]; rintro e w1 ⟨rfl, rfl⟩)
    refine bodyPost_ret (v := .tuple #[.agg #[.slice none 0 0, .int .i64 0, .int .i64 0, .int .i64 0], .int .i64 0, .int .i64 1]) (by simp [results, Try.results19, go_sem]) rfl ?_
    refine ⟨?_, by go_grown⟩
    rw [HA.out]
    exact ⟨_, rfl, IsHp.zero _ _⟩
end Go.Proofs.Ytikdflppccbdaaa
