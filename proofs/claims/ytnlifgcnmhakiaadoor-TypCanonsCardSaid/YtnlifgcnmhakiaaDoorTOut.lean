/-
  THE WALKS OF links.out: a type, written out.
-/
import Derived.Test.YtnlifgcnmhakiaaDoorTSolve
namespace Go.Proofs.YtnlifgcnmhakiaaDoor
open Go.ChangeShapes Go.WideShapes Go.ChangeAt Go.RowKit

def OutC (S : Nat → Prop) (p pv c : Nat) (σ : Sg) (cur : Array Value) (k : Nat) : Prop :=
  ∀ (t u : Ty) (v : Value) (w : World), nodes u ≤ 900000 → wrF σ k t = some u → goodT σ.length t = true → TAt w S t v → Tb S w p pv c σ cur →
    Calls Tryd.prog 47 #[.pointer (some ⟨p, 0, none⟩), v] w (CopyP u w)
set_option maxHeartbeats 8000000 in
set_option maxRecDepth 100000 in
theorem out_node (S : Nat → Prop) (p pv c : Nat) (σ : Sg) (cur : Array Value) (k : Nat) (hok : Ok σ) (ih : OutC S p pv c σ cur k) : OutC S p pv c σ cur (k + 1) := by
  intro t u v w hn hw hg hv hT
  obtain ⟨h, hH, hw2⟩ := Hd.of_wrF hw
  have hgh := hH.good hok hg
  have hfree := hH.end_
  obtain ⟨q2, s2, n2, us⟩ := h
  obtain ⟨vs, rfl, hvl, hkid⟩ := wrF_parts hgh hfree hw2
  have hgl := kids_good hgh
  have HV := hid hv
  obtain ⟨q, s, m, A, m9, c9, rfl⟩ := hv.agg
  have HT := hid hT
  have HL := hid (And.intro hT.blk.lt hT.row.lt)
  have HG := hid (And.intro hok (And.intro hg (And.intro (hd_eq hH) (And.intro hvl (And.intro hkid hgl)))))
  have HI := hid ih
  rw [nodes] at hn
  have hvn := length_nodes vs
  have Hn := hid (And.intro hn hvn)
  clear hv hT hok hg hH hw hw2 hgh hfree hvl hkid hgl ih hn hvn
  go_enter Tryd.func47, Tryd.ntmps47
  go_wp2_with (first | (go_at_call 54; go_must (refine (links_Head (fun b => S b ∧ b < w.heap.size) p pv c σ cur t _ _ (HT.out.narrow.up (by go_grown : Below w.heap.size w _)) HG.out.1 HG.out.2.1 (HV.out.narrow2.up (by go_grown : Below w.heap.size w _))).mono ?_); rintro e w1 ⟨⟨v', rfl, hv'⟩, b1⟩; go_must (rw [HG.out.2.2.1] at hv'; obtain ⟨A2, c2, rfl, k1, k2, k3, k4, k5, k6⟩ := hv'.parts; have b2 := hid (below_then (B := w.heap.size) b1 (by go_grown : Below w.heap.size w _) (by simp; omega)); have X1 := hid (((Blk.new w 24 #[.int .i64 q, .string s, .int .i64 m, .slice A m9 c9]).alloc _).below b1 (by simp; omega)); have O1 := hid ((Blk.new' (w := w.alloc (.cells #[.int .i64 q, .string s, .int .i64 m, .slice A m9 c9] 24)) (g := w.heap.size + 1) (by simp) 24 #[.int .i64 0, .string ⟨#[]⟩, .int .i64 0, .slice none 0 0]).below b1 (by simp)); have x0 : w1.cell? ⟨w.heap.size, 0, none⟩ = some (.int .i64 q) := X1.out.cell 0; have x1 : w1.cell? ⟨w.heap.size, 1, none⟩ = some (.string s) := X1.out.cell 1; have x2 : w1.cell? ⟨w.heap.size, 2, none⟩ = some (.int .i64 m) := X1.out.cell 2; have x3 : w1.cell? ⟨w.heap.size, 3, none⟩ = some (.slice A m9 c9) := X1.out.cell 3; have f0 := X1.out.frozen 0; have f1 := X1.out.frozen 1; have f2 := X1.out.frozen 2; have f3 := X1.out.frozen 3; have Y1 := hid (set4_blk (v0 := .int .i64 q2) (v1 := .string s2) (v2 := .int .i64 n2) (v3 := .slice A2 us.length c2) X1.out); have y0 : _ = some (Value.int .i64 q2) := Y1.out.cell 0; have y1 : _ = some (Value.string s2) := Y1.out.cell 1; have y2 : _ = some (Value.int .i64 n2) := Y1.out.cell 2; have y3 : _ = some (Value.slice A2 us.length c2) := Y1.out.cell 3; have KB := hid (And.intro (TRow.mono (T := fun b => S b ∧ b < w.heap.size) k4 (fun b hb _ => hb.1)) (And.intro k1 (And.intro k2 (And.intro k5 k6)))); clear k1 k2 k3 k4 k5 k6 b1 hv')))
  have hS0 : ¬ (S w.heap.size ∧ w.heap.size < w.heap.size) := fun h => by have := h.2; omega
  have B3 := hid (And.intro (KB.out.1.set4 (v0 := .int .i64 q2) (v1 := .string s2) (v2 := .int .i64 n2) (v3 := .slice A2 us.length c2) hS0) (And.intro Y1.out (And.intro (show Blk ((((w1.setCell ⟨w.heap.size, 0, none⟩ (.int .i64 q2)).setCell ⟨w.heap.size, 1, none⟩ (.string s2)).setCell ⟨w.heap.size, 2, none⟩ (.int .i64 n2)).setCell ⟨w.heap.size, 3, none⟩ (.slice A2 us.length c2)) (w.heap.size + 1) 24 #[.int .i64 0, .string ⟨#[]⟩, .int .i64 0, .slice none 0 0] from (set4_other (by omega)).trans O1.out) (And.intro (set4_below (v0 := .int .i64 q2) (v1 := .string s2) (v2 := .int .i64 n2) (v3 := .slice A2 us.length c2) b2.out (Nat.le_refl _))
    (((HT.out.narrow.up b2.out).set4 (v0 := .int .i64 q2) (v1 := .string s2) (v2 := .int .i64 n2) (v3 := .slice A2 us.length c2) hS0 (by have := HL.out; omega) (by have := HL.out; omega)).widen (T := S) (fun _ hk _ => hk.1) HT.out.pS HT.out.vS)))))
  have KW := hid KB.out.2
  clear X1 O1 Y1 KB x0 x1 x2 x3 f0 f1 f2 f3 y0 y1 y2 y3 b2 hS0
  revert B3
  generalize ((((w1.setCell ⟨w.heap.size, 0, none⟩ (.int .i64 q2)).setCell ⟨w.heap.size, 1, none⟩ (.string s2)).setCell ⟨w.heap.size, 2, none⟩ (.int .i64 n2)).setCell ⟨w.heap.size, 3, none⟩ (.slice A2 us.length c2)) = w3
  intro B3
  have hL : us.length ≤ 9223372036854775807 := by have h1 := KW.out.1; have h2 := KW.out.2.1; unfold maxLen at h2; omega
  go_loopg [5, 14] us.length (fun g lv x wr => ∃ (i : Nat) (A' : Option Addr) (c' : Nat) (xs : List Value), i + g = us.length ∧ x = .int .i64 i ∧ lv = .slice A' i c' ∧ Hid (Bld w3.heap.size vs i (.slice A' i c') xs wr) ∧ Hid (Below w3.heap.size w3 wr))
  case atStart => exact ⟨0, none, 0, [], by omega, rfl, rfl, hid (Bld.start _ _ _), hid (Below.refl _ _)⟩
  case round =>
    obtain ⟨i, A', c', xs, hi, rfl, rfl, hc, hB⟩ := hrel
    have Hi := hid hi
    by_cases hlt : i < us.length
    · have hlt' : (i : Int) < us.length := by omega
      obtain ⟨ad, q', s', n', A3, m', c3, rfl, hSb, hab, y0, y1, y2, y3, hel⟩ := (B3.out.1.up hB.out).elem hlt
      have hltv : i < vs.length := by have := HG.out.2.2.2.1; omega
      have Q := hid (And.intro (hel.mono (T := S) (fun _ hk _ => hk.1)) (And.intro (HG.out.2.2.2.2.1 i hlt hltv) (And.intro (goodL_mem HG.out.2.2.2.2.2 _ (List.getElem_mem hlt)) (show nodes vs[i] ≤ 900000 by have h1 := nodes_mem (List.getElem_mem hltv); have := Hn.out.1; omega))))
      have him : i + 1 ≤ 1000000 := by have h1 := Hn.out.1; have h2 := Hn.out.2; omega
      clear hi hSb hab hel
      go_wp2_with (first
        | (go_at_call 47; go_must (refine (HI.out us[i] vs[i] _ _ Q.out.2.2.2 Q.out.2.1 Q.out.2.2.1 (Q.out.1.up (by go_grown : Below wr.heap.size wr _)) ((B3.out.2.2.2.2.up hB.out).up (by go_grown : Below wr.heap.size wr _))).mono ?_); rintro e w4 ⟨⟨v, rfl, hv⟩, b1⟩; go_must (obtain ⟨q9, s9, n9, A9, m7, c7, rfl⟩ := hv.agg; have b2 := hid (below_then (B := wr.heap.size) (w := wr) b1 (by go_grown : Below wr.heap.size wr _) (by simp)); have J := hid (hv.mono (T := fun b => wr.heap.size ≤ b) (fun b hb _ => by simp at hb; omega)); clear b1 hv))
        | (at_builtin; go_must (refine wpList_appT (by rfl) _ _ (by rfl) w3.heap.size (by rfl) (n := i) (World.ownsRow.alloc (hc.out.up b2.out).row _) (by rfl) (by rfl) (cells_lit _ (by simp) _ _ _ _ _) (by simp [Value.oneCell']) him (by have h1 := b2.out.size; have h2 := hB.out.size; simp; omega) ?_); intro v' w2 hr2 hg2 hn2; go_must (obtain ⟨A6, c6, rfl, _⟩ := row_slice hr2; have N := hid (hc.out.next hB.out.size hltv b2.out J.out hr2 hg2 hn2); clear hr2 hg2 hn2)))
      have hgk := Hi.out
      go_roundg (gk - 1)
      case rel => exact ⟨i + 1, A6, c6, _, by omega, rfl, rfl, hid N.out.1, hid (hB.out.trans N.out.2)⟩
      case measure => omega
    · obtain rfl : i = us.length := by omega
      clear hi
      have hX := hid (B3.out.2.1.below hB.out B3.out.2.1.lt)
      have hO := hid (B3.out.2.2.1.below hB.out B3.out.2.2.1.lt)
      have X1 := hid (hX.out.set_ 3 (.slice A' us.length c'))
      have x0 : (wr.setCell ⟨w.heap.size, 3, none⟩ (.slice A' us.length c')).cell? ⟨w.heap.size, 0, none⟩ = some (.int .i64 q2) := X1.out.cell 0
      have x1 : (wr.setCell ⟨w.heap.size, 3, none⟩ (.slice A' us.length c')).cell? ⟨w.heap.size, 1, none⟩ = some (.string s2) := X1.out.cell 1
      have x2 : (wr.setCell ⟨w.heap.size, 3, none⟩ (.slice A' us.length c')).cell? ⟨w.heap.size, 2, none⟩ = some (.int .i64 n2) := X1.out.cell 2
      have x3 : (wr.setCell ⟨w.heap.size, 3, none⟩ (.slice A' us.length c')).cell? ⟨w.heap.size, 3, none⟩ = some (.slice A' us.length c') := X1.out.cell 3
      have y3 : wr.cell? ⟨w.heap.size, 3, none⟩ = some (.slice A2 us.length c2) := hX.out.cell 3
      have f3 := hX.out.frozen 3
      have OUT : Hid (Blk (wr.setCell ⟨w.heap.size, 3, none⟩ (.slice A' us.length c')) (w.heap.size + 1) 24 #[.int .i64 0, .string ⟨#[]⟩, .int .i64 0, .slice none 0 0]) := hid (hO.out.far (p := ⟨w.heap.size, 3, none⟩) (by dsimp only; omega) _); have o0 : (wr.setCell ⟨w.heap.size, 3, none⟩ (.slice A' us.length c')).cell? ⟨w.heap.size + 1, 0, none⟩ = some (.int .i64 0) := OUT.out.cell 0; have o1 : (wr.setCell ⟨w.heap.size, 3, none⟩ (.slice A' us.length c')).cell? ⟨w.heap.size + 1, 1, none⟩ = some (.string ⟨#[]⟩) := OUT.out.cell 1; have o2 : (wr.setCell ⟨w.heap.size, 3, none⟩ (.slice A' us.length c')).cell? ⟨w.heap.size + 1, 2, none⟩ = some (.int .i64 0) := OUT.out.cell 2; have o3 : (wr.setCell ⟨w.heap.size, 3, none⟩ (.slice A' us.length c')).cell? ⟨w.heap.size + 1, 3, none⟩ = some (.slice none 0 0) := OUT.out.cell 3; have g0 := OUT.out.frozen 0; have g1 := OUT.out.frozen 1; have g2 := OUT.out.frozen 2; have g3 := OUT.out.frozen 3
      have h3s := B3.out.2.2.1.lt
      have H3s := hid h3s
      clear h3s
      go_wp2
      have hd := hc.out
      rw [← HG.out.2.2.2.1] at hd
      refine ret_type rfl (by rfl) (set4_blk OUT.out) rfl ⟨⟨_, rfl, ?_⟩, set4_below (below_set (B3.out.2.2.2.1.trans (hB.out.mono (by have := H3s.out; omega))) (Nat.le_refl _) _) (by omega)⟩
      rw [← HG.out.2.2.2.1]
      exact row_done (hd.far (g := w.heap.size) (j := 3) (by have := H3s.out; omega) _) KW.out.2.2.1 KW.out.2.2.2 (fun j hj _ => set4_other (by have := H3s.out; omega)) (fun j hj => by have := H3s.out; omega)
theorem links_out (S : Nat → Prop) (p pv c : Nat) (σ : Sg) (cur : Array Value) (hok : Ok σ) : ∀ k, OutC S p pv c σ cur k
  | 0 => fun t u v w _ hw => by cases hw
  | k + 1 => out_node S p pv c σ cur k hok (links_out S p pv c σ cur hok k)
end Go.Proofs.YtnlifgcnmhakiaaDoor
