/-
  THE WALKS OF athanorref12.CopyType: the same type, in new memory.
-/
import Derived.Test.YtnlifgcnmhakiaaDoorTRow
namespace Go.Proofs.YtnlifgcnmhakiaaDoor
open Go.ChangeShapes Go.WideShapes Go.ChangeAt Go.RowKit

/-- What copyTypes tells. -/
def CopysP (us : List Ty) (w : World) (e : Ending) (w' : World) : Prop :=
  (∃ A c, e = .returned (.slice A us.length c) ∧ us.length ≤ c ∧ c ≤ maxLen ∧ (A = none → us = [] ∧ c = 0) ∧ TRow w' (fun b => w.heap.size ≤ b) us A 0) ∧ Below w.heap.size w w'
set_option maxHeartbeats 4000000 in
set_option maxRecDepth 100000 in
theorem copy_row (A : Option Addr) (us : List Ty) (c : Nat) (S : Nat → Prop) (w : World) (hn : nodesL us ≤ 900000) (hrow : TRow w S us A 0) (hc1 : us.length ≤ c) (hc2 : c ≤ maxLen)
    (ih : ∀ k s n vs, Ty.mk k s n vs ∈ us → ∀ (A : Option Addr) (c : Nat) (S : Nat → Prop) (w : World), TRow w S vs A 0 → vs.length ≤ c → c ≤ maxLen → Calls Tryd.prog 39 #[.slice A vs.length c] w (CopysP vs w)) :
    Calls Tryd.prog 39 #[.slice A us.length c] w (CopysP us w) := by
  have hl := length_nodes us
  have H := hid (And.intro hrow (And.intro ih (And.intro hc1 hc2)))
  clear hrow ih hc1 hc2
  go_enter Tryd.func39, Tryd.ntmps39
  go_wp2
  go_loopg [3, 4] us.length (fun g lv x wr => ∃ (i : Nat) (A' : Option Addr) (c' : Nat) (xs : List Value), i + g = us.length ∧ x = .int .i64 i ∧ lv = .slice A' i c' ∧ Hid (Bld w.heap.size us i (.slice A' i c') xs wr) ∧ Hid (Below w.heap.size w wr))
  case atStart => exact ⟨0, none, 0, [], by omega, rfl, rfl, hid (Bld.start _ _ _), hid (Below.refl _ _)⟩
  case round =>
    obtain ⟨i, A', c', xs, hi, rfl, rfl, hc, hB⟩ := hrel
    have Hi := hid hi
    by_cases hlt : i < us.length
    · have hlt' : (i : Int) < us.length := by omega
      obtain ⟨ad, q', s', n', A3, m', c3, rfl, hSb, hab, y0, y1, y2, y3, hel⟩ := (H.out.1.up hB.out).elem hlt
      obtain ⟨vs, hvs⟩ : ∃ vs, us[i] = .mk q' s' n' vs ∧ vs.length = m' := by
        have h9 := hel
        generalize us[i] = t at h9
        obtain ⟨a, b, d, vs⟩ := t
        obtain ⟨A4, c4, e4, _⟩ := h9.parts
        simp only [Value.agg.injEq, Array.mk.injEq, List.cons.injEq, and_true, Value.int.injEq, Value.string.injEq, Value.slice.injEq, true_and] at e4
        exact ⟨vs, by rw [e4.1, e4.2.1, e4.2.2.1], e4.2.2.2.2.1.symm⟩
      obtain ⟨hvs, rfl⟩ := hvs
      have hmem : Ty.mk q' s' n' vs ∈ us := by rw [← hvs]; exact List.getElem_mem hlt
      rw [hvs] at hel
      obtain ⟨A4, c4, e4, k1, k2, k3, k4, k5, k6⟩ := hel.parts
      simp only [Value.agg.injEq, Array.mk.injEq, List.cons.injEq, and_true, Value.slice.injEq, true_and] at e4
      obtain ⟨rfl, rfl⟩ := e4
      have Q := hid (And.intro hmem (And.intro k1 (And.intro k2 (And.intro k4 (And.intro k5 (And.intro k6 hvs))))))
      clear hi hSb hab hel hmem k1 k2 k3 k4 k5 k6 hvs
      go_wp2_with (first
        | (go_at_call 39; go_must (refine (H.out.2.1 q' s' n' vs Q.out.1 _ _ _ _ (Q.out.2.2.2.1.up (by go_grown : Below wr.heap.size wr _)) Q.out.2.1 Q.out.2.2.1).mono ?_); rintro e w1 ⟨⟨A5, c5, rfl, j1, j2, j3, j4⟩, b1⟩; go_must (have X1 := hid ((Blk.new wr 24 #[.int .i64 q', .string s', .int .i64 n', .slice A3 vs.length c3]).below b1 (by simp)); have f3 := X1.out.frozen 3; have x3 : w1.cell? ⟨wr.heap.size, 3, none⟩ = some (.slice A3 vs.length c3) := X1.out.cell 3; have X2 := hid (X1.out.set_ 3 (.slice A5 vs.length c5)); have x0 : (w1.setCell ⟨wr.heap.size, 3, none⟩ (.slice A5 vs.length c5)).cell? ⟨wr.heap.size, 0, none⟩ = some (.int .i64 q') := X2.out.cell 0; have x1 : (w1.setCell ⟨wr.heap.size, 3, none⟩ (.slice A5 vs.length c5)).cell? ⟨wr.heap.size, 1, none⟩ = some (.string s') := X2.out.cell 1; have x2 : (w1.setCell ⟨wr.heap.size, 3, none⟩ (.slice A5 vs.length c5)).cell? ⟨wr.heap.size, 2, none⟩ = some (.int .i64 n') := X2.out.cell 2; have x4 : (w1.setCell ⟨wr.heap.size, 3, none⟩ (.slice A5 vs.length c5)).cell? ⟨wr.heap.size, 3, none⟩ = some (.slice A5 vs.length c5) := X2.out.cell 3; have b2 := hid (below_set (B := wr.heap.size) (below_then (B := wr.heap.size) (w := wr) b1 (by go_grown : Below wr.heap.size wr _) (by simp)) (Nat.le_refl _) (.slice A5 vs.length c5) (i := 3)); have J := hid (And.intro j1 (And.intro j2 (And.intro j3 (And.intro j4 b1)))); clear j1 j2 j3 j4 b1))
        | (at_builtin; go_must (refine wpList_appT (by rfl) _ _ (by rfl) w.heap.size (by rfl) (n := i) (World.ownsRow.alloc (hc.out.up b2.out).row _) (by rfl) (by rfl) (cells_lit _ (by simp) _ _ _ _ _) (by simp [Value.oneCell']) (by omega) (by have h1 := b2.out.size; have h2 := hB.out.size; simp at h1 ⊢; omega) ?_); intro v' w2 hr2 hg2 hn2; go_must (obtain ⟨A6, c6, rfl, _⟩ := row_slice hr2; have N := hid (hc.out.next hB.out.size hlt b2.out (by rw [Q.out.2.2.2.2.2.2]; exact TAt.make rfl J.out.1 J.out.2.1 J.out.2.2.1 (TRow.keep (fun k hk hl => ⟨Below.heap_setCell _ _ _ _ (by dsimp only; simp at hk; omega), by simp at hk; omega⟩) _ _ _ J.out.2.2.2.1) Q.out.2.2.2.2.1 Q.out.2.2.2.2.2.1) hr2 hg2 hn2); clear hr2 hg2 hn2)))
      have hgk := Hi.out
      go_roundg (gk - 1)
      case rel => exact ⟨i + 1, A6, c6, _, by omega, rfl, rfl, hid N.out.1, hid (hB.out.trans N.out.2)⟩
      case measure => omega
    · obtain rfl : i = us.length := by omega
      clear hi
      go_wp2
      go_ret
      obtain ⟨_, h1, h2, h3, h4⟩ := hc.out.done rfl
      exact ⟨⟨A', c', rfl, h1, h2, h3, h4⟩, hB.out⟩
/-- copyTypes, of whatever row that is not too large. -/
theorem ref12_copyTypes : ∀ (N : Nat) (us : List Ty), nodesL us ≤ N → N ≤ 900000 → ∀ (A : Option Addr) (c : Nat) (S : Nat → Prop) (w : World), TRow w S us A 0 → us.length ≤ c → c ≤ maxLen → Calls Tryd.prog 39 #[.slice A us.length c] w (CopysP us w) := by
  intro N
  induction N with
  | zero =>
    intro us hu _ A c S w hr h1 h2
    exact copy_row A us c S w (by omega) hr h1 h2 (fun k s n vs hm => by have := nodes_mem hm; rw [nodes] at this; omega)
  | succ N ih =>
    intro us hu hN A c S w hr h1 h2
    exact copy_row A us c S w (by omega) hr h1 h2 (fun k s n vs hm => ih vs (by have := nodes_mem hm; rw [nodes] at this; omega) (by omega))
/-- What CopyType tells. -/
def CopyP (t : Ty) (w : World) (e : Ending) (w' : World) : Prop := (∃ v, e = .returned v ∧ TAt w' (fun b => w.heap.size ≤ b) t v) ∧ Below w.heap.size w w'
set_option maxHeartbeats 4000000 in
set_option maxRecDepth 100000 in
theorem ref12_CopyType (t : Ty) (v : Value) (S : Nat → Prop) (w : World) (hn : nodes t ≤ 20000) (hv : TAt w S t v) : Calls Tryd.prog 25 #[v] w (CopyP t w) := by
  have HV := hid hv
  obtain ⟨q, s, k, A, m, c, rfl⟩ := hv.agg
  clear hv
  go_enter Tryd.func25, Tryd.ntmps25
  go_wp2_with (go_at_call 39; go_must (refine (ref12_copyTypes 20000 [t] (by rw [nodesL, nodesL]; omega) (by omega) _ _ (fun _ => True) _ (Blk.row1 (t := t) (Blk.new' (by simp) _ _) trivial (HV.out.all.up (by go_grown : Below w.heap.size w _))) (by simp) (by unfold maxLen; simp)).mono ?_); rintro e w1 ⟨⟨A5, c5, rfl, j1, j2, j3, j4⟩, b1⟩; go_must (obtain ⟨ad, q', s', n', A3, m', c3, rfl, hSb, hab, y0, y1, y2, y3, hel⟩ := j4.elem (k := 0) (by simp); have e0 : ad.add (0 * 4) = ad := (by unfold Addr.add; simp); rw [e0] at y0 y1 y2 y3; have J := hid (And.intro hel (And.intro hSb b1)); have OUT : Hid (Blk (w1) (w.heap.size + 1) 24 #[.int .i64 0, .string ⟨#[]⟩, .int .i64 0, .slice none 0 0]) := hid (((Blk.new' (by simp) _ _).alloc _).below b1 (by simp)); have o0 : (w1).cell? ⟨w.heap.size + 1, 0, none⟩ = some (.int .i64 0) := OUT.out.cell 0; have o1 : (w1).cell? ⟨w.heap.size + 1, 1, none⟩ = some (.string ⟨#[]⟩) := OUT.out.cell 1; have o2 : (w1).cell? ⟨w.heap.size + 1, 2, none⟩ = some (.int .i64 0) := OUT.out.cell 2; have o3 : (w1).cell? ⟨w.heap.size + 1, 3, none⟩ = some (.slice none 0 0) := OUT.out.cell 3; have g0 := OUT.out.frozen 0; have g1 := OUT.out.frozen 1; have g2 := OUT.out.frozen 2; have g3 := OUT.out.frozen 3; clear hSb hab hel b1 j1 j2 j3 j4 e0))
  refine ret_type rfl (by rfl) (set4_blk OUT.out) rfl ⟨⟨_, rfl, J.out.1.keep (fun k hk hl => ⟨set4_other (by simp at hk; omega), by simp at hk; omega⟩)⟩, set4_below (below_then J.out.2.2 (by go_grown : Below w.heap.size w _) (by simp; omega)) (by omega)⟩
set_option maxHeartbeats 4000000 in
set_option maxRecDepth 100000 in
theorem law15_copied (t : Ty) (v : Value) (S : Nat → Prop) (w : World) (hn : nodes t ≤ 20000) (hv : TAt w S t v) : Calls Tryd.prog 8 #[v] w (CopyP t w) := by
  have HV := hid hv
  obtain ⟨q, s, k, A, m, c, rfl⟩ := hv.agg
  clear hv
  go_enter Tryd.func8, Tryd.ntmps8
  go_wp2_with (go_at_call 25; go_must (refine (ref12_CopyType t _ (fun _ => True) _ hn (HV.out.all.up (by go_grown : Below w.heap.size w _))).mono ?_); rintro e w1 ⟨⟨v, rfl, hv⟩, b1⟩; go_must (obtain ⟨q9, s9, k9, A9, m9, c9, rfl⟩ := hv.agg; have J := hid (And.intro hv b1); have OUT : Hid (Blk (w1) (w.heap.size + 1) 24 #[.int .i64 0, .string ⟨#[]⟩, .int .i64 0, .slice none 0 0]) := hid ((Blk.new' (by simp) _ _).below b1 (by simp)); have o0 : (w1).cell? ⟨w.heap.size + 1, 0, none⟩ = some (.int .i64 0) := OUT.out.cell 0; have o1 : (w1).cell? ⟨w.heap.size + 1, 1, none⟩ = some (.string ⟨#[]⟩) := OUT.out.cell 1; have o2 : (w1).cell? ⟨w.heap.size + 1, 2, none⟩ = some (.int .i64 0) := OUT.out.cell 2; have o3 : (w1).cell? ⟨w.heap.size + 1, 3, none⟩ = some (.slice none 0 0) := OUT.out.cell 3; have g0 := OUT.out.frozen 0; have g1 := OUT.out.frozen 1; have g2 := OUT.out.frozen 2; have g3 := OUT.out.frozen 3; clear hv b1))
  refine ret_type rfl (by rfl) (set4_blk OUT.out) rfl ⟨⟨_, rfl, J.out.1.keep (fun k hk hl => ⟨set4_other (by simp at hk; omega), by simp at hk; omega⟩)⟩, set4_below (below_then J.out.2 (by go_grown : Below w.heap.size w _) (by simp; omega)) (by omega)⟩
end Go.Proofs.YtnlifgcnmhakiaaDoor
