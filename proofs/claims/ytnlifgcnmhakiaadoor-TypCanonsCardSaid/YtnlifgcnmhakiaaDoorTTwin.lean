/-
  THE WALK OF links.twin: the same type, in new memory.
-/
import Derived.Test.YtnlifgcnmhakiaaDoorTCopy
namespace Go.Proofs.YtnlifgcnmhakiaaDoor
open Go.ChangeShapes Go.WideShapes Go.ChangeAt Go.RowKit

theorem Bld.far {R : Nat} {us : List Ty} {i : Nat} {v : Value} {xs : List Value} {w : World} (h : Bld R us i v xs w) {g j : Nat} (hg : g < R) (u : Value) : Bld R us i v xs (w.setCell ⟨g, j, none⟩ u) := h.keep (fun k hk _ => Below.heap_setCell _ ⟨g, j, none⟩ _ k (by dsimp only; omega))
/-- The end of a function that puts a row into its box, and hands the box back. -/
theorem row_done {R : Nat} {us : List Ty} {A : Option Addr} {c m : Nat} {xs : List Value} {w w' : World} {q k : Int} {s : ByteArray} {S : Nat → Prop} (h : Bld R us us.length (.slice A m c) xs w) (hq : (Lit.int .i64 q).wf = true) (hk : (Lit.int .i64 k).wf = true) (hw : ∀ j, R ≤ j → j < w.heap.size → w'.heap[j]? = w.heap[j]?) (hS : ∀ j, R ≤ j → S j) :
    TAt w' S (.mk q s k us) (.agg #[.int .i64 q, .string s, .int .i64 k, .slice A m c]) := by
  obtain ⟨rfl, h1, h2, h3, h4⟩ := h.done rfl
  exact TAt.make rfl h1 h2 h3 (TRow.keep (fun j hj hl => ⟨hw j hj hl, hS j hj⟩) _ _ _ h4) hq hk
set_option maxHeartbeats 4000000 in
set_option maxRecDepth 100000 in
theorem twin_node (q : Int) (s : ByteArray) (k : Int) (A : Option Addr) (us : List Ty) (c : Nat) (S : Nat → Prop) (w : World) (hq : (Lit.int .i64 q).wf = true) (hk : (Lit.int .i64 k).wf = true) (hn : nodesL us ≤ 900000) (hrow : TRow w S us A 0) (_hm : us.length ≤ maxLen)
    (ih : ∀ t ∈ us, ∀ (v : Value) (S : Nat → Prop) (w : World), TAt w S t v → Calls Tryd.prog 63 #[v] w (CopyP t w)) :
    Calls Tryd.prog 63 #[.agg #[.int .i64 q, .string s, .int .i64 k, .slice A us.length c]] w (CopyP (.mk q s k us) w) := by
  have hl := length_nodes us
  have H := hid (And.intro hrow (And.intro ih (And.intro hq hk)))
  clear hrow ih hq hk
  go_enter Tryd.func63, Tryd.ntmps63
  go_wp2
  go_loopg [3, 9] us.length (fun g lv x wr => ∃ (i : Nat) (A' : Option Addr) (c' : Nat) (xs : List Value), i + g = us.length ∧ x = .int .i64 i ∧ lv = .slice A' i c' ∧ Hid (Bld (w.heap.size + 2) us i (.slice A' i c') xs wr) ∧ Hid (Below w.heap.size w wr) ∧ Hid (Blk wr w.heap.size 24 #[.int .i64 q, .string s, .int .i64 k, .slice A us.length c]) ∧ Hid (Blk wr (w.heap.size + 1) 24 #[.int .i64 0, .string ⟨#[]⟩, .int .i64 0, .slice none 0 0]))
  case atStart => exact ⟨0, none, 0, [], by omega, rfl, rfl, hid (Bld.start _ _ _), hid (below_2 (Below.refl w.heap.size w) _ _), hid ((Blk.new _ _ _).alloc _), hid (Blk.new' (by simp) _ _)⟩
  case round =>
    obtain ⟨i, A', c', xs, hi, rfl, rfl, hc, hB, hX, hO⟩ := hrel
    have Hi := hid hi
    by_cases hlt : i < us.length
    · have hlt' : (i : Int) < us.length := by omega
      obtain ⟨ad, q', s', n', A3, m', c3, rfl, hSb, hab, y0, y1, y2, y3, hel⟩ := (H.out.1.up hB.out).elem hlt
      have Q := hid (And.intro hel (List.getElem_mem hlt))
      clear hi hSb hab hel
      go_wp2_with (first
        | (go_at_call 63; go_must (refine (H.out.2.1 us[i] Q.out.2 _ (fun _ => True) _ (Q.out.1.all.up (by go_grown : Below wr.heap.size wr _))).mono ?_); rintro e w1 ⟨⟨v, rfl, hv⟩, b1⟩; go_must (obtain ⟨q9, s9, n9, A9, m9, c9, rfl⟩ := hv.agg; have b2 := hid (below_then (B := wr.heap.size) (w := wr) b1 (by go_grown : Below wr.heap.size wr _) (by simp)); have J := hid (hv.mono (T := fun b => wr.heap.size ≤ b) (fun b hb _ => by simp at hb; omega)); clear b1 hv))
        | (at_builtin; go_must (refine wpList_appT (by rfl) _ _ (by rfl) (w.heap.size + 2) (by rfl) (n := i) (World.ownsRow.alloc (hc.out.up b2.out).row _) (by rfl) (by rfl) (cells_lit _ (by simp) _ _ _ _ _) (by simp [Value.oneCell']) (by omega) (by have h1 := b2.out.size; have h2 := hO.out.lt; simp; omega) ?_); intro v' w2 hr2 hg2 hn2; go_must (obtain ⟨A6, c6, rfl, _⟩ := row_slice hr2; have N := hid (hc.out.next (by have := hO.out.lt; omega) hlt b2.out J.out hr2 hg2 hn2); clear hr2 hg2 hn2)))
      have hgk := Hi.out
      go_roundg (gk - 1)
      case rel => exact ⟨i + 1, A6, c6, _, by omega, rfl, rfl, hid N.out.1, hid (hB.out.trans (N.out.2.mono (by omega))), hid (hX.out.below N.out.2 (by omega)), hid (hO.out.below N.out.2 (by omega))⟩
      case measure => omega
    · obtain rfl : i = us.length := by omega
      clear hi
      have X1 := hid (hX.out.set_ 3 (.slice A' us.length c'))
      have x0 : (wr.setCell ⟨w.heap.size, 3, none⟩ (.slice A' us.length c')).cell? ⟨w.heap.size, 0, none⟩ = some (.int .i64 q) := X1.out.cell 0
      have x1 : (wr.setCell ⟨w.heap.size, 3, none⟩ (.slice A' us.length c')).cell? ⟨w.heap.size, 1, none⟩ = some (.string s) := X1.out.cell 1
      have x2 : (wr.setCell ⟨w.heap.size, 3, none⟩ (.slice A' us.length c')).cell? ⟨w.heap.size, 2, none⟩ = some (.int .i64 k) := X1.out.cell 2
      have x3 : (wr.setCell ⟨w.heap.size, 3, none⟩ (.slice A' us.length c')).cell? ⟨w.heap.size, 3, none⟩ = some (.slice A' us.length c') := X1.out.cell 3
      have y3 : wr.cell? ⟨w.heap.size, 3, none⟩ = some (.slice A us.length c) := hX.out.cell 3
      have f3 := hX.out.frozen 3
      have OUT : Hid (Blk (wr.setCell ⟨w.heap.size, 3, none⟩ (.slice A' us.length c')) (w.heap.size + 1) 24 #[.int .i64 0, .string ⟨#[]⟩, .int .i64 0, .slice none 0 0]) := hid (hO.out.far (p := ⟨w.heap.size, 3, none⟩) (by dsimp only; omega) _); have o0 : (wr.setCell ⟨w.heap.size, 3, none⟩ (.slice A' us.length c')).cell? ⟨w.heap.size + 1, 0, none⟩ = some (.int .i64 0) := OUT.out.cell 0; have o1 : (wr.setCell ⟨w.heap.size, 3, none⟩ (.slice A' us.length c')).cell? ⟨w.heap.size + 1, 1, none⟩ = some (.string ⟨#[]⟩) := OUT.out.cell 1; have o2 : (wr.setCell ⟨w.heap.size, 3, none⟩ (.slice A' us.length c')).cell? ⟨w.heap.size + 1, 2, none⟩ = some (.int .i64 0) := OUT.out.cell 2; have o3 : (wr.setCell ⟨w.heap.size, 3, none⟩ (.slice A' us.length c')).cell? ⟨w.heap.size + 1, 3, none⟩ = some (.slice none 0 0) := OUT.out.cell 3; have g0 := OUT.out.frozen 0; have g1 := OUT.out.frozen 1; have g2 := OUT.out.frozen 2; have g3 := OUT.out.frozen 3
      go_wp2
      refine ret_type rfl (by rfl) (set4_blk OUT.out) rfl ⟨⟨_, rfl, row_done (hc.out.far (g := w.heap.size) (j := 3) (by omega) _) H.out.2.2.1 H.out.2.2.2 (fun j hj _ => set4_other (by omega)) (fun j hj => by omega)⟩, set4_below (below_set hB.out (Nat.le_refl _) _) (by omega)⟩
theorem links_twin : ∀ (N : Nat) (t : Ty), SizeOf.sizeOf t ≤ N → nodes t ≤ 900000 → ∀ (v : Value) (S : Nat → Prop) (w : World), TAt w S t v → Calls Tryd.prog 63 #[v] w (CopyP t w) := by
  intro N
  induction N with
  | zero => intro t ht; cases t; simp at ht
  | succ N ih =>
  intro t ht hn v S w hv
  obtain ⟨q, s, k, us⟩ := t
  obtain ⟨A, c2, rfl, hc, hcm, _, hrow, hq, hk⟩ := hv.parts
  rw [nodes] at hn
  exact twin_node q s k A us c2 S w hq hk (by omega) hrow (Nat.le_trans hc hcm) (fun t hm => ih t (by have := ty_lt (k := q) (n := k) (s := s) hm; omega) (by have := nodes_mem hm; omega))
end Go.Proofs.YtnlifgcnmhakiaaDoor
