/-
  THE WALK OF athanorref17.CopyVal: the same value, in new memory.
-/
import Derived.Test.YtgakmfcnddholaaCWeigh
namespace Go.Proofs.Ytgakmfcnddholaa
open Go.ChangeShapes Go.WideShapes Go.ChangeAt Go.RowKit

theorem info_val : InfoIs Try.prog 33 (.agg #[.bool false, .int .i64 0, .slice none 0 0]) 3 40 := by unfold InfoIs; kernel_rfl
/-- append of one value onto a row of values of one's own: the row lies where it lay, or in a new block. -/
theorem run_appV (w : World) (ty : TypeId) (B : Nat) {v : Value} {n : Nat} {xs : List Value} (hown : w.ownsRow B 33 3 v n xs) {ad : Addr} {c : Nat} {news : List Value} (hl : news.length = 3) (hcell : ∀ j u, news[j]? = some u → w.cell? (ad.add j) = some u) (h1 : ∀ u ∈ news, u.oneCell' = true) (hlen : n + 1 ≤ 1000000) (hB : B ≤ w.heap.size) :
    ∃ v' w', (Builtin.append_ #[31, 31] ty #[v, .slice (some ad) 1 c]).run Try.prog w = .ok v' w' ∧ w'.ownsRow B 33 3 v' (n + 1) (xs ++ news) ∧ w.grownBy w' v.ownBlock ∧
      (∀ g, v'.ownBlock = some g → v.ownBlock = some g ∨ w.heap.size ≤ g) := by
  obtain ⟨i, hi1, hz, hs1, hs2⟩ := info_val.parts
  obtain ⟨v', w', hr, h2, h3, _⟩ := run_append_own (P := Try.prog) w B 31 ty 33 i _ 3 40 Try.underlying31 hi1 hz hs1 hs2 rfl (by omega) v n _ hown ad 1 c news (by omega) hcell h1 (by unfold maxLen; omega) (by omega) hB
  refine ⟨v', w', hr, h2, h3, fun g hg => ?_⟩
  rcases hown.2 with ⟨rfl, hn0⟩ | ⟨g0, cap, cur, rfl, hbg, hgg, hnc, hcm, hcs, htake⟩
  · right
    subst hn0
    have hx : xs = [] := List.length_eq_zero_iff.1 (by have := hown.1; simpa using this)
    subst hx
    obtain ⟨v2, w2, hr2, h22, _, _⟩ := run_append_own (P := Try.prog) w w.heap.size 31 ty 33 i _ 3 40 Try.underlying31 hi1 hz hs1 hs2 rfl (by omega) (.slice none 0 0) 0 [] (World.ownsRow_nil w w.heap.size 33 3) ad 1 c news (by omega) hcell h1 (by unfold maxLen; omega) (by omega) (Nat.le_refl _)
    rw [hr] at hr2
    injection hr2 with e1 e2
    subst e1
    exact (h22.lt g hg).1
  · by_cases hroom : n + 1 ≤ cap
    · left
      have hr2 := run_append_room (P := Try.prog) w 31 ty 33 i Try.underlying31 hi1 g0 n cap cur hgg ad 1 c news (by omega) hcell h1 hroom (by rw [hs1, hl, hcs]; omega)
      rw [hr] at hr2
      injection hr2 with e1 e2
      subst e1
      exact hg
    · right
      have hr2 := run_append_grow (P := Try.prog) w 31 ty 33 i _ Try.underlying31 hi1 hz ⟨g0, 0, none⟩ n cap xs (by rw [hs1]; exact hown.1) (hown.cells (g := g0) rfl) ad 1 c news (by omega) hcell (by omega) (by omega) (growslice_fits (by omega) (by rw [hs2]; omega))
      rw [hr] at hr2
      injection hr2 with e1 e2
      subst e1
      simp [Value.ownBlock] at hg
      omega
theorem wpList_appV {w : World} {ops : Array Oper} {rest : List Oper} {o : Oper} {a : Act} {Q : Exit → Act → World → Prop} (hgd : o.guard = none) (s x : Operand)
    (ho : o.op = .call { callee := .builtin .append, args := #[s, x], argTypes := #[31, 31] })
    (B : Nat) {v : Value} {n : Nat} {xs : List Value} (hs : a.eval s = v) (hown : w.ownsRow B 33 3 v n xs) {ad : Addr} {c : Nat} {news : List Value} (hx : a.eval x = .slice (some ad) 1 c) (hl : news.length = 3) (hcell : ∀ j u, news[j]? = some u → w.cell? (ad.add j) = some u) (h1 : ∀ u ∈ news, u.oneCell' = true)
    (hlen : n + 1 ≤ 1000000) (hB : B ≤ w.heap.size)
    (h : ∀ v' w', w'.ownsRow B 33 3 v' (n + 1) (xs ++ news) → w.grownBy w' v.ownBlock → (∀ g, v'.ownBlock = some g → v.ownBlock = some g ∨ w.heap.size ≤ g) → wpList Try.prog ops Q rest (a.put o.dst v') w') : wpList Try.prog ops Q (o :: rest) a w := by
  refine wpList_plain hgd fun _ hK => ?_
  obtain ⟨v', w', hr, r1, r2, r3⟩ := run_appV w o.type B hown hl hcell h1 hlen hB
  unfold Oper.wp execOp
  simp only [ho, resolve, invoke, builtin, Sem.run_bind, Sem.run_pure, Result.andThen_ok, List.map_toArray, List.map_cons, List.map_nil, hs, hx]
  rw [hr]
  exact hK _ _ (h v' w' r1 r2 r3)
/-- A literal of one value, just built. -/
theorem cells_lit1 (w : World) (t : TypeId) (v0 v1 v2 : Value) : ∀ j u, [v0, v1, v2][j]? = some u → (w.alloc (.cells #[v0, v1, v2] t)).cell? ((⟨w.heap.size, 0, none⟩ : Addr).add j) = some u := by
  intro j u hj
  have hp : (⟨w.heap.size, 0, none⟩ : Addr).add j = ⟨w.heap.size, j, none⟩ := by unfold Addr.add; split <;> simp_all
  rw [hp, (Blk.new w t #[v0, v1, v2]).cell j]
  simpa using hj
theorem row_slice {w : World} {B n : Nat} {v : Value} {xs : List Value} (h : w.ownsRow B 33 3 v n xs) : ∃ A c, v = .slice A n c ∧ n ≤ c ∧ c ≤ maxLen ∧ (A = none → n = 0 ∧ c = 0) ∧ ∀ a, A = some a → a.spot = none ∧ a.off = 0 := by
  rcases h.2 with ⟨rfl, rfl⟩ | ⟨g, cap, cur, rfl, _, _, h1, h2, _⟩
  · exact ⟨none, 0, rfl, Nat.le_refl _, Nat.zero_le _, fun _ => ⟨rfl, rfl⟩, fun a ha => (by cases ha)⟩
  · exact ⟨_, cap, rfl, h1, h2, fun h => (by cases h), fun a ha => (by cases ha; exact ⟨rfl, rfl⟩)⟩
/-- A row of one's own, where its block has not turned. -/
theorem row_keep {w w' : World} {B n : Nat} {v : Value} {xs : List Value} {e : TypeId} {sz : Nat} (h : w.ownsRow B e sz v n xs) (hk : ∀ g, v.ownBlock = some g → w'.heap[g]? = w.heap[g]?) : w'.ownsRow B e sz v n xs := by
  refine ⟨h.1, ?_⟩
  rcases h.2 with h2 | ⟨g, cap, cur, rfl, hB, hg, rest⟩
  · exact .inl h2
  · exact .inr ⟨g, cap, cur, rfl, hB, (hk g rfl).trans hg, rest⟩

/-- What CopyVal's loop keeps. -/
structure CInv (us : List Tr) (bx : Array Value) (W : World) (i : Nat) (v : Value) (xs : List Value) (wr : World) : Prop where
  row : wr.ownsRow (W.heap.size + 2) 33 3 v i xs
  kids : ∀ j, (hj : j < us.length) → j < i → ∃ v0 v1 v2, xs[j * 3]? = some v0 ∧ xs[j * 3 + 1]? = some v1 ∧ xs[j * 3 + 2]? = some v2 ∧ VAtS wr (fun b => W.heap.size + 2 ≤ b ∧ v.ownBlock ≠ some b) us[j] (.agg #[v0, v1, v2])
  box : Blk wr W.heap.size 33 bx
  out : Blk wr (W.heap.size + 1) 33 #[.bool false, .int .i64 0, .slice none 0 0]
  below : Below W.heap.size W wr
theorem CInv.next {us : List Tr} {bx : Array Value} {W : World} {i : Nat} {v : Value} {xs : List Value} {wr : World} (h : CInv us bx W i v xs wr) (hi : i < us.length) {w1 w2 : World} {o : Obj} {v0 v1 v2 v' : Value} (hb1 : Below wr.heap.size wr w1)
    (hk : VAtS w1 (fun b => wr.heap.size ≤ b) us[i] (.agg #[v0, v1, v2])) (hr : w2.ownsRow (W.heap.size + 2) 33 3 v' (i + 1) (xs ++ [v0, v1, v2])) (hg : (w1.alloc o).grownBy w2 v.ownBlock) (hn : ∀ g, v'.ownBlock = some g → v.ownBlock = some g ∨ (w1.alloc o).heap.size ≤ g) :
    CInv us bx W (i + 1) v' (xs ++ [v0, v1, v2]) w2 := by
  have hsz : (w1.alloc o).heap.size = w1.heap.size + 1 := by simp
  have hs1 := hb1.size
  have hlen : xs.length = i * 3 := h.row.1
  have hgb : ∀ g, v.ownBlock = some g → g < wr.heap.size ∧ W.heap.size + 2 ≤ g := fun g hg => by have := h.row.lt g hg; omega
  have hWr := h.below.size
  have hall : ∀ k, k < w1.heap.size → v.ownBlock ≠ some k → w2.heap[k]? = w1.heap[k]? := fun k hk hne => (hg.block k (by omega) (fun e => hne e.symm)).trans (Below.heap_alloc _ _ _ hk)
  have hbx := h.box.lt
  have hout := h.out.lt
  refine ⟨hr, ?_, ?_, ?_, ?_⟩
  · intro j hj hji
    by_cases hjj : j < i
    · obtain ⟨u0, u1, u2, e0, e1, e2, hv⟩ := h.kids j hj hjj
      refine ⟨u0, u1, u2, by rw [List.getElem?_append_left (by omega)]; exact e0, by rw [List.getElem?_append_left (by omega)]; exact e1, by rw [List.getElem?_append_left (by omega)]; exact e2, ?_⟩
      have hlv : VAtS wr (fun b => (W.heap.size + 2 ≤ b ∧ v.ownBlock ≠ some b) ∧ b < wr.heap.size) us[j] (.agg #[u0, u1, u2]) := hv.keep (fun _ _ => rfl) (fun k hk1 hk2 => ⟨hk1, hk2⟩)
      refine hlv.keep (fun k hk1 => (hall k (by omega) hk1.1.2).trans (hb1.block k hk1.2)) (fun k hk1 _ => ⟨hk1.1.1, fun e => ?_⟩)
      rcases hn k e with e | e
      · exact hk1.1.2 e
      · omega
    · obtain rfl : j = i := by omega
      refine ⟨v0, v1, v2, by rw [List.getElem?_append_right (by omega)]; simp [hlen], by rw [List.getElem?_append_right (by omega)]; simp [hlen], by rw [List.getElem?_append_right (by omega)]; simp [hlen], ?_⟩
      have hlv : VAtS w1 (fun b => wr.heap.size ≤ b ∧ b < w1.heap.size) us[j] (.agg #[v0, v1, v2]) := hk.keep (fun _ _ => rfl) (fun k hk1 hk2 => ⟨hk1, hk2⟩)
      refine hlv.keep (fun k hk1 => hall k hk1.2 (fun e => by have := hgb k e; omega)) (fun k hk1 _ => ⟨by omega, fun e => ?_⟩)
      rcases hn k e with e | e
      · have := hgb k e; omega
      · omega
  · exact (hall _ (by omega) (fun e => by have := hgb _ e; omega)).trans ((hb1.block _ hbx).trans h.box)
  · exact (hall _ (by omega) (fun e => by have := hgb _ e; omega)).trans ((hb1.block _ hout).trans h.out)
  · exact ((below_hop hb1 h.below).alloc (by omega) _).grown hg (by omega) (fun k e => by have := hgb k e; omega)

theorem VAtS.agg {w : World} {S : Nat → Prop} {t : Tr} {v : Value} (h : VAtS w S t v) : ∃ b n A m c, v = .agg #[.bool b, .int .i64 n, .slice A m c] := by
  obtain ⟨b, n, us⟩ := t
  rw [VAtS] at h
  obtain ⟨⟨A, c, h1, _⟩, _⟩ := h
  exact ⟨b, n, A, _, c, h1⟩
/-- What CopyVal tells. -/
def CopyP (t : Tr) (w : World) (e : Ending) (w' : World) : Prop := (∃ v, e = .returned v ∧ VAtS w' (fun b => w.heap.size ≤ b) t v) ∧ Below w.heap.size w w'
theorem nodes_mem {us : List Tr} {t : Tr} (h : t ∈ us) : nodes t ≤ nodesL us := by
  induction us with
  | nil => cases h
  | cons u us ih =>
    rw [nodesL]
    rcases List.mem_cons.1 h with rfl | h
    · omega
    · have := ih h; omega
theorem nodes_pos (t : Tr) : 1 ≤ nodes t := by cases t; rw [nodes]; omega
theorem length_nodes : ∀ (us : List Tr), us.length ≤ nodesL us
  | [] => by simp
  | t :: ts => by have := length_nodes ts; have := nodes_pos t; rw [nodesL]; simp; omega
set_option maxHeartbeats 4000000 in
set_option maxRecDepth 100000 in
theorem copy_node (b : Bool) (k : Int) (A : Option Addr) (us : List Tr) (c B : Nat) (w : World) (hwf : (Lit.int .i64 k).wf = true) (hB : B ≤ w.heap.size) (hn : nodesL us ≤ 3000) (hrow : RowV w B us A 0)
    (ih : ∀ t ∈ us, ∀ (v : Value) (w : World), B ≤ w.heap.size → VAt w B t v → Calls Try.prog 14 #[v] w (CopyP t w)) :
    Calls Try.prog 14 #[.agg #[.bool b, .int .i64 k, .slice A us.length c]] w (CopyP (.mk b k us) w) := by
  have hl := length_nodes us
  have H := hid (And.intro hrow (And.intro ih (And.intro hB hwf)))
  clear hrow ih hB hwf
  go_enter Try.func14, Try.ntmps14
  go_wp2
  go_loopg [3, 4] us.length (fun g lv x wr => ∃ (i : Nat) (A' : Option Addr) (c' : Nat) (xs : List Value), i + g = us.length ∧ x = .int .i64 i ∧ lv = .slice A' i c' ∧ Hid (CInv us #[.bool b, .int .i64 k, .slice A us.length c] w i (.slice A' i c') xs wr))
  case atStart => exact ⟨0, none, 0, [], by omega, rfl, rfl, hid ⟨World.ownsRow_nil _ _ _ _, fun j hj h => by omega, (Blk.new _ _ _).alloc _, Blk.new' (by simp) _ _, by go_grown⟩⟩
  case round =>
    obtain ⟨i, A', c', xs, hi, rfl, rfl, hc⟩ := hrel
    have Hi := hid hi
    have x2 : wr.cell? ⟨w.heap.size, 2, none⟩ = some (.slice A us.length c) := hc.out.box.cell 2
    by_cases hlt : i < us.length
    · have hlt' : (i : Int) < us.length := by omega
      obtain ⟨ad, v0, v1, v2, rfl, p0, p1, p2, p3, p4⟩ := H.out.1.get hlt
      have e := fun (a : Addr) (ha : a.block < B) => (hc.out.below.mono H.out.2.2.1).cell (p := a) ha
      rw [Nat.zero_add] at p1 p2 p3
      have eb := add_block ad (i * 3)
      have y1 := (e _ (by rw [eb]; exact p0)).trans p1
      have y2 := (e _ (by dsimp only; rw [eb]; exact p0)).trans p2
      have y3 := (e _ (by dsimp only; rw [eb]; exact p0)).trans p3
      obtain ⟨b', n', A3, m', c3, rfl, rfl, rfl⟩ := p4.agg
      have Q := hid (And.intro (p4.keep (fun j hj => hc.out.below.block j (Nat.lt_of_lt_of_le hj H.out.2.2.1))) (List.getElem_mem hlt))
      clear hi e p0 p1 p2 p3 p4 eb
      go_wp2_with (first
        | (go_at_call 14; go_must (refine (H.out.2.1 us[i] Q.out.2 _ _ (by have := hc.out.below.size; have := H.out.2.2.1; omega) Q.out.1).mono ?_); rintro e w1 ⟨⟨v, rfl, hv⟩, b1⟩; go_must (obtain ⟨b9, n9, A9, m9, c9, rfl⟩ := hv.agg))
        | (at_builtin; go_must (refine wpList_appV (by rfl) _ _ (by rfl) (w.heap.size + 2) (by rfl) (n := i) (row_keep (w := wr) hc.out.row (fun g hg => (Below.heap_alloc _ _ _ (by have := hc.out.row.lt g hg; have := b1.size; omega)).trans (b1.block g (by have := hc.out.row.lt g hg; omega)))) (by rfl) (by rfl) (cells_lit1 _ _ _ _ _) (by simp [Value.oneCell']) (by omega) (by have := b1.size; have := hc.out.out.lt; simp; omega) ?_); intro v' w2 hr2 hg2 hn2; go_must (obtain ⟨A4, c4, rfl, _⟩ := row_slice hr2; have N := hid (hc.out.next hlt b1 hv hr2 hg2 hn2); clear hr2 hg2 hn2 b1 hv)))
      have hgk := Hi.out
      go_roundg (gk - 1)
      case rel => exact ⟨i + 1, A4, c4, _, by omega, rfl, rfl, N⟩
      case measure => omega
    · obtain rfl : i = us.length := by omega
      clear hi
      have x0 : wr.cell? ⟨w.heap.size, 0, none⟩ = some (.bool b) := hc.out.box.cell 0
      have x1 : wr.cell? ⟨w.heap.size, 1, none⟩ = some (.int .i64 k) := hc.out.box.cell 1
      have f2 := hc.out.box.frozen 2
      have o0 : wr.cell? ⟨w.heap.size + 1, 0, none⟩ = some (.bool false) := hc.out.out.cell 0
      have o1 : wr.cell? ⟨w.heap.size + 1, 1, none⟩ = some (.int .i64 0) := hc.out.out.cell 1
      have o2 : wr.cell? ⟨w.heap.size + 1, 2, none⟩ = some (.slice none 0 0) := hc.out.out.cell 2
      have g0 := hc.out.out.frozen 0
      have g1 := hc.out.out.frozen 1
      have g2 := hc.out.out.frozen 2
      go_wp2
      have hsame : ∀ g, g ≠ w.heap.size → g ≠ w.heap.size + 1 → ((((wr.setCell ⟨w.heap.size, 2, none⟩ (.slice A' us.length c')).setCell ⟨w.heap.size + 1, 0, none⟩ (.bool b)).setCell ⟨w.heap.size + 1, 1, none⟩ (.int .i64 k)).setCell ⟨w.heap.size + 1, 2, none⟩ (.slice A' us.length c')).heap[g]? = wr.heap[g]? := fun g h1 h2 =>
        (Below.heap_setCell _ ⟨w.heap.size + 1, 2, none⟩ _ g h2).trans ((Below.heap_setCell _ ⟨w.heap.size + 1, 1, none⟩ _ g h2).trans ((Below.heap_setCell _ ⟨w.heap.size + 1, 0, none⟩ _ g h2).trans (Below.heap_setCell _ ⟨w.heap.size, 2, none⟩ _ g h1)))
      have hbel : Below w.heap.size w ((((wr.setCell ⟨w.heap.size, 2, none⟩ (.slice A' us.length c')).setCell ⟨w.heap.size + 1, 0, none⟩ (.bool b)).setCell ⟨w.heap.size + 1, 1, none⟩ (.int .i64 k)).setCell ⟨w.heap.size + 1, 2, none⟩ (.slice A' us.length c')) :=
        below_set (below_set (below_set (below_set hc.out.below (Nat.le_refl _) _) (by omega) _) (by omega) _) (by omega) _
      have r0 : ((((wr.setCell ⟨w.heap.size, 2, none⟩ (.slice A' us.length c')).setCell ⟨w.heap.size + 1, 0, none⟩ (.bool b)).setCell ⟨w.heap.size + 1, 1, none⟩ (.int .i64 k)).setCell ⟨w.heap.size + 1, 2, none⟩ (.slice A' us.length c')).heap[w.heap.size + 1]? = some (.cells #[.bool b, .int .i64 k, .slice A' us.length c'] 33 (0, 0)) :=
        ((((hc.out.out.far (p := ⟨w.heap.size, 2, none⟩) (by dsimp only; omega) _).set_ 0 (.bool b)).set_ 1 (.int .i64 k)).set_ 2 (.slice A' us.length c') : Blk _ _ _ _)
      revert hsame hbel r0
      generalize ((((wr.setCell ⟨w.heap.size, 2, none⟩ (.slice A' us.length c')).setCell ⟨w.heap.size + 1, 0, none⟩ (.bool b)).setCell ⟨w.heap.size + 1, 1, none⟩ (.int .i64 k)).setCell ⟨w.heap.size + 1, 2, none⟩ (.slice A' us.length c')) = Wf
      intro hsame hbel r0
      have R : Blk Wf (w.heap.size + 1) 33 #[.bool b, .int .i64 k, .slice A' us.length c'] := r0
      have z0 : Wf.cell? ⟨w.heap.size + 1, 0, none⟩ = some (.bool b) := R.cell 0
      have z1 : Wf.cell? ⟨w.heap.size + 1, 1, none⟩ = some (.int .i64 k) := R.cell 1
      have z2 : Wf.cell? ⟨w.heap.size + 1, 2, none⟩ = some (.slice A' us.length c') := R.cell 2
      refine bodyPost_ret (v := .agg #[.bool b, .int .i64 k, .slice A' us.length c']) (by simp [results, Try.results14, go_sem, z0, z1, z2]) rfl ⟨⟨_, rfl, ?_⟩, hbel⟩
      have hrow : Wf.ownsRow (w.heap.size + 2) 33 3 (.slice A' us.length c') us.length xs := row_keep hc.out.row (fun g hg => hsame g (by have := hc.out.row.lt g hg; omega) (by have := hc.out.row.lt g hg; omega))
      obtain ⟨A5, c5, e5, l1, l2, l3, l4⟩ := row_slice hrow
      injection e5 with e6 _ e7
      subst e6 e7
      rw [VAtS]
      refine ⟨⟨A', c', rfl, l1, l2, fun h => ⟨List.length_eq_zero_iff.1 (l3 h).1, (l3 h).2⟩, ?_⟩, H.out.2.2.2⟩
      cases hA : A' with
      | none =>
        have : us = [] := List.length_eq_zero_iff.1 (l3 hA).1
        rw [this, RowS]; trivial
      | some a =>
        subst hA
        have hab := hrow.lt a.block rfl
        obtain ⟨h1, h2⟩ := l4 a rfl
        have ha : a = ⟨a.block, 0, none⟩ := by obtain ⟨x, y, z⟩ := a; simp_all
        have hcell : ∀ j u, xs[j]? = some u → Wf.cell? (a.add j) = some u := by rw [ha]; exact hrow.cells (g := a.block) rfl
        refine RowS.mk (by omega) us 0 (fun j hj => ?_)
        rw [Nat.zero_add]
        obtain ⟨u0, u1, u2, e0, e1, e2, hv⟩ := hc.out.kids j hj hj
        refine ⟨u0, u1, u2, hcell _ _ e0, ?_, ?_, ?_⟩
        · rw [add_three' _ _ _ (by omega)]; exact hcell _ _ e1
        · rw [add_three' _ _ _ (by omega)]; exact hcell _ _ e2
        · exact hv.keep (fun g hg => hsame g (by omega) (by omega)) (fun g hg _ => by omega)
/-- CopyVal, of whatever value that is not too large. -/
theorem ref17_CopyVal : ∀ (N : Nat) (t : Tr), SizeOf.sizeOf t ≤ N → ∀ (B : Nat) (v : Value) (w : World), nodes t ≤ 3000 → B ≤ w.heap.size → VAt w B t v → Calls Try.prog 14 #[v] w (CopyP t w) := by
  intro N
  induction N with
  | zero => intro t ht; cases t; simp at ht
  | succ N ih =>
  intro t ht B v w hn hB hv
  obtain ⟨b, k, us⟩ := t
  obtain ⟨A, c, rfl, hc, hcm, _, hrow, hwf⟩ := hv.parts
  rw [nodes] at hn
  exact copy_node b k A us c B w hwf hB (by omega) hrow (fun t hm v w hB hv => ih t (by have := tr_lt (b := b) (n := k) hm; omega) B v w (by have := nodes_mem hm; omega) hB hv)
end Go.Proofs.Ytgakmfcnddholaa
