/-
  ROWS OF TYPES OF ONE'S OWN.
-/
import Derived.Test.YtnlifgcnmhakiaaDoorTTree
import Derived.Laws.Rows
namespace Go.Proofs.YtnlifgcnmhakiaaDoor
open Go.ChangeShapes Go.WideShapes Go.ChangeAt Go.RowKit

theorem info_type : InfoIs Tryd.prog 24 (.agg #[.int .i64 0, .string ⟨#[]⟩, .int .i64 0, .slice none 0 0]) 4 56 := by unfold InfoIs; kernel_rfl
set_option maxRecDepth 100000 in
/-- append of one type onto a row of types of one's own: the row lies where it lay, or in a new block. -/
theorem run_appT (w : World) (ty : TypeId) (B : Nat) {v : Value} {n : Nat} {xs : List Value} (hown : w.ownsRow B 24 4 v n xs) {ad : Addr} {c : Nat} {news : List Value} (hl : news.length = 4) (hcell : ∀ j u, news[j]? = some u → w.cell? (ad.add j) = some u) (h1 : ∀ u ∈ news, u.oneCell' = true) (hlen : n + 1 ≤ 1000000) (hB : B ≤ w.heap.size) :
    ∃ v' w', (Builtin.append_ #[22, 22] ty #[v, .slice (some ad) 1 c]).run Tryd.prog w = .ok v' w' ∧ w'.ownsRow B 24 4 v' (n + 1) (xs ++ news) ∧ w.grownBy w' v.ownBlock ∧
      (∀ g, v'.ownBlock = some g → v.ownBlock = some g ∨ w.heap.size ≤ g) := by
  obtain ⟨i, hi1, hz, hs1, hs2⟩ := info_type.parts
  obtain ⟨v', w', hr, h2, h3, _⟩ := run_append_own (P := Tryd.prog) w B 22 ty 24 i _ 4 56 Tryd.underlying22 hi1 hz hs1 hs2 rfl (by omega) v n _ hown ad 1 c news (by omega) hcell h1 (by unfold maxLen; omega) (by omega) hB
  refine ⟨v', w', hr, h2, h3, fun g hg => ?_⟩
  rcases hown.2 with ⟨rfl, hn0⟩ | ⟨g0, cap, cur, rfl, hbg, hgg, hnc, hcm, hcs, htake⟩
  · right
    subst hn0
    have hx : xs = [] := List.length_eq_zero_iff.1 (by have := hown.1; simpa using this)
    subst hx
    obtain ⟨v2, w2, hr2, h22, _, _⟩ := run_append_own (P := Tryd.prog) w w.heap.size 22 ty 24 i _ 4 56 Tryd.underlying22 hi1 hz hs1 hs2 rfl (by omega) (.slice none 0 0) 0 [] (World.ownsRow_nil w w.heap.size 24 4) ad 1 c news (by omega) hcell h1 (by unfold maxLen; omega) (by omega) (Nat.le_refl _)
    rw [hr] at hr2
    injection hr2 with e1 e2
    subst e1
    exact (h22.lt g hg).1
  · by_cases hroom : n + 1 ≤ cap
    · left
      have hr2 := run_append_room (P := Tryd.prog) w 22 ty 24 i Tryd.underlying22 hi1 g0 n cap cur hgg ad 1 c news (by omega) hcell h1 hroom (by rw [hs1, hl, hcs]; omega)
      rw [hr] at hr2
      injection hr2 with e1 e2
      subst e1
      exact hg
    · right
      have hr2 := run_append_grow (P := Tryd.prog) w 22 ty 24 i _ Tryd.underlying22 hi1 hz ⟨g0, 0, none⟩ n cap xs (by rw [hs1]; exact hown.1) (hown.cells (g := g0) rfl) ad 1 c news (by omega) hcell (by omega) (by omega) (growslice_fits (by omega) (by rw [hs2]; omega))
      rw [hr] at hr2
      injection hr2 with e1 e2
      subst e1
      simp [Value.ownBlock] at hg
      omega
set_option maxRecDepth 100000 in
theorem wpList_appT {w : World} {ops : Array Oper} {rest : List Oper} {o : Oper} {a : Act} {Q : Exit → Act → World → Prop} (hgd : o.guard = none) (s x : Operand)
    (ho : o.op = .call { callee := .builtin .append, args := #[s, x], argTypes := #[22, 22] })
    (B : Nat) {v : Value} {n : Nat} {xs : List Value} (hs : a.eval s = v) (hown : w.ownsRow B 24 4 v n xs) {ad : Addr} {c : Nat} {news : List Value} (hx : a.eval x = .slice (some ad) 1 c) (hl : news.length = 4) (hcell : ∀ j u, news[j]? = some u → w.cell? (ad.add j) = some u) (h1 : ∀ u ∈ news, u.oneCell' = true)
    (hlen : n + 1 ≤ 1000000) (hB : B ≤ w.heap.size)
    (h : ∀ v' w', w'.ownsRow B 24 4 v' (n + 1) (xs ++ news) → w.grownBy w' v.ownBlock → (∀ g, v'.ownBlock = some g → v.ownBlock = some g ∨ w.heap.size ≤ g) → wpList Tryd.prog ops Q rest (a.put o.dst v') w') : wpList Tryd.prog ops Q (o :: rest) a w := by
  refine wpList_plain hgd fun _ hK => ?_
  obtain ⟨v', w', hr, r1, r2, r3⟩ := run_appT w o.type B hown hl hcell h1 hlen hB
  unfold Oper.wp execOp
  simp only [ho, resolve, invoke, builtin, Sem.run_bind, Sem.run_pure, Result.andThen_ok, List.map_toArray, List.map_cons, List.map_nil, hs, hx]
  rw [hr]
  exact hK _ _ (h v' w' r1 r2 r3)
/-- A literal of one type, just built. -/
theorem cells_lit1 (w : World) (t : TypeId) (v0 v1 v2 v3 : Value) : ∀ j u, [v0, v1, v2, v3][j]? = some u → (w.alloc (.cells #[v0, v1, v2, v3] t)).cell? ((⟨w.heap.size, 0, none⟩ : Addr).add j) = some u := by
  intro j u hj
  have hp : (⟨w.heap.size, 0, none⟩ : Addr).add j = ⟨w.heap.size, j, none⟩ := by unfold Addr.add; split <;> simp_all
  rw [hp, (Blk.new w t #[v0, v1, v2, v3]).cell j]
  simpa using hj
theorem cells_lit (w : World) {g : Nat} (hg : g = w.heap.size) (t : TypeId) (v0 v1 v2 v3 : Value) : ∀ j u, [v0, v1, v2, v3][j]? = some u → (w.alloc (.cells #[v0, v1, v2, v3] t)).cell? ((⟨g, 0, none⟩ : Addr).add j) = some u := by
  subst hg
  exact cells_lit1 w t v0 v1 v2 v3
theorem row_slice {w : World} {B n : Nat} {v : Value} {xs : List Value} (h : w.ownsRow B 24 4 v n xs) : ∃ A c, v = .slice A n c ∧ n ≤ c ∧ c ≤ maxLen ∧ (A = none → n = 0 ∧ c = 0) ∧ ∀ a, A = some a → a.spot = none ∧ a.off = 0 := by
  rcases h.2 with ⟨rfl, rfl⟩ | ⟨g, cap, cur, rfl, _, _, h1, h2, _⟩
  · exact ⟨none, 0, rfl, Nat.le_refl _, Nat.zero_le _, fun _ => ⟨rfl, rfl⟩, fun a ha => (by cases ha)⟩
  · exact ⟨_, cap, rfl, h1, h2, fun h => (by cases h), fun a ha => (by cases ha; exact ⟨rfl, rfl⟩)⟩
/-- A row of one's own, where its block has not turned. -/
theorem row_keep {w w' : World} {B n : Nat} {v : Value} {xs : List Value} {e : TypeId} {sz : Nat} (h : w.ownsRow B e sz v n xs) (hk : ∀ g, v.ownBlock = some g → w'.heap[g]? = w.heap[g]?) : w'.ownsRow B e sz v n xs := by
  refine ⟨h.1, ?_⟩
  rcases h.2 with h2 | ⟨g, cap, cur, rfl, hB, hg, rest⟩
  · exact .inl h2
  · exact .inr ⟨g, cap, cur, rfl, hB, (hk g rfl).trans hg, rest⟩

/-- A row that is being built. -/
structure Bld (R : Nat) (us : List Ty) (i : Nat) (v : Value) (xs : List Value) (wr : World) : Prop where
  row : wr.ownsRow R 24 4 v i xs
  kids : ∀ j, (hj : j < us.length) → j < i → ∃ v0 v1 v2 v3, xs[j * 4]? = some v0 ∧ xs[j * 4 + 1]? = some v1 ∧ xs[j * 4 + 2]? = some v2 ∧ xs[j * 4 + 3]? = some v3 ∧ TAt wr (fun b => R ≤ b ∧ v.ownBlock ≠ some b) us[j] (.agg #[v0, v1, v2, v3])
theorem Bld.start (w : World) (R : Nat) (us : List Ty) : Bld R us 0 (.slice none 0 0) [] w := ⟨World.ownsRow_nil _ _ _ _, fun j hj h => by omega⟩
theorem Bld.keep {R : Nat} {us : List Ty} {i : Nat} {v : Value} {xs : List Value} {w w' : World} (h : Bld R us i v xs w) (hk : ∀ k, R ≤ k → k < w.heap.size → w'.heap[k]? = w.heap[k]?) : Bld R us i v xs w' := by
  refine ⟨row_keep h.row (fun g hg => hk g (h.row.lt g hg).1 (h.row.lt g hg).2), fun j hj hji => ?_⟩
  obtain ⟨u0, u1, u2, u3, e0, e1, e2, e3, hv⟩ := h.kids j hj hji
  exact ⟨u0, u1, u2, u3, e0, e1, e2, e3, hv.keep (fun k hk1 hk2 => ⟨hk k hk1.1 hk2, hk1⟩)⟩
theorem Bld.up {R : Nat} {us : List Ty} {i : Nat} {v : Value} {xs : List Value} {w w' : World} (h : Bld R us i v xs w) (hb : Below w.heap.size w w') : Bld R us i v xs w' := h.keep (fun k _ hk => hb.block k hk)
theorem Bld.alloc {R : Nat} {us : List Ty} {i : Nat} {v : Value} {xs : List Value} {w : World} (h : Bld R us i v xs w) (o : Obj) : Bld R us i v xs (w.alloc o) := h.keep (fun _ _ hk => Below.heap_alloc _ _ _ hk)
theorem Bld.next {R : Nat} {us : List Ty} {i : Nat} {v : Value} {xs : List Value} {wr : World} (h : Bld R us i v xs wr) (hR : R ≤ wr.heap.size) (hi : i < us.length) {w1 w2 : World} {o : Obj} {v0 v1 v2 v3 v' : Value} (hb1 : Below wr.heap.size wr w1)
    (hk : TAt w1 (fun b => wr.heap.size ≤ b) us[i] (.agg #[v0, v1, v2, v3])) (hr : w2.ownsRow R 24 4 v' (i + 1) (xs ++ [v0, v1, v2, v3])) (hg : (w1.alloc o).grownBy w2 v.ownBlock) (hn : ∀ g, v'.ownBlock = some g → v.ownBlock = some g ∨ (w1.alloc o).heap.size ≤ g) :
    Bld R us (i + 1) v' (xs ++ [v0, v1, v2, v3]) w2 ∧ Below R wr w2 := by
  have hsz : (w1.alloc o).heap.size = w1.heap.size + 1 := by simp
  have hs1 := hb1.size
  have hlen : xs.length = i * 4 := h.row.1
  have hgb : ∀ g, v.ownBlock = some g → g < wr.heap.size ∧ R ≤ g := fun g hg => by have := h.row.lt g hg; omega
  have hall : ∀ k, k < w1.heap.size → v.ownBlock ≠ some k → w2.heap[k]? = w1.heap[k]? := fun k hk hne => (hg.block k (by omega) (fun e => hne e.symm)).trans (Below.heap_alloc _ _ _ hk)
  refine ⟨⟨hr, ?_⟩, ?_⟩
  · intro j hj hji
    by_cases hjj : j < i
    · obtain ⟨u0, u1, u2, u3, e0, e1, e2, e3, hv⟩ := h.kids j hj hjj
      refine ⟨u0, u1, u2, u3, by rw [List.getElem?_append_left (by omega)]; exact e0, by rw [List.getElem?_append_left (by omega)]; exact e1, by rw [List.getElem?_append_left (by omega)]; exact e2, by rw [List.getElem?_append_left (by omega)]; exact e3, ?_⟩
      refine hv.keep (fun k hk1 hk2 => ⟨(hall k (by omega) hk1.2).trans (hb1.block k hk2), hk1.1, fun e => ?_⟩)
      rcases hn k e with e | e
      · exact hk1.2 e
      · omega
    · obtain rfl : j = i := by omega
      refine ⟨v0, v1, v2, v3, by rw [List.getElem?_append_right (by omega)]; simp [hlen], by rw [List.getElem?_append_right (by omega)]; simp [hlen], by rw [List.getElem?_append_right (by omega)]; simp [hlen], by rw [List.getElem?_append_right (by omega)]; simp [hlen], ?_⟩
      refine hk.keep (fun k hk1 hk2 => ⟨hall k hk2 (fun e => by have := hgb k e; omega), by omega, fun e => ?_⟩)
      rcases hn k e with e | e
      · have := hgb k e; omega
      · omega
  · exact ((hb1.mono hR).alloc (by omega) _).grown hg (by omega) (fun k e => (hgb k e).2)
theorem Bld.done {R : Nat} {us : List Ty} {A : Option Addr} {c n m : Nat} {xs : List Value} {w : World} (h : Bld R us n (.slice A m c) xs w) (hn : n = us.length) : m = us.length ∧ us.length ≤ c ∧ c ≤ maxLen ∧ (A = none → us = [] ∧ c = 0) ∧ TRow w (fun b => R ≤ b) us A 0 := by
  subst hn
  obtain ⟨A5, c5, e5, l1, l2, l3, l4⟩ := row_slice h.row
  injection e5 with e6 e8 e7
  subst e6 e7 e8
  refine ⟨rfl, l1, l2, fun h => ⟨List.length_eq_zero_iff.1 (l3 h).1, (l3 h).2⟩, ?_⟩
  cases hA : A with
  | none =>
    have : us = [] := List.length_eq_zero_iff.1 (l3 hA).1
    rw [this, TRow]; trivial
  | some a =>
    subst hA
    have hab := h.row.lt a.block rfl
    obtain ⟨h1, h2⟩ := l4 a rfl
    have ha : a = ⟨a.block, 0, none⟩ := by obtain ⟨x, y, z⟩ := a; simp_all
    have hcell : ∀ j u, xs[j]? = some u → w.cell? (a.add j) = some u := by rw [ha]; exact h.row.cells (g := a.block) rfl
    refine TRow.mk (by omega) us 0 (fun j hj => ?_)
    rw [Nat.zero_add]
    obtain ⟨u0, u1, u2, u3, e0, e1, e2, e3, hv⟩ := h.kids j hj hj
    refine ⟨u0, u1, u2, u3, hcell _ _ e0, ?_, ?_, ?_, hv.mono (fun k hk _ => hk.1)⟩
    · rw [add_four _ _ _ (by omega)]; exact hcell _ _ e1
    · rw [add_four _ _ _ (by omega)]; exact hcell _ _ e2
    · rw [add_four _ _ _ (by omega)]; exact hcell _ _ e3
/-- A type, stored field by field. -/
theorem set4_blk {w : World} {g : Nat} {u0 u1 u2 u3 v0 v1 v2 v3 : Value} (h : Blk w g 24 #[u0, u1, u2, u3]) : Blk ((((w.setCell ⟨g, 0, none⟩ v0).setCell ⟨g, 1, none⟩ v1).setCell ⟨g, 2, none⟩ v2).setCell ⟨g, 3, none⟩ v3) g 24 #[v0, v1, v2, v3] :=
  (((h.set_ 0 v0).set_ 1 v1).set_ 2 v2).set_ 3 v3
theorem set4_other {w : World} {g k : Nat} {v0 v1 v2 v3 : Value} (hk : k ≠ g) : ((((w.setCell ⟨g, 0, none⟩ v0).setCell ⟨g, 1, none⟩ v1).setCell ⟨g, 2, none⟩ v2).setCell ⟨g, 3, none⟩ v3).heap[k]? = w.heap[k]? :=
  (Below.heap_setCell _ ⟨g, 3, none⟩ _ k hk).trans ((Below.heap_setCell _ ⟨g, 2, none⟩ _ k hk).trans ((Below.heap_setCell _ ⟨g, 1, none⟩ _ k hk).trans (Below.heap_setCell _ ⟨g, 0, none⟩ _ k hk)))
theorem set4_below {B : Nat} {w0 w : World} {g : Nat} {v0 v1 v2 v3 : Value} (h : Below B w0 w) (hg : B ≤ g) : Below B w0 ((((w.setCell ⟨g, 0, none⟩ v0).setCell ⟨g, 1, none⟩ v1).setCell ⟨g, 2, none⟩ v2).setCell ⟨g, 3, none⟩ v3) :=
  below_set (below_set (below_set (below_set h hg _) hg _) hg _) hg _
theorem set4_size {w : World} {g : Nat} {v0 v1 v2 v3 : Value} : ((((w.setCell ⟨g, 0, none⟩ v0).setCell ⟨g, 1, none⟩ v1).setCell ⟨g, 2, none⟩ v2).setCell ⟨g, 3, none⟩ v3).heap.size = w.heap.size := by simp
/-- The end of a function that hands back a type. -/
theorem ret_type {fn : Func} {p : Tmp} (h : fn.results = #[.cell p 24]) {R : Ending → World → Prop} {a : Act} {w : World} {g : Nat} {v0 v1 v2 v3 : Value} (hp : a.tmps.getD p undef = .pointer (some ⟨g, 0, none⟩)) (hg : Blk w g 24 #[v0, v1, v2, v3]) (hd : a.defers = [])
    (hR : R (.returned (.agg #[v0, v1, v2, v3])) w) : bodyPost Tryd.prog fn R .ret a w :=
  bodyPost_ret (results_cell_row h _ _ g _ _ _ _ hp hg Tryd.underlying24 rfl (by kernel_rfl)) hd hR
end Go.Proofs.YtnlifgcnmhakiaaDoor
