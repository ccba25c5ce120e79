/-
  ROWS OF CORE EXPRESSIONS OF ONE'S OWN.
-/
import Derived.Test.YtohdaclbgedeiaaEWeigh
import Derived.Laws.Rows
namespace Go.Proofs.Ytohdaclbgedeiaa
set_option linter.all false
open Go.ChangeShapes Go.WideShapes Go.ChangeAt Go.RowKit
open Ev (Co nodes nodesL)

theorem info_core : InfoIs Try.prog 25 (.agg #[.int .i64 0, .int .i64 0, .int .i64 0, .int .i64 0, .bool false, .slice none 0 0, .slice none 0 0]) 7 88 := by unfold InfoIs; kernel_rfl
theorem ownBlock_new {w : World} {B n sz : Nat} {e : TypeId} {v : Value} {xs : List Value} (h : w.ownsRow B e sz v n xs) : ∀ g, v.ownBlock = some g → B ≤ g ∧ g < w.heap.size := h.lt
set_option maxRecDepth 100000 in
/-- append of one expression onto a row of one's own: the row lies where it lay, or in a new block. -/
theorem run_appC (w : World) (ty : TypeId) (B : Nat) {v : Value} {n : Nat} {xs : List Value} (hown : w.ownsRow B 25 7 v n xs) {ad : Addr} {c : Nat} {news : List Value} (hl : news.length = 7) (hcell : ∀ j u, news[j]? = some u → w.cell? (ad.add j) = some u) (h1 : ∀ u ∈ news, u.oneCell' = true) (hlen : n + 1 ≤ 1000000) (hB : B ≤ w.heap.size) :
    ∃ v' w', (Builtin.append_ #[23, 23] ty #[v, .slice (some ad) 1 c]).run Try.prog w = .ok v' w' ∧ w'.ownsRow B 25 7 v' (n + 1) (xs ++ news) ∧ w.grownBy w' v.ownBlock ∧
      (∀ g, v'.ownBlock = some g → v.ownBlock = some g ∨ w.heap.size ≤ g) := by
  obtain ⟨i, hi1, hz, hs1, hs2⟩ := info_core.parts
  obtain ⟨v', w', hr, h2, h3, _⟩ := run_append_own (P := Try.prog) w B 23 ty 25 i _ 7 88 Try.underlying23 hi1 hz hs1 hs2 rfl (by omega) v n _ hown ad 1 c news (by omega) hcell h1 (by unfold maxLen; omega) (by omega) hB
  refine ⟨v', w', hr, h2, h3, fun g hg => ?_⟩
  rcases hown.2 with ⟨rfl, hn0⟩ | ⟨g0, cap, cur, rfl, hbg, hgg, hnc, hcm, hcs, htake⟩
  · right
    subst hn0
    have hx : xs = [] := List.length_eq_zero_iff.1 (by have := hown.1; simpa using this)
    subst hx
    obtain ⟨v2, w2, hr2, h22, _, _⟩ := run_append_own (P := Try.prog) w w.heap.size 23 ty 25 i _ 7 88 Try.underlying23 hi1 hz hs1 hs2 rfl (by omega) (.slice none 0 0) 0 [] (World.ownsRow_nil w w.heap.size 25 7) ad 1 c news (by omega) hcell h1 (by unfold maxLen; omega) (by omega) (Nat.le_refl _)
    rw [hr] at hr2
    injection hr2 with e1 e2
    subst e1
    exact (h22.lt g hg).1
  · by_cases hroom : n + 1 ≤ cap
    · left
      have hr2 := run_append_room (P := Try.prog) w 23 ty 25 i Try.underlying23 hi1 g0 n cap cur hgg ad 1 c news (by omega) hcell h1 hroom (by rw [hs1, hl, hcs]; omega)
      rw [hr] at hr2
      injection hr2 with e1 e2
      subst e1
      exact hg
    · right
      have hr2 := run_append_grow (P := Try.prog) w 23 ty 25 i _ Try.underlying23 hi1 hz ⟨g0, 0, none⟩ n cap xs (by rw [hs1]; exact hown.1) (hown.cells (g := g0) rfl) ad 1 c news (by omega) hcell (by omega) (by omega) (growslice_fits (by omega) (by rw [hs2]; omega))
      rw [hr] at hr2
      injection hr2 with e1 e2
      subst e1
      simp [Value.ownBlock] at hg
      omega
set_option maxRecDepth 100000 in
theorem wpList_appC {w : World} {ops : Array Oper} {rest : List Oper} {o : Oper} {a : Act} {Q : Exit → Act → World → Prop} (hgd : o.guard = none) (s x : Operand)
    (ho : o.op = .call { callee := .builtin .append, args := #[s, x], argTypes := #[23, 23] })
    (B : Nat) {v : Value} {n : Nat} {xs : List Value} (hs : a.eval s = v) (hown : w.ownsRow B 25 7 v n xs) {ad : Addr} {c : Nat} {news : List Value} (hx : a.eval x = .slice (some ad) 1 c) (hl : news.length = 7) (hcell : ∀ j u, news[j]? = some u → w.cell? (ad.add j) = some u) (h1 : ∀ u ∈ news, u.oneCell' = true)
    (hlen : n + 1 ≤ 1000000) (hB : B ≤ w.heap.size)
    (h : ∀ v' w', w'.ownsRow B 25 7 v' (n + 1) (xs ++ news) → w.grownBy w' v.ownBlock → (∀ g, v'.ownBlock = some g → v.ownBlock = some g ∨ w.heap.size ≤ g) → wpList Try.prog ops Q rest (a.put o.dst v') w') : wpList Try.prog ops Q (o :: rest) a w := by
  refine wpList_plain hgd fun _ hK => ?_
  obtain ⟨v', w', hr, r1, r2, r3⟩ := run_appC w o.type B hown hl hcell h1 hlen hB
  unfold Oper.wp execOp
  simp only [ho, resolve, invoke, builtin, Sem.run_bind, Sem.run_pure, Result.andThen_ok, List.map_toArray, List.map_cons, List.map_nil, hs, hx]
  rw [hr]
  exact hK _ _ (h v' w' r1 r2 r3)
/-- A literal of one expression, just built. -/
theorem cells_litC1 (w : World) (t : TypeId) (v0 v1 v2 v3 v4 v5 v6 : Value) : ∀ j u, [v0, v1, v2, v3, v4, v5, v6][j]? = some u → (w.alloc (.cells #[v0, v1, v2, v3, v4, v5, v6] t)).cell? ((⟨w.heap.size, 0, none⟩ : Addr).add j) = some u := by
  intro j u hj
  have hp : (⟨w.heap.size, 0, none⟩ : Addr).add j = ⟨w.heap.size, j, none⟩ := by unfold Addr.add; split <;> simp_all
  rw [hp, (Blk.new w t #[v0, v1, v2, v3, v4, v5, v6]).cell j]
  simpa using hj
theorem cells_litC (w : World) {g : Nat} (hg : g = w.heap.size) (t : TypeId) (v0 v1 v2 v3 v4 v5 v6 : Value) : ∀ j u, [v0, v1, v2, v3, v4, v5, v6][j]? = some u → (w.alloc (.cells #[v0, v1, v2, v3, v4, v5, v6] t)).cell? ((⟨g, 0, none⟩ : Addr).add j) = some u := by
  subst hg
  exact cells_litC1 w t v0 v1 v2 v3 v4 v5 v6
theorem row_sliceC {w : World} {B n : Nat} {v : Value} {xs : List Value} (h : w.ownsRow B 25 7 v n xs) : ∃ A c, v = .slice A n c ∧ n ≤ c ∧ c ≤ maxLen ∧ (A = none → n = 0 ∧ c = 0) ∧ ∀ a, A = some a → a.spot = none ∧ a.off = 0 := by
  rcases h.2 with ⟨rfl, rfl⟩ | ⟨g, cap, cur, rfl, _, _, h1, h2, _⟩
  · exact ⟨none, 0, rfl, Nat.le_refl _, Nat.zero_le _, fun _ => ⟨rfl, rfl⟩, fun a ha => (by cases ha)⟩
  · exact ⟨_, cap, rfl, h1, h2, fun h => (by cases h), fun a ha => (by cases ha; exact ⟨rfl, rfl⟩)⟩
/-- A row of one's own, where its block has not turned. -/
theorem row_keep {w w' : World} {B n : Nat} {v : Value} {xs : List Value} {e : TypeId} {sz : Nat} (h : w.ownsRow B e sz v n xs) (hk : ∀ g, v.ownBlock = some g → w'.heap[g]? = w.heap[g]?) : w'.ownsRow B e sz v n xs := by
  refine ⟨h.1, ?_⟩
  rcases h.2 with h2 | ⟨g, cap, cur, rfl, hB, hg, rest⟩
  · exact .inl h2
  · exact .inr ⟨g, cap, cur, rfl, hB, (hk g rfl).trans hg, rest⟩
/-- Seven cells from a place of a row on. -/
def Cut7 (xs : List Value) (j : Nat) (cs : List Value) : Prop := cs.length = 7 ∧ ∀ k, k < 7 → xs[j * 7 + k]? = cs[k]?
theorem Cut7.app {xs ys cs : List Value} {j : Nat} (h : Cut7 xs j cs) : Cut7 (xs ++ ys) j cs := ⟨h.1, fun k hk => by
  have h2 := h.2 k hk
  have hu : cs[k]? = some (cs[k]'(by rw [h.1]; exact hk)) := List.getElem?_eq_getElem _
  rw [hu] at h2 ⊢
  have hl := (List.getElem?_eq_some_iff.1 h2).1
  rw [List.getElem?_append_left hl]
  exact h2⟩
theorem Cut7.last {xs cs : List Value} {j : Nat} (hx : xs.length = j * 7) (hc : cs.length = 7) : Cut7 (xs ++ cs) j cs := ⟨hc, fun k hk => by rw [List.getElem?_append_right (by omega)]; congr 1; omega⟩
/-- A row that is being built. -/
structure Bld (R : Nat) (us : List Co) (i : Nat) (v : Value) (xs : List Value) (wr : World) : Prop where
  row : wr.ownsRow R 25 7 v i xs
  kids : ∀ j, (hj : j < us.length) → j < i → ∃ cs, Cut7 xs j cs ∧ CAt wr (fun b => R ≤ b ∧ v.ownBlock ≠ some b) us[j] (.agg cs.toArray)
theorem Bld.start (w : World) (R : Nat) (us : List Co) : Bld R us 0 (.slice none 0 0) [] w := ⟨World.ownsRow_nil _ _ _ _, fun j hj h => by omega⟩
theorem Bld.keep {R : Nat} {us : List Co} {i : Nat} {v : Value} {xs : List Value} {w w' : World} (h : Bld R us i v xs w) (hk : ∀ k, R ≤ k → k < w.heap.size → w'.heap[k]? = w.heap[k]?) : Bld R us i v xs w' := by
  refine ⟨row_keep h.row (fun g hg => hk g (h.row.lt g hg).1 (h.row.lt g hg).2), fun j hj hji => ?_⟩
  obtain ⟨cs, e, hv⟩ := h.kids j hj hji
  exact ⟨cs, e, hv.keep (fun k hk1 hk2 => ⟨hk k hk1.1 hk2, hk1⟩)⟩
theorem Bld.up {R : Nat} {us : List Co} {i : Nat} {v : Value} {xs : List Value} {w w' : World} (h : Bld R us i v xs w) (hb : Below w.heap.size w w') : Bld R us i v xs w' := h.keep (fun k _ hk => hb.block k hk)
theorem Bld.next {R : Nat} {us : List Co} {i : Nat} {v : Value} {xs : List Value} {wr : World} (h : Bld R us i v xs wr) (hR : R ≤ wr.heap.size) (hi : i < us.length) {w1 w2 : World} {o : Obj} {cs : List Value} {v' : Value} (hcs : cs.length = 7) (hb1 : Below wr.heap.size wr w1)
    (hk : CAt w1 (fun b => wr.heap.size ≤ b) us[i] (.agg cs.toArray)) (hr : w2.ownsRow R 25 7 v' (i + 1) (xs ++ cs)) (hg : (w1.alloc o).grownBy w2 v.ownBlock) (hn : ∀ g, v'.ownBlock = some g → v.ownBlock = some g ∨ (w1.alloc o).heap.size ≤ g) :
    Bld R us (i + 1) v' (xs ++ cs) w2 ∧ Below R wr w2 := by
  have hsz : (w1.alloc o).heap.size = w1.heap.size + 1 := by simp
  have hs1 := hb1.size
  have hlen : xs.length = i * 7 := h.row.1
  have hgb : ∀ g, v.ownBlock = some g → g < wr.heap.size ∧ R ≤ g := fun g hg => by have := h.row.lt g hg; omega
  have hall : ∀ k, k < w1.heap.size → v.ownBlock ≠ some k → w2.heap[k]? = w1.heap[k]? := fun k hk hne => (hg.block k (by omega) (fun e => hne e.symm)).trans (Below.heap_alloc _ _ _ hk)
  refine ⟨⟨hr, ?_⟩, ?_⟩
  · intro j hj hji
    by_cases hjj : j < i
    · obtain ⟨us', e, hv⟩ := h.kids j hj hjj
      refine ⟨us', e.app, ?_⟩
      refine hv.keep (fun k hk1 hk2 => ⟨(hall k (by omega) hk1.2).trans (hb1.block k hk2), hk1.1, fun e => ?_⟩)
      rcases hn k e with e | e
      · exact hk1.2 e
      · omega
    · obtain rfl : j = i := by omega
      refine ⟨cs, Cut7.last hlen hcs, ?_⟩
      refine hk.keep (fun k hk1 hk2 => ⟨hall k hk2 (fun e => by have := hgb k e; omega), by omega, fun e => ?_⟩)
      rcases hn k e with e | e
      · have := hgb k e; omega
      · omega
  · exact ((hb1.mono hR).alloc (by omega) _).grown hg (by omega) (fun k e => (hgb k e).2)
theorem Bld.done {R : Nat} {us : List Co} {A : Option Addr} {c n m : Nat} {xs : List Value} {w : World} (h : Bld R us n (.slice A m c) xs w) (hn : n = us.length) (hl : us.length ≤ 17592186044416) : m = us.length ∧ Sz us A c ∧ CRow w (fun b => R ≤ b) us A 0 := by
  subst hn
  obtain ⟨A5, c5, e5, l1, l2, l3, l4⟩ := row_sliceC h.row
  injection e5 with e6 e8 e7
  subst e6 e7 e8
  refine ⟨rfl, ⟨l1, l2, fun h => ⟨List.length_eq_zero_iff.1 (l3 h).1, (l3 h).2⟩, hl⟩, ?_⟩
  cases hA : A with
  | none =>
    have : us = [] := List.length_eq_zero_iff.1 (l3 hA).1
    rw [this, CRow]; trivial
  | some a =>
    subst hA
    have hab := h.row.lt a.block rfl
    obtain ⟨h1, h2⟩ := l4 a rfl
    have ha : a = ⟨a.block, 0, none⟩ := by obtain ⟨x, y, z⟩ := a; simp_all
    have hcell : ∀ j u, xs[j]? = some u → w.cell? (a.add j) = some u := by rw [ha]; exact h.row.cells (g := a.block) rfl
    refine CRow.mk hab.1 us 0 (fun j hj => ?_)
    rw [Nat.zero_add]
    obtain ⟨cs, ⟨e1, e2⟩, hv⟩ := h.kids j hj hj
    match cs, e1 with
    | [u0, u1, u2, u3, u4, u5, u6], _ =>
    refine ⟨u0, u1, u2, u3, u4, u5, u6, ⟨hcell _ _ (e2 0 (by omega)), ?_, ?_, ?_, ?_, ?_, ?_⟩, hv.mono (fun k hk _ => hk.1)⟩
    · rw [add_seven _ _ _ (by omega)]; exact hcell _ _ (e2 1 (by omega))
    · rw [add_seven _ _ _ (by omega)]; exact hcell _ _ (e2 2 (by omega))
    · rw [add_seven _ _ _ (by omega)]; exact hcell _ _ (e2 3 (by omega))
    · rw [add_seven _ _ _ (by omega)]; exact hcell _ _ (e2 4 (by omega))
    · rw [add_seven _ _ _ (by omega)]; exact hcell _ _ (e2 5 (by omega))
    · rw [add_seven _ _ _ (by omega)]; exact hcell _ _ (e2 6 (by omega))
/-- A row of integers of one's own, as it reads. -/
theorem own_iat {w : World} {B n c : Nat} {A : Option Addr} {xs : List Int} (h : OwnI w B (.slice A n c) xs) (hl : xs.length ≤ 17592186044416) : n = xs.length ∧ IAt w (fun b => B ≤ b) xs A c := by
  have hown := h.own
  obtain ⟨⟨h1, h2⟩, hw⟩ := h
  simp only [List.length_map, Nat.mul_one] at h1 h2
  rcases h2 with ⟨e, h0⟩ | ⟨g, cap, cur, e, hB, hg, hc, hm, hs, ht⟩
  · injection e with e1 e2 e3
    subst e1 e2 e3
    have : xs = [] := by simpa using h0
    subst this
    exact ⟨rfl, ⟨Nat.le_refl _, Nat.zero_le _, fun _ => ⟨rfl, rfl⟩, by simp⟩, fun j hj => by simp at hj⟩
  · injection e with e1 e2 e3
    subst e1 e2 e3
    refine ⟨rfl, ⟨hc, hm, fun h => (by cases h), hl⟩, fun j hj => ⟨⟨g, 0, none⟩, rfl, hB, ?_, hw _ (List.getElem_mem hj)⟩⟩
    exact World.ownsRow.cells hown (g := g) rfl j _ (by simp [hj])
theorem iat_ints {w : World} {S : Nat → Prop} {B tc : Nat} {ts : List Int} {T : Option Addr} (h : IAt w S ts T tc) (hS : ∀ b, S b → b < w.heap.size → b < B) : Ints w B T ts.length tc ts := by
  refine ⟨rfl, h.1.1, h.1.2.1, fun x hx => ?_, fun e => ?_, ?_⟩
  · obtain ⟨j, hj, rfl⟩ := List.getElem_of_mem hx
    obtain ⟨_, _, _, _, h4⟩ := h.2 j hj
    exact h4
  · obtain ⟨h1, h2⟩ := h.1.2.2.1 e
    exact ⟨by rw [h1]; rfl, h2⟩
  · by_cases h0 : ts.length = 0
    · exact .inl h0
    · obtain ⟨ad, e, h1, h2, _⟩ := h.2 0 (by omega)
      refine .inr ⟨ad, e, hS _ h1 (by have := cell_lt h2; rw [add_block] at this; exact this), fun i hi => ?_⟩
      obtain ⟨ad2, e2, _, h4, _⟩ := h.2 i hi
      rw [e] at e2
      injection e2 with e2
      subst e2
      rw [h4, gw_get hi]
end Go.Proofs.Ytohdaclbgedeiaa
