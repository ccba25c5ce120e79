/-
  APPEND OF A TOKEN: THE ROW LIES WHERE IT LAY, OR IN A NEW BLOCK.
-/
import Derived.Test.YtngbaghkjaibeaaDoorXLaws
import Derived.Laws.Rows
namespace Go.Proofs.YtngbaghkjaibeaaDoor
set_option linter.all false
open Go.ChangeShapes Go.WideShapes Go.ChangeAt Go.RowKit

set_option maxRecDepth 100000 in
/-- append of one token onto a row of tokens of one's own: the row lies where it lay, or in a new block. -/
theorem run_appK (w : World) (ty : TypeId) (B : Nat) {v : Value} {n : Nat} {xs : List Value} (hown : w.ownsRow B 32 4 v n xs) {ad : Addr} {c : Nat} {news : List Value} (hl : news.length = 4) (hcell : ∀ j u, news[j]? = some u → w.cell? (ad.add j) = some u) (h1 : ∀ u ∈ news, u.oneCell' = true) (hlen : n + 1 ≤ 1000000) (hB : B ≤ w.heap.size) :
    ∃ v' w', (Builtin.append_ #[23, 23] ty #[v, .slice (some ad) 1 c]).run Tryd.prog w = .ok v' w' ∧ w'.ownsRow B 32 4 v' (n + 1) (xs ++ news) ∧ w.grownBy w' v.ownBlock ∧
      (∀ g, v'.ownBlock = some g → v.ownBlock = some g ∨ w.heap.size ≤ g) := by
  obtain ⟨i, hi1, hz, hs1, hs2⟩ := info_tok.parts
  obtain ⟨v', w', hr, h2, h3, _⟩ := run_append_own (P := Tryd.prog) w B 23 ty 32 i _ 4 40 Tryd.underlying23 hi1 hz hs1 hs2 rfl (by omega) v n _ hown ad 1 c news (by omega) hcell h1 (by unfold maxLen; omega) (by omega) hB
  refine ⟨v', w', hr, h2, h3, fun g hg => ?_⟩
  rcases hown.2 with ⟨rfl, hn0⟩ | ⟨g0, cap, cur, rfl, hbg, hgg, hnc, hcm, hcs, htake⟩
  · right
    subst hn0
    have hx : xs = [] := List.length_eq_zero_iff.1 (by have := hown.1; simpa using this)
    subst hx
    obtain ⟨v2, w2, hr2, h22, _, _⟩ := run_append_own (P := Tryd.prog) w w.heap.size 23 ty 32 i _ 4 40 Tryd.underlying23 hi1 hz hs1 hs2 rfl (by omega) (.slice none 0 0) 0 [] (World.ownsRow_nil w w.heap.size 32 4) ad 1 c news (by omega) hcell h1 (by unfold maxLen; omega) (by omega) (Nat.le_refl _)
    rw [hr] at hr2
    injection hr2 with e1 e2
    subst e1
    exact (h22.lt g hg).1
  · by_cases hroom : n + 1 ≤ cap
    · left
      have hr2 := run_append_room (P := Tryd.prog) w 23 ty 32 i Tryd.underlying23 hi1 g0 n cap cur hgg ad 1 c news (by omega) hcell h1 hroom (by rw [hs1, hl, hcs]; omega)
      rw [hr] at hr2
      injection hr2 with e1 e2
      subst e1
      exact hg
    · right
      have hr2 := run_append_grow (P := Tryd.prog) w 23 ty 32 i _ Tryd.underlying23 hi1 hz ⟨g0, 0, none⟩ n cap xs (by rw [hs1]; exact hown.1) (hown.cells (g := g0) rfl) ad 1 c news (by omega) hcell (by omega) (by omega) (growslice_fits (by omega) (by rw [hs2]; omega))
      rw [hr] at hr2
      injection hr2 with e1 e2
      subst e1
      simp [Value.ownBlock] at hg
      omega
set_option maxRecDepth 100000 in
theorem wpList_appK {w : World} {ops : Array Oper} {rest : List Oper} {o : Oper} {a : Act} {Q : Exit → Act → World → Prop} (hgd : o.guard = none) (s x : Operand)
    (ho : o.op = .call { callee := .builtin .append, args := #[s, x], argTypes := #[23, 23] })
    (B : Nat) {v : Value} {n : Nat} {xs : List Value} (hs : a.eval s = v) (hown : w.ownsRow B 32 4 v n xs) {ad : Addr} {c : Nat} {news : List Value} (hx : a.eval x = .slice (some ad) 1 c) (hl : news.length = 4) (hcell : ∀ j u, news[j]? = some u → w.cell? (ad.add j) = some u) (h1 : ∀ u ∈ news, u.oneCell' = true)
    (hlen : n + 1 ≤ 1000000) (hB : B ≤ w.heap.size)
    (h : ∀ v' w', w'.ownsRow B 32 4 v' (n + 1) (xs ++ news) → w.grownBy w' v.ownBlock → (∀ g, v'.ownBlock = some g → v.ownBlock = some g ∨ w.heap.size ≤ g) → wpList Tryd.prog ops Q rest (a.put o.dst v') w') : wpList Tryd.prog ops Q (o :: rest) a w := by
  refine wpList_plain hgd fun _ hK => ?_
  obtain ⟨v', w', hr, r1, r2, r3⟩ := run_appK w o.type B hown hl hcell h1 hlen hB
  unfold Oper.wp execOp
  simp only [ho, resolve, invoke, builtin, Sem.run_bind, Sem.run_pure, Result.andThen_ok, List.map_toArray, List.map_cons, List.map_nil, hs, hx]
  rw [hr]
  exact hK _ _ (h v' w' r1 r2 r3)
theorem cells_lit1 (w : World) (t : TypeId) (v0 v1 v2 v3 : Value) : ∀ j u, [v0, v1, v2, v3][j]? = some u → (w.alloc (.cells #[v0, v1, v2, v3] t)).cell? ((⟨w.heap.size, 0, none⟩ : Addr).add j) = some u := by
  intro j u hj
  have hp : (⟨w.heap.size, 0, none⟩ : Addr).add j = ⟨w.heap.size, j, none⟩ := by unfold Addr.add; split <;> simp_all
  rw [hp, (Blk.new w t #[v0, v1, v2, v3]).cell j]
  simpa using hj
theorem cells_lit (w : World) {g : Nat} (hg : g = w.heap.size) (t : TypeId) (v0 v1 v2 v3 : Value) : ∀ j u, [v0, v1, v2, v3][j]? = some u → (w.alloc (.cells #[v0, v1, v2, v3] t)).cell? ((⟨g, 0, none⟩ : Addr).add j) = some u := by
  subst hg
  exact cells_lit1 w t v0 v1 v2 v3
theorem TRowT.keep {w w' : World} {B : Nat} {v : Value} {l : List Lx.Tok} (h : TRowT w B v l) (hk : ∀ g, v.ownBlock = some g → w'.heap[g]? = w.heap[g]?) : TRowT w' B v l := row_keep h hk
end Go.Proofs.YtngbaghkjaibeaaDoor
