/-
  A COPY OF A HANDED-IN ROW OF TOKENS; the table of powers.
-/
import Derived.Test.YtngbaghkjaibeaaDoorXText
namespace Go.Proofs.YtngbaghkjaibeaaDoor
set_option linter.all false
open Go.ChangeShapes Go.WideShapes Go.ChangeAt Go.RowKit

set_option maxRecDepth 100000 in
theorem run_copyT (w : World) (ty : TypeId) {A : Option Addr} {c : Nat} {l : List Lx.Tok} (hA : A = none → l = [] ∧ c = 0) (hR : RdT w A l) (hl : l.length ≤ 5000) :
    ∃ A' c' w', (Builtin.append_ #[23, 23] ty #[.slice (some ⟨w.heap.size, 0, none⟩) 0 0, .slice A l.length c]).run Tryd.prog (w.alloc (.cells #[] 32)) = .ok (.slice A' l.length c') w' ∧ RdT w' A' l ∧ Below w.heap.size w w' := by
  obtain ⟨i, hi1, hz, hs1, hs2⟩ := info_tok.parts
  have hown : (w.alloc (.cells #[] 32)).ownsRow w.heap.size 32 4 (.slice (some ⟨w.heap.size, 0, none⟩) 0 0) 0 [] :=
    ⟨by simp, .inr ⟨w.heap.size, 0, #[], rfl, Nat.le_refl _, heap_alloc_new w _, by simp, by simp, by simp, by simp⟩⟩
  have fin : ∀ v' w', w'.ownsRow w.heap.size 32 4 v' (0 + l.length) ([] ++ tcells l) → (w.alloc (.cells #[] 32)).grownBy w' (Value.slice (some ⟨w.heap.size, 0, none⟩) 0 0).ownBlock → ∃ A' c', v' = .slice A' l.length c' ∧ RdT w' A' l ∧ Below w.heap.size w w' := by
    intro v' w' h1 h2
    rw [Nat.zero_add, List.nil_append] at h1
    obtain ⟨A', c', hv⟩ := rowT_slice (l := l) h1
    subst hv
    exact ⟨A', c', rfl, TRowT.rd (l := l) h1, below_grown (alB w _) h2 (by simp) hown⟩
  cases hA2 : A with
  | none =>
    obtain ⟨hn, rfl⟩ := hA hA2
    subst hn
    have hrun := run_append_owned_none (P := Tryd.prog) (w := w.alloc (.cells #[] 32)) w.heap.size 23 ty 32 i 4 Tryd.underlying23 hi1 _ 0 [] hown
    obtain ⟨A', c', hv, h1, h2⟩ := fin _ _ (by simpa [tcells] using hown) ⟨rfl, rfl, rfl, Nat.le_refl _, fun _ _ _ => rfl⟩
    rw [hv] at hrun
    refine ⟨A', c', _, ?_, h1, h2⟩
    rw [← hv] at hrun ⊢
    exact hrun
  | some ad =>
    subst hA2
    have hc : ∀ j u, (tcells l)[j]? = some u → (w.alloc (.cells #[] 32)).cell? (ad.add j) = some u := by
      intro j u hj
      by_cases hne : l = []
      · subst hne; simp [tcells] at hj
      · obtain ⟨ad2, e, h9⟩ := toks_cells (hR.up (alB w (.cells #[] 32))) hne
        injection e with e
        subst e
        exact h9 j u hj
    obtain ⟨v', w', hr, h2, h3, _⟩ := run_append_own (P := Tryd.prog) (w.alloc (.cells #[] 32)) w.heap.size 23 ty 32 i _ 4 40 Tryd.underlying23 hi1 hz hs1 hs2 rfl (by omega) _ 0 [] hown ad l.length c (tcells l) (tcells_lenX l) hc (by
      intro u hu
      unfold tcells at hu
      obtain ⟨t, _, ht⟩ := List.mem_flatMap.1 hu
      simp [tokC] at ht
      rcases ht with rfl | rfl | rfl | rfl <;> rfl) (by unfold maxLen; omega) (by omega) (by simp)
    obtain ⟨A', c', hv, h1, h4⟩ := fin _ _ h2 h3
    subst hv
    exact ⟨A', c', w', hr, h1, h4⟩
set_option maxRecDepth 100000 in
theorem wpList_copyT {w : World} {ops : Array Oper} {rest : List Oper} {o : Oper} {a : Act} {Q : Exit → Act → World → Prop} (hgd : o.guard = none) (s x : Operand)
    (ho : o.op = .call { callee := .builtin .append, args := #[s, x], argTypes := #[23, 23] })
    (hs : a.eval s = .slice (some ⟨w.heap.size, 0, none⟩) 0 0) {A : Option Addr} {c : Nat} {l : List Lx.Tok} (hx : a.eval x = .slice A l.length c) (hA : A = none → l = [] ∧ c = 0) (hR : RdT w A l) (hl : l.length ≤ 5000)
    (h : ∀ A' c' w', RdT w' A' l → Below w.heap.size w w' → wpList Tryd.prog ops Q rest (a.put o.dst (.slice A' l.length c')) w') : wpList Tryd.prog ops Q (o :: rest) a (w.alloc (.cells #[] 32)) := by
  refine wpList_plain hgd fun _ hK => ?_
  obtain ⟨A', c', w', hr, r1, r2⟩ := run_copyT w o.type hA hR hl
  unfold Oper.wp execOp
  simp only [ho, resolve, invoke, builtin, Sem.run_bind, Sem.run_pure, Result.andThen_ok, List.map_toArray, List.map_cons, List.map_nil, hs, hx]
  rw [hr]
  exact hK _ _ (h A' c' w' r1 r2)
theorem laid_tab {W : World} (h : laidMetH Tryd.prog Rows.lexReadsRow.laid W) : TabW W := by
  rw [Go.MakeChecks.laidMetH_plain _ _ _ (by kernel_rfl)] at h
  have h2 := h.tail.tail
  exact Lib.tabIs_of_head (g := 3) (t := 102) (e := 88) (n := 20) (by kernel_rfl) (by kernel_rfl) Tryd.underlying102 Tryd.underlying88 (by kernel_rfl) (by kernel_rfl) h2
end Go.Proofs.YtngbaghkjaibeaaDoor
