/-
  WHAT IS HANDED IN: a heap, a row of integers.
-/
import Derived.Test.YtikdflppccbdaaaPost
import Derived.Test.YtikdflppccbdaaaHBase
import Derived.Deep.Strs
namespace Go.Proofs.Ytikdflppccbdaaa
open Go.ChangeShapes Go.WideShapes Go.ChangeAt Go.RowKit

section
variable {H : Type} {enc : TypeId × Value → H} {W : World} {b0 b1 B : Nat} {sp : Nat → Bool} {hd : Bool} {v : Value} {d : DataW H} {ps : List MemPlace}
theorem open_ints (hval : Value.okWide Try.prog W .any b1 22 v) (h : DataW.Trod enc Try.prog W b0 sp hd 22 v d ps) (hlt : ∀ p ∈ ps, p.block < B) : ∃ A n c xs, v = .slice A n c ∧ Ints W B A n c xs := by
  obtain ⟨a, l, c, rfl⟩ := okWide_slice Try.underlying22 hval
  obtain ⟨fuel, hf⟩ := h
  obtain ⟨A, n, c', xs, e, hi⟩ := ints_of_trod hf hlt
  simp only [Value.cells, List.cons.injEq, and_true] at e
  exact ⟨A, n, c', xs, e, hi⟩
theorem open_isInts (hval : Value.okWide Try.prog W .any b1 22 v) (h : DataW.Trod enc Try.prog W b0 sp hd 22 v d ps) (hlt : ∀ p ∈ ps, p.block < B) : ∃ xs, IsInts W B v xs := by
  obtain ⟨A, n, c, xs, rfl, hi⟩ := open_ints hval h hlt
  exact ⟨xs, A, n, c, rfl, hi⟩
theorem trod_struct4 {P : Program} {t : TypeId} {f0 f1 f2 f3 : Field} {fuel : Nat} {cs : List Value} {x : DataW H × List MemPlace} {held : Bool} (ht : P.underlying t = some (.struct #[f0, f1, f2, f3])) (h : DataW.trod enc P W b0 sp held fuel t cs = some x) :
    ∃ y0 y1 y2 y3 n, x = (.agg [y0.1, y1.1, y2.1, y3.1], y0.2 ++ (y1.2 ++ (y2.2 ++ y3.2))) ∧ cs.length = P.cellsOf t ∧ DataW.trod enc P W b0 sp held n f0.type ((cs.drop f0.offset).take (P.cellsOf f0.type)) = some y0 ∧
      DataW.trod enc P W b0 sp held n f1.type ((cs.drop f1.offset).take (P.cellsOf f1.type)) = some y1 ∧ DataW.trod enc P W b0 sp held n f2.type ((cs.drop f2.offset).take (P.cellsOf f2.type)) = some y2 ∧
      DataW.trod enc P W b0 sp held n f3.type ((cs.drop f3.offset).take (P.cellsOf f3.type)) = some y3 := by
  obtain ⟨xs, n, _, rfl, hl, hlen, hf⟩ := DataW.trod_struct ht h
  match xs, hlen with
  | [y0, y1, y2, y3], _ => exact ⟨y0, y1, y2, y3, n, by simp, hl, by simpa using hf 0 f0 rfl, by simpa using hf 1 f1 rfl, by simpa using hf 2 f2 rfl, by simpa using hf 3 f3 rfl⟩
theorem open_hp (hval : Value.okWide Try.prog W .any b1 24 v) (h : DataW.Trod enc Try.prog W b0 sp hd 24 v d ps) (hlt : ∀ p ∈ ps, p.block < B) : ∃ x, IsHp W B v x := by
  obtain ⟨cs, rfl, hsz⟩ := okWide_struct Try.underlying24 hval
  obtain ⟨fuel, hf⟩ := h
  obtain ⟨y0, y1, y2, y3, n, e, hl, h0, h1, h2, h3⟩ := trod_struct4 Try.underlying24 hf
  simp only [Prod.mk.injEq] at e
  obtain ⟨rfl, rfl⟩ := e
  have hc : Try.prog.cellsOf 24 = 4 := by kernel_rfl
  have hci : Try.prog.cellsOf 3 = 1 := by kernel_rfl
  have hcs : Try.prog.cellsOf 22 = 1 := by kernel_rfl
  rw [hc] at hsz hl
  dsimp only [Value.cells] at h0 h1 h2 h3 hl
  obtain ⟨l⟩ := cs
  match l, hl with
  | [a0, a1, a2, a3], _ =>
    simp only [hci, hcs, List.drop_zero, List.drop_succ_cons, List.take_succ_cons, List.take_zero] at h0 h1 h2 h3
    obtain ⟨A, m, c, xs, e0, hi⟩ := ints_of_trod h0 (fun p hp => hlt p (by simp [hp]))
    obtain ⟨k1, e1, _, _⟩ := DataW.trod_int Try.underlying3 h1
    obtain ⟨k2, e2, _, _⟩ := DataW.trod_int Try.underlying3 h2
    obtain ⟨k3, e3, _, _⟩ := DataW.trod_int Try.underlying3 h3
    simp only [List.cons.injEq, and_true] at e0 e1 e2 e3
    subst e0 e1 e2 e3
    exact ⟨⟨xs, k1, k2, k3⟩, A, m, c, rfl, hi⟩
theorem open_drop (hval : Value.okWide Try.prog W .any b1 46 v) (h : DataW.Trod enc Try.prog W b0 sp hd 46 v d ps) (hlt : ∀ p ∈ ps, p.block < B) : ∃ k A1 n1 c1 xs A2 n2 c2 ys, v = .agg #[.int .i64 k, .slice A1 n1 c1, .slice A2 n2 c2] ∧ Ints W B A1 n1 c1 xs ∧ Ints W B A2 n2 c2 ys := by
  obtain ⟨cs, rfl, hsz⟩ := okWide_struct Try.underlying46 hval
  obtain ⟨fuel, hf⟩ := h
  obtain ⟨y0, y1, y2, n, e, hl, h0, h1, h2⟩ := Deep.trod_struct3 Try.underlying46 hf
  simp only [Prod.mk.injEq] at e
  obtain ⟨rfl, rfl⟩ := e
  have hc : Try.prog.cellsOf 46 = 3 := by kernel_rfl
  have hci : Try.prog.cellsOf 3 = 1 := by kernel_rfl
  have hcs : Try.prog.cellsOf 22 = 1 := by kernel_rfl
  rw [hc] at hsz hl
  dsimp only [Value.cells] at h0 h1 h2 hl
  obtain ⟨l⟩ := cs
  match l, hl with
  | [a0, a1, a2], _ =>
    simp only [hci, hcs, List.drop_zero, List.drop_succ_cons, List.take_succ_cons, List.take_zero] at h0 h1 h2
    obtain ⟨k0, e0, _, _⟩ := DataW.trod_int Try.underlying3 h0
    obtain ⟨A1, n1, c1, xs, e1, i1⟩ := ints_of_trod h1 (fun p hp => hlt p (by simp [hp]))
    obtain ⟨A2, n2, c2, ys, e2, i2⟩ := ints_of_trod h2 (fun p hp => hlt p (by simp [hp]))
    simp only [List.cons.injEq, and_true] at e0 e1 e2
    subst e0 e1 e2
    exact ⟨k0, A1, n1, c1, xs, A2, n2, c2, ys, rfl, i1, i2⟩
def IsDrop (w : World) (B : Nat) (v : Value) (x : Int × List Int × List Int) : Prop := ∃ A1 n1 c1 A2 n2 c2, v = .agg #[.int .i64 x.1, .slice A1 n1 c1, .slice A2 n2 c2] ∧ Ints w B A1 n1 c1 x.2.1 ∧ Ints w B A2 n2 c2 x.2.2
theorem open_isDrop (hval : Value.okWide Try.prog W .any b1 46 v) (h : DataW.Trod enc Try.prog W b0 sp hd 46 v d ps) (hlt : ∀ p ∈ ps, p.block < B) : ∃ x, IsDrop W B v x := by
  obtain ⟨k, A1, n1, c1, xs, A2, n2, c2, ys, rfl, h1, h2⟩ := open_drop hval h hlt
  exact ⟨(k, xs, ys), A1, n1, c1, A2, n2, c2, rfl, h1, h2⟩
end
theorem below_hop {w w1 w2 : World} (hb : Below w1.heap.size w1 w2) (h : Below w.heap.size w w1) : Below w.heap.size w w2 := below_then hb h h.size
theorem Blk.cells4 {w : World} {g : Nat} {t : TypeId} {a b c d : Value} (h : Blk w g t #[a, b, c, d]) : w.cell? ⟨g, 0, none⟩ = some a ∧ w.cell? ⟨g, 1, none⟩ = some b ∧ w.cell? ⟨g, 2, none⟩ = some c ∧ w.cell? ⟨g, 3, none⟩ = some d ∧
    (∀ o, (w.alloc o).cell? ⟨g, 0, none⟩ = some a) ∧ (∀ o, (w.alloc o).cell? ⟨g, 1, none⟩ = some b) ∧ (∀ o, (w.alloc o).cell? ⟨g, 2, none⟩ = some c) ∧ (∀ o, (w.alloc o).cell? ⟨g, 3, none⟩ = some d) :=
  ⟨h.cell 0, h.cell 1, h.cell 2, h.cell 3, fun o => (h.alloc o).cell 0, fun o => (h.alloc o).cell 1, fun o => (h.alloc o).cell 2, fun o => (h.alloc o).cell 3⟩
end Go.Proofs.Ytikdflppccbdaaa
