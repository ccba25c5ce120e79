/-
  A HANDED-IN ROW OF INTEGERS.
-/
import Derived.Test.YtgakmfcnddholaaCTree
namespace Go.Proofs.Ytgakmfcnddholaa
open Go.ChangeShapes Go.WideShapes Go.ChangeAt Go.RowKit

def IsInts (w : World) (B : Nat) (v : Value) (xs : List Int) : Prop := ∃ A n c, v = .slice A n c ∧ Ints w B A n c xs
theorem open_isInts {H : Type} {enc : TypeId × Value → H} {W : World} {B b0 b1 : Nat} {sp : Nat → Bool} {hd : Bool} {v : Value} {d : DataW H} {ps : List MemPlace} (hval : Value.okWide Try.prog W .any b1 36 v) (h : DataW.Trod enc Try.prog W b0 sp hd 36 v d ps) (hlt : ∀ p ∈ ps, p.block < B) : ∃ xs, IsInts W B v xs := by
  obtain ⟨a, l, c, rfl⟩ := okWide_slice Try.underlying36 hval
  obtain ⟨fuel, hf⟩ := h
  obtain ⟨A, n, c', xs, e, hi⟩ := ints_of_trod hf hlt
  simp only [Value.cells, List.cons.injEq, and_true] at e
  exact ⟨xs, A, n, c', e, hi⟩
end Go.Proofs.Ytgakmfcnddholaa
