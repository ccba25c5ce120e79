/-
  VALUES IN MEMORY, MORE.
-/
import Derived.Test.YtgakmfcnddholaaCTree
namespace Go.Proofs.Ytgakmfcnddholaa
open Go.ChangeShapes Go.WideShapes Go.ChangeAt Go.RowKit

mutual
theorem VAt.up_ {w w' : World} {B B' : Nat} (hB : B ≤ B') (h : ∀ k, k < B → w'.heap[k]? = w.heap[k]?) : ∀ (t : Tr) (v : Value), VAt w B t v → VAt w' B' t v
  | .mk b n us, v, hv => by
    rw [VAt] at hv ⊢
    obtain ⟨⟨A, c, h1, h2, h3, h4, h5⟩, h6⟩ := hv
    exact ⟨⟨A, c, h1, h2, h3, h4, RowV.up_ hB h us A 0 h5⟩, h6⟩
theorem RowV.up_ {w w' : World} {B B' : Nat} (hB : B ≤ B') (h : ∀ k, k < B → w'.heap[k]? = w.heap[k]?) : ∀ (ts : List Tr) (A : Option Addr) (i : Nat), RowV w B ts A i → RowV w' B' ts A i
  | [], _, _, _ => by rw [RowV]; trivial
  | t :: ts, A, i, hv => by
    rw [RowV] at hv ⊢
    obtain ⟨⟨ad, v0, v1, v2, h1, h2, h3, h4, h5, h6⟩, h7⟩ := hv
    have e : ∀ a : Addr, a.block < B → w'.cell? a = w.cell? a := fun a ha => World.cell?_of_block (w := w) (h _ ha)
    have eb := add_block ad (i * 3)
    exact ⟨⟨ad, v0, v1, v2, h1, by omega, (e _ (by rw [eb]; exact h2)).trans h3, (e _ (by dsimp only; rw [eb]; exact h2)).trans h4, (e _ (by dsimp only; rw [eb]; exact h2)).trans h5, VAt.up_ hB h t _ h6⟩, RowV.up_ hB h ts A (i + 1) h7⟩
end
theorem VAt.up {w w' : World} {B B' : Nat} {t : Tr} {v : Value} (h : VAt w B t v) (hB : B ≤ B') (hb : Below B w w') : VAt w' B' t v := VAt.up_ hB (fun k hk => hb.block k hk) t v h
theorem VAtS.all {w : World} {S : Nat → Prop} {t : Tr} {v : Value} (h : VAtS w S t v) : VAt w w.heap.size t v := (h.keep (w' := w) (T := fun b => b < w.heap.size) (fun _ _ => rfl) (fun _ _ hk => hk)).toB
/-- A row of one value. -/
theorem row_one {w : World} {B g : Nat} {t : Tr} {v0 v1 v2 : Value} (h : Blk w g 33 #[v0, v1, v2]) (hg : g < B) (hv : VAt w B t (.agg #[v0, v1, v2])) : RowV w B [t] (some ⟨g, 0, none⟩) 0 := by
  rw [RowV, RowV]
  exact ⟨⟨_, v0, v1, v2, rfl, hg, h.cell 0, h.cell 1, h.cell 2, hv⟩, trivial⟩
theorem below_2 {W w : World} (h : Below W.heap.size W w) (o o2 : Obj) : Below W.heap.size W ((w.alloc o).alloc o2) := (h.alloc h.size o).alloc (by have := h.size; simp; omega) o2
end Go.Proofs.Ytgakmfcnddholaa
