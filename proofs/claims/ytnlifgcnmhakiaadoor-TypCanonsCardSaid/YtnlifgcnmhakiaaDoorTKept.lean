/-
  FROM ONE WORLD TO ANOTHER ONLY SOME BLOCKS HAVE TURNED.
-/
import Derived.Test.YtnlifgcnmhakiaaDoorTTab
namespace Go.Proofs.YtnlifgcnmhakiaaDoor
open Go.ChangeShapes Go.WideShapes Go.ChangeAt Go.RowKit

/-- From A to B only blocks of S have turned, and new ones have come. -/
structure Kept (S : Nat → Prop) (A B : World) : Prop where
  os : B.os = A.os
  tape : B.tape = A.tape
  output : B.output = A.output
  size : A.heap.size ≤ B.heap.size
  block : ∀ k, k < A.heap.size → ¬ S k → B.heap[k]? = A.heap[k]?
theorem Kept.refl (S : Nat → Prop) (A : World) : Kept S A A := ⟨rfl, rfl, rfl, Nat.le_refl _, fun _ _ _ => rfl⟩
theorem Kept.trans {S T : Nat → Prop} {A B C : World} (h : Kept S A B) (k : Kept T B C) : Kept (fun b => S b ∨ T b) A C :=
  ⟨k.os.trans h.os, k.tape.trans h.tape, k.output.trans h.output, Nat.le_trans h.size k.size, fun b hb hn => (k.block b (Nat.lt_of_lt_of_le hb h.size) (fun e => hn (.inr e))).trans (h.block b hb (fun e => hn (.inl e)))⟩
theorem Kept.mono {S T : Nat → Prop} {A B : World} (h : Kept S A B) (hS : ∀ b, b < A.heap.size → S b → T b) : Kept T A B :=
  ⟨h.os, h.tape, h.output, h.size, fun b hb hn => h.block b hb (fun e => hn (hS b hb e))⟩
theorem Kept.then {S T U : Nat → Prop} {A B C : World} (h : Kept S A B) (k : Kept T B C) (hS : ∀ b, b < A.heap.size → S b → U b) (hT : ∀ b, b < A.heap.size → T b → U b) : Kept U A C :=
  (h.trans k).mono (fun b hb e => e.elim (hS b hb) (hT b hb))
theorem Kept.alloc {S : Nat → Prop} {A B : World} (h : Kept S A B) (o : Obj) : Kept S A (B.alloc o) :=
  h.then (T := S) ⟨rfl, rfl, rfl, by simp, fun k hk _ => Below.heap_alloc _ _ _ hk⟩ (fun _ _ e => e) (fun _ _ e => e)
theorem Kept.drew {S : Nat → Prop} {A B : World} (h : Kept S A B) : Kept S A B.drew := ⟨h.os, h.tape, h.output, h.size, h.block⟩
theorem Kept.setCell {S : Nat → Prop} {A B : World} (h : Kept S A B) {p : Addr} (hp : S p.block ∨ A.heap.size ≤ p.block) (u : Value) : Kept S A (B.setCell p u) :=
  h.then (T := fun b => b = p.block) ⟨rfl, rfl, rfl, by simp [World.setCell], fun k _ hk => Below.heap_setCell _ _ _ _ hk⟩ (fun _ _ e => e) (fun b hb e => by subst e; exact hp.resolve_right (by omega))
theorem Kept.grown {S : Nat → Prop} {A B C : World} {row : Option Nat} (h : Kept S A B) (hg : B.grownBy C row) (hr : ∀ k, row = some k → S k ∨ A.heap.size ≤ k) : Kept S A C :=
  h.then (T := fun b => row = some b) ⟨hg.os, hg.tape, hg.output, hg.size, fun k hk hn => hg.block k hk (fun e => hn e.symm)⟩ (fun _ _ e => e) (fun b hb e => (hr b e).resolve_right (by omega))
theorem Kept.of_below {A B : World} (h : Below A.heap.size A B) (S : Nat → Prop) : Kept S A B := ⟨h.os, h.tape, h.output, h.size, fun k hk _ => h.block k hk⟩
theorem Kept.below {S : Nat → Prop} {A B : World} {n : Nat} (h : Kept S A B) (hn : n ≤ A.heap.size) (hS : ∀ b, S b → n ≤ b) : Below n A B :=
  ⟨h.os, h.tape, h.output, h.size, fun k hk => h.block k (by omega) (fun e => by have := hS k e; omega)⟩


theorem Kept.hop {S : Nat → Prop} {W w w' : World} (h : Kept S w w') (b : Kept S W w) : Kept S W w' := b.then h (fun _ _ e => e) (fun _ _ e => e)
theorem Kept.after {S : Nat → Prop} {W w w' : World} (h : Below w.heap.size w w') (b : Kept S W w) : Kept S W w' := (Kept.of_below h S).hop b
theorem Kept.drewN {S : Nat → Prop} {A B : World} (h : Kept S A B) (n : Nat) : Kept S A (B.drewN n) := ⟨h.os, h.tape, h.output, h.size, h.block⟩
theorem Blk.kept {S : Nat → Prop} {w w' : World} {g : Nat} {t : TypeId} {cs : Array Value} (h : Blk w g t cs) (hk : Kept S w w') (hS : ¬ S g) : Blk w' g t cs := (hk.block g h.lt hS).trans h
theorem TAt.kept {S T : Nat → Prop} {w w' : World} {t : Ty} {v : Value} (h : TAt w S t v) (hk : Kept T w w') (hT : ∀ b, S b → ¬ T b) : TAt w' S t v := h.keep (fun k hs hl => ⟨hk.block k hl (hT k hs), hs⟩)
theorem TRow.kept {S T : Nat → Prop} {w w' : World} {ts : List Ty} {A : Option Addr} {i : Nat} (h : TRow w S ts A i) (hk : Kept T w w') (hT : ∀ b, S b → ¬ T b) : TRow w' S ts A i := TRow.keep (fun k hs hl => ⟨hk.block k hl (hT k hs), hs⟩) ts A i h
theorem Tb.kept {S T : Nat → Prop} {w w' : World} {p pv c : Nat} {σ : Sg} {cur : Array Value} (h : Tb S w p pv c σ cur) (hk : Kept T w w') (hT : ∀ b, S b → ¬ T b) (h1 : ¬ T p) (h2 : ¬ T pv) : Tb S w' p pv c σ cur :=
  h.keep (fun k hl hs => hk.block k hl (by rcases hs with hs | rfl | rfl; exact hT k hs; exact h1; exact h2))
/-- A table's footprint may be narrowed to what is there. -/
theorem Tb.narrow {S : Nat → Prop} {w : World} {p pv c : Nat} {σ : Sg} {cur : Array Value} (h : Tb S w p pv c σ cur) : Tb (fun b => S b ∧ b < w.heap.size) w p pv c σ cur := by
  refine ⟨h.blk, h.row, h.size, h.len, h.cap, h.few, fun e => h.pS e.1, fun e => h.vS e.1, h.ne, fun i hi => ?_⟩
  obtain ⟨k, s, n, A, m, c', b, e0, e1, e2, e3, e4, h0, h1⟩ := h.ent i hi
  refine ⟨k, s, n, A, m, c', b, e0, e1, e2, e3, e4, h0, fun hb => ?_⟩
  obtain ⟨t, h2, h3⟩ := h1 hb
  exact ⟨t, h2, h3.mono (fun k hk hl => ⟨hk, hl⟩)⟩
theorem Tb.widen {S T : Nat → Prop} {w : World} {p pv c : Nat} {σ : Sg} {cur : Array Value} (h : Tb S w p pv c σ cur) (hT : ∀ k, S k → k < w.heap.size → T k) (h1 : ¬ T p) (h2 : ¬ T pv) : Tb T w p pv c σ cur := by
  refine ⟨h.blk, h.row, h.size, h.len, h.cap, h.few, h1, h2, h.ne, fun i hi => ?_⟩
  obtain ⟨k, s, n, A, m, c', b, e0, e1, e2, e3, e4, h0, h1⟩ := h.ent i hi
  refine ⟨k, s, n, A, m, c', b, e0, e1, e2, e3, e4, h0, fun hb => ?_⟩
  obtain ⟨t, h2, h3⟩ := h1 hb
  exact ⟨t, h2, h3.mono hT⟩
end Go.Proofs.YtnlifgcnmhakiaaDoor
