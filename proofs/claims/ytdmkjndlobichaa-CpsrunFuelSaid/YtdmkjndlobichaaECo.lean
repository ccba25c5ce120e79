/-
  CORE EXPRESSIONS IN MEMORY, BY THEIR FOOTPRINT; A HANDED-IN ONE.
-/
import Derived.Test.YtdmkjndlobichaaHMem
import Derived.Test.YtdmkjndlobichaaEvT
import Derived.Lib.SmallJoins
import Derived.Deep.Strs
import Derived.Deep.LoopGhost
import Derived.WalkLawsBesides
import Derived.Deep.DeepMust
namespace Go.Proofs.Ytdmkjndlobichaa
set_option linter.all false
open Go.ChangeShapes Go.WideShapes Go.ChangeAt Go.RowKit
open Ev (Co)

theorem below_hop {W w w' : World} (h : Below w.heap.size w w') (b : Below W.heap.size W w) : Below W.heap.size W w' := b.trans (h.mono b.size)
theorem al1 (X : World) (o : Obj) : Below X.heap.size X (X.alloc o) := (Below.refl _ _).alloc (Nat.le_refl _) _
theorem al2 (X : World) (o o2 : Obj) : Below X.heap.size X ((X.alloc o).alloc o2) := (al1 X o).alloc (by simp) _
theorem cell_lt {w : World} {a : Addr} {v : Value} (h : w.cell? a = some v) : a.block < w.heap.size := World.block_lt_of_cell? w _ h
theorem add_block (ad : Addr) (k : Nat) : (ad.add k).block = ad.block := by unfold Addr.add; split <;> rfl
theorem cell_of {w w' : World} {b : Nat} (hk : w'.heap[b]? = w.heap[b]?) {p : Addr} {v : Value} (hp : p.block = b) (h : w.cell? p = some v) : w'.cell? p = some v := by
  subst hp
  exact (World.cell?_of_block (w := w) hk).trans h
/-- A slice's length and capacity. -/
def Sz {α : Type} (us : List α) (A : Option Addr) (c : Nat) : Prop := us.length ≤ c ∧ c ≤ maxLen ∧ (A = none → us = [] ∧ c = 0) ∧ us.length ≤ 17592186044416
/-- A row of integers, handed in. -/
def IAt (w : World) (S : Nat → Prop) (ts : List Int) (T : Option Addr) (tc : Nat) : Prop :=
  Sz ts T tc ∧ ∀ j, (h : j < ts.length) → ∃ ad, T = some ad ∧ S ad.block ∧ w.cell? (ad.add j) = some (.int .i64 ts[j]) ∧ (Lit.int .i64 ts[j]).wf = true
theorem IAt.keep {w w' : World} {S T : Nat → Prop} {ts : List Int} {A : Option Addr} {c : Nat} (h : IAt w S ts A c) (hk : ∀ k, S k → k < w.heap.size → w'.heap[k]? = w.heap[k]? ∧ T k) : IAt w' T ts A c :=
  ⟨h.1, fun j hj => by
    obtain ⟨ad, h1, h2, h3, h4⟩ := h.2 j hj
    have eb := add_block ad j
    have hl : ad.block < w.heap.size := by have := cell_lt h3; omega
    exact ⟨ad, h1, (hk _ h2 hl).2, cell_of (hk _ h2 hl).1 eb h3, h4⟩⟩
def Wf4 (k x y n : Int) : Prop := (Lit.int .i64 k).wf = true ∧ (Lit.int .i64 x).wf = true ∧ (Lit.int .i64 y).wf = true ∧ (Lit.int .i64 n).wf = true
mutual
/-- A value that reads as a core expression, its rows in blocks of S. -/
def CAt (w : World) (S : Nat → Prop) : Co → Value → Prop
  | .mk k x y n i ts us, v => (∃ T tc A c, v = .agg #[.int .i64 k, .int .i64 x, .int .i64 y, .int .i64 n, .bool i, .slice T ts.length tc, .slice A us.length c] ∧ IAt w S ts T tc ∧ Sz us A c ∧ CRow w S us A 0) ∧ Wf4 k x y n
def CRow (w : World) (S : Nat → Prop) : List Co → Option Addr → Nat → Prop
  | [], _, _ => True
  | t :: ts, A, j => (∃ ad v0 v1 v2 v3 v4 v5 v6, A = some ad ∧ S ad.block ∧ ((w).cell? (ad.add (j * 7)) = some (v0) ∧ (w).cell? ⟨(ad.add (j * 7)).block, (ad.add (j * 7)).off + 1, none⟩ = some (v1) ∧ (w).cell? ⟨(ad.add (j * 7)).block, (ad.add (j * 7)).off + 2, none⟩ = some (v2) ∧ (w).cell? ⟨(ad.add (j * 7)).block, (ad.add (j * 7)).off + 3, none⟩ = some (v3) ∧ (w).cell? ⟨(ad.add (j * 7)).block, (ad.add (j * 7)).off + 4, none⟩ = some (v4) ∧ (w).cell? ⟨(ad.add (j * 7)).block, (ad.add (j * 7)).off + 5, none⟩ = some (v5) ∧ (w).cell? ⟨(ad.add (j * 7)).block, (ad.add (j * 7)).off + 6, none⟩ = some (v6)) ∧ CAt w S t (.agg #[v0, v1, v2, v3, v4, v5, v6])) ∧ CRow w S ts A (j + 1)
end
theorem at7_keep {w w' : World} {p : Addr} {b : Nat} {v0 v1 v2 v3 v4 v5 v6 : Value} (hk : w'.heap[b]? = w.heap[b]?) (hp : p.block = b) (h : (w).cell? (p) = some (v0) ∧ (w).cell? ⟨(p).block, (p).off + 1, none⟩ = some (v1) ∧ (w).cell? ⟨(p).block, (p).off + 2, none⟩ = some (v2) ∧ (w).cell? ⟨(p).block, (p).off + 3, none⟩ = some (v3) ∧ (w).cell? ⟨(p).block, (p).off + 4, none⟩ = some (v4) ∧ (w).cell? ⟨(p).block, (p).off + 5, none⟩ = some (v5) ∧ (w).cell? ⟨(p).block, (p).off + 6, none⟩ = some (v6)) : (w').cell? (p) = some (v0) ∧ (w').cell? ⟨(p).block, (p).off + 1, none⟩ = some (v1) ∧ (w').cell? ⟨(p).block, (p).off + 2, none⟩ = some (v2) ∧ (w').cell? ⟨(p).block, (p).off + 3, none⟩ = some (v3) ∧ (w').cell? ⟨(p).block, (p).off + 4, none⟩ = some (v4) ∧ (w').cell? ⟨(p).block, (p).off + 5, none⟩ = some (v5) ∧ (w').cell? ⟨(p).block, (p).off + 6, none⟩ = some (v6) := by
  obtain ⟨h0, h1, h2, h3, h4, h5, h6⟩ := h
  exact ⟨cell_of hk hp h0, cell_of hk (p := ⟨p.block, p.off + 1, none⟩) hp h1, cell_of hk (p := ⟨p.block, p.off + 2, none⟩) hp h2, cell_of hk (p := ⟨p.block, p.off + 3, none⟩) hp h3, cell_of hk (p := ⟨p.block, p.off + 4, none⟩) hp h4, cell_of hk (p := ⟨p.block, p.off + 5, none⟩) hp h5, cell_of hk (p := ⟨p.block, p.off + 6, none⟩) hp h6⟩
mutual
theorem CAt.keep {w w' : World} {S T : Nat → Prop} (h : ∀ k, S k → k < w.heap.size → w'.heap[k]? = w.heap[k]? ∧ T k) : ∀ (t : Co) (v : Value), CAt w S t v → CAt w' T t v
  | .mk k x y n i ts us, v, hv => by
    rw [CAt] at hv ⊢
    obtain ⟨⟨T', tc, A, c, h1, h2, h3, h6⟩, h7⟩ := hv
    exact ⟨⟨T', tc, A, c, h1, h2.keep h, h3, CRow.keep h us A 0 h6⟩, h7⟩
theorem CRow.keep {w w' : World} {S T : Nat → Prop} (h : ∀ k, S k → k < w.heap.size → w'.heap[k]? = w.heap[k]? ∧ T k) : ∀ (ts : List Co) (A : Option Addr) (i : Nat), CRow w S ts A i → CRow w' T ts A i
  | [], _, _, _ => by rw [CRow]; trivial
  | t :: ts, A, i, hv => by
    rw [CRow] at hv ⊢
    obtain ⟨⟨ad, v0, v1, v2, v3, v4, v5, v6, h1, h2, h3, h4⟩, h8⟩ := hv
    have eb := add_block ad (i * 7)
    have hlt : ad.block < w.heap.size := by have := cell_lt h3.1; omega
    exact ⟨⟨ad, v0, v1, v2, v3, v4, v5, v6, h1, (h _ h2 hlt).2, at7_keep (h _ h2 hlt).1 eb h3, CAt.keep h t _ h4⟩, CRow.keep h ts A (i + 1) h8⟩
end
theorem CAt.up {w w' : World} {S : Nat → Prop} {t : Co} {v : Value} (h : CAt w S t v) (hb : Below w.heap.size w w') : CAt w' S t v := h.keep (fun k hk hl => ⟨hb.block k hl, hk⟩)
theorem CRow.up {w w' : World} {S : Nat → Prop} {ts : List Co} {A : Option Addr} {i : Nat} (h : CRow w S ts A i) (hb : Below w.heap.size w w') : CRow w' S ts A i := CRow.keep (fun k hk hl => ⟨hb.block k hl, hk⟩) ts A i h
theorem CAt.mono {w : World} {S T : Nat → Prop} {t : Co} {v : Value} (h : CAt w S t v) (hS : ∀ k, S k → k < w.heap.size → T k) : CAt w T t v := h.keep (fun k hk hl => ⟨rfl, hS k hk hl⟩)
theorem CRow.mono {w : World} {S T : Nat → Prop} {ts : List Co} {A : Option Addr} {i : Nat} (h : CRow w S ts A i) (hS : ∀ k, S k → k < w.heap.size → T k) : CRow w T ts A i := CRow.keep (fun k hk hl => ⟨rfl, hS k hk hl⟩) ts A i h
theorem CAt.all {w : World} {S : Nat → Prop} {t : Co} {v : Value} (h : CAt w S t v) : CAt w (fun _ => True) t v := h.mono (fun _ _ _ => trivial)
theorem CRow.all {w : World} {S : Nat → Prop} {ts : List Co} {A : Option Addr} {i : Nat} (h : CRow w S ts A i) : CRow w (fun _ => True) ts A i := h.mono (fun _ _ _ => trivial)
theorem CAt.low {w : World} {S : Nat → Prop} {t : Co} {v : Value} (h : CAt w S t v) : CAt w (fun b => b < w.heap.size) t v := h.mono (fun _ _ hl => hl)
theorem CAt.parts {w : World} {S : Nat → Prop} {k x y n : Int} {i : Bool} {ts : List Int} {us : List Co} {v : Value} (h : CAt w S (.mk k x y n i ts us) v) :
    ∃ T tc A c, v = .agg #[.int .i64 k, .int .i64 x, .int .i64 y, .int .i64 n, .bool i, .slice T ts.length tc, .slice A us.length c] ∧ IAt w S ts T tc ∧ Sz us A c ∧ CRow w S us A 0 ∧ Wf4 k x y n := by
  rw [CAt] at h
  obtain ⟨⟨T, tc, A, c, h1, h2, h3, h6⟩, h7⟩ := h
  exact ⟨T, tc, A, c, h1, h2, h3, h6, h7⟩
theorem CAt.make {w : World} {S : Nat → Prop} {k x y n : Int} {i : Bool} {ts : List Int} {us : List Co} {T A : Option Addr} {tc c tl m : Nat} (ht : tl = ts.length) (hm : m = us.length) (h1 : IAt w S ts T tc) (h2 : Sz us A c) (h5 : CRow w S us A 0) (h6 : Wf4 k x y n) :
    CAt w S (.mk k x y n i ts us) (.agg #[.int .i64 k, .int .i64 x, .int .i64 y, .int .i64 n, .bool i, .slice T tl tc, .slice A m c]) := by
  subst hm ht
  rw [CAt]
  exact ⟨⟨T, tc, A, c, rfl, h1, h2, h5⟩, h6⟩
theorem CAt.agg {w : World} {S : Nat → Prop} {t : Co} {v : Value} (h : CAt w S t v) : ∃ k x y n i T tl tc A m c, v = .agg #[.int .i64 k, .int .i64 x, .int .i64 y, .int .i64 n, .bool i, .slice T tl tc, .slice A m c] := by
  obtain ⟨k, x, y, n, i, ts, us⟩ := t
  obtain ⟨T, tc, A, c, h1, _⟩ := h.parts
  exact ⟨k, x, y, n, i, T, _, tc, A, _, c, h1⟩
theorem CRow.get {w : World} {S : Nat → Prop} : ∀ {ts : List Co} {A : Option Addr} {i k : Nat} (_ : CRow w S ts A i) (hk : k < ts.length),
    ∃ ad v0 v1 v2 v3 v4 v5 v6, A = some ad ∧ S ad.block ∧ ((w).cell? (ad.add ((i + k) * 7)) = some (v0) ∧ (w).cell? ⟨(ad.add ((i + k) * 7)).block, (ad.add ((i + k) * 7)).off + 1, none⟩ = some (v1) ∧ (w).cell? ⟨(ad.add ((i + k) * 7)).block, (ad.add ((i + k) * 7)).off + 2, none⟩ = some (v2) ∧ (w).cell? ⟨(ad.add ((i + k) * 7)).block, (ad.add ((i + k) * 7)).off + 3, none⟩ = some (v3) ∧ (w).cell? ⟨(ad.add ((i + k) * 7)).block, (ad.add ((i + k) * 7)).off + 4, none⟩ = some (v4) ∧ (w).cell? ⟨(ad.add ((i + k) * 7)).block, (ad.add ((i + k) * 7)).off + 5, none⟩ = some (v5) ∧ (w).cell? ⟨(ad.add ((i + k) * 7)).block, (ad.add ((i + k) * 7)).off + 6, none⟩ = some (v6)) ∧ CAt w S ts[k] (.agg #[v0, v1, v2, v3, v4, v5, v6])
  | [], _, _, _, _, hk => by simp at hk
  | t :: ts, A, i, 0, h, _ => by rw [CRow] at h; exact h.1
  | t :: ts, A, i, k + 1, h, hk => by
    rw [CRow] at h
    have := CRow.get (i := i + 1) (k := k) h.2 (by simpa using hk)
    rw [show i + 1 + k = i + (k + 1) from by omega] at this
    simpa using this
/-- An element of a row, with its seven cells' values. -/
theorem CRow.elem {w : World} {S : Nat → Prop} {ts : List Co} {A : Option Addr} (h : CRow w S ts A 0) {j : Nat} (hj : j < ts.length) :
    ∃ ad k x y n i T tl tc A' m c, A = some ad ∧ S ad.block ∧ (ad.add (j * 7)).block = ad.block ∧ ((w).cell? (ad.add (j * 7)) = some (.int .i64 k) ∧ (w).cell? ⟨(ad.add (j * 7)).block, (ad.add (j * 7)).off + 1, none⟩ = some (.int .i64 x) ∧ (w).cell? ⟨(ad.add (j * 7)).block, (ad.add (j * 7)).off + 2, none⟩ = some (.int .i64 y) ∧ (w).cell? ⟨(ad.add (j * 7)).block, (ad.add (j * 7)).off + 3, none⟩ = some (.int .i64 n) ∧ (w).cell? ⟨(ad.add (j * 7)).block, (ad.add (j * 7)).off + 4, none⟩ = some (.bool i) ∧ (w).cell? ⟨(ad.add (j * 7)).block, (ad.add (j * 7)).off + 5, none⟩ = some (.slice T tl tc) ∧ (w).cell? ⟨(ad.add (j * 7)).block, (ad.add (j * 7)).off + 6, none⟩ = some (.slice A' m c)) ∧ CAt w S ts[j] (.agg #[.int .i64 k, .int .i64 x, .int .i64 y, .int .i64 n, .bool i, .slice T tl tc, .slice A' m c]) := by
  obtain ⟨ad, v0, v1, v2, v3, v4, v5, v6, h1, h2, h3, h4⟩ := h.get hj
  rw [Nat.zero_add] at h3
  obtain ⟨k, x, y, n, i, T, tl, tc, A', m, c, e⟩ := h4.agg
  simp only [Value.agg.injEq, Array.mk.injEq, List.cons.injEq, and_true] at e
  obtain ⟨rfl, rfl, rfl, rfl, rfl, rfl, rfl⟩ := e
  exact ⟨ad, k, x, y, n, i, T, tl, tc, A', m, c, h1, h2, add_block _ _, h3, h4⟩
/-- A row of core expressions, out of its elements. -/
theorem CRow.mk {w : World} {S : Nat → Prop} {ad : Addr} (hS : S ad.block) : ∀ (ts : List Co) (i : Nat) (_ : ∀ k, (hk : k < ts.length) → ∃ v0 v1 v2 v3 v4 v5 v6, ((w).cell? (ad.add ((i + k) * 7)) = some (v0) ∧ (w).cell? ⟨(ad.add ((i + k) * 7)).block, (ad.add ((i + k) * 7)).off + 1, none⟩ = some (v1) ∧ (w).cell? ⟨(ad.add ((i + k) * 7)).block, (ad.add ((i + k) * 7)).off + 2, none⟩ = some (v2) ∧ (w).cell? ⟨(ad.add ((i + k) * 7)).block, (ad.add ((i + k) * 7)).off + 3, none⟩ = some (v3) ∧ (w).cell? ⟨(ad.add ((i + k) * 7)).block, (ad.add ((i + k) * 7)).off + 4, none⟩ = some (v4) ∧ (w).cell? ⟨(ad.add ((i + k) * 7)).block, (ad.add ((i + k) * 7)).off + 5, none⟩ = some (v5) ∧ (w).cell? ⟨(ad.add ((i + k) * 7)).block, (ad.add ((i + k) * 7)).off + 6, none⟩ = some (v6)) ∧ CAt w S ts[k] (.agg #[v0, v1, v2, v3, v4, v5, v6])), CRow w S ts (some ad) i
  | [], _, _ => by rw [CRow]; trivial
  | t :: ts, i, h => by
    rw [CRow]
    refine ⟨?_, CRow.mk hS ts (i + 1) (fun k hk => ?_)⟩
    · obtain ⟨v0, v1, v2, v3, v4, v5, v6, h1⟩ := h 0 (by simp)
      exact ⟨ad, v0, v1, v2, v3, v4, v5, v6, rfl, hS, h1⟩
    · have := h (k + 1) (by simpa using hk)
      rw [show i + (k + 1) = i + 1 + k from by omega] at this
      simpa using this
theorem add_seven (ad : Addr) (i j : Nat) (hj : 0 < j) : (⟨(ad.add (i * 7)).block, (ad.add (i * 7)).off + j, none⟩ : Addr) = ad.add (i * 7 + j) := by
  obtain ⟨b, o, s⟩ := ad
  unfold Addr.add
  rw [if_neg (show ¬ i * 7 + j = 0 by omega)]
  split
  · simp
  · simp; omega
theorem Blk.seven {w : World} {g : Nat} {t : TypeId} {a0 a1 a2 a3 a4 a5 a6 : Value} (h : Blk w g t #[a0, a1, a2, a3, a4, a5, a6]) : (w).cell? ⟨g, 0, none⟩ = some (a0) ∧ (w).cell? ⟨g, 1, none⟩ = some (a1) ∧ (w).cell? ⟨g, 2, none⟩ = some (a2) ∧ (w).cell? ⟨g, 3, none⟩ = some (a3) ∧ (w).cell? ⟨g, 4, none⟩ = some (a4) ∧ (w).cell? ⟨g, 5, none⟩ = some (a5) ∧ (w).cell? ⟨g, 6, none⟩ = some (a6) := ⟨h.cell 0, h.cell 1, h.cell 2, h.cell 3, h.cell 4, h.cell 5, h.cell 6⟩
/-- Where a core expression stands: what is at an address. -/
def CPt (w : World) (S : Nat → Prop) (p : Addr) (t : Co) : Prop := S p.block ∧ ∃ v0 v1 v2 v3 v4 v5 v6, ((w).cell? (p) = some (v0) ∧ (w).cell? ⟨(p).block, (p).off + 1, none⟩ = some (v1) ∧ (w).cell? ⟨(p).block, (p).off + 2, none⟩ = some (v2) ∧ (w).cell? ⟨(p).block, (p).off + 3, none⟩ = some (v3) ∧ (w).cell? ⟨(p).block, (p).off + 4, none⟩ = some (v4) ∧ (w).cell? ⟨(p).block, (p).off + 5, none⟩ = some (v5) ∧ (w).cell? ⟨(p).block, (p).off + 6, none⟩ = some (v6)) ∧ CAt w S t (.agg #[v0, v1, v2, v3, v4, v5, v6])
theorem CPt.keep {w w' : World} {S T : Nat → Prop} {p : Addr} {t : Co} (h : CPt w S p t) (hk : ∀ k, S k → k < w.heap.size → w'.heap[k]? = w.heap[k]? ∧ T k) : CPt w' T p t := by
  obtain ⟨h0, v0, v1, v2, v3, v4, v5, v6, h1, h2⟩ := h
  have hl := cell_lt h1.1
  exact ⟨(hk _ h0 hl).2, v0, v1, v2, v3, v4, v5, v6, at7_keep (hk _ h0 hl).1 rfl h1, h2.keep hk⟩
theorem CPt.up {w w' : World} {S : Nat → Prop} {p : Addr} {t : Co} (h : CPt w S p t) (hb : Below w.heap.size w w') : CPt w' S p t := h.keep (fun k hk hl => ⟨hb.block k hl, hk⟩)
theorem CPt.cells {w : World} {S : Nat → Prop} {p : Addr} {k x y n : Int} {i : Bool} {ts : List Int} {us : List Co} (h : CPt w S p (.mk k x y n i ts us)) :
    ∃ T tc A c, ((w).cell? (p) = some (.int .i64 k) ∧ (w).cell? ⟨(p).block, (p).off + 1, none⟩ = some (.int .i64 x) ∧ (w).cell? ⟨(p).block, (p).off + 2, none⟩ = some (.int .i64 y) ∧ (w).cell? ⟨(p).block, (p).off + 3, none⟩ = some (.int .i64 n) ∧ (w).cell? ⟨(p).block, (p).off + 4, none⟩ = some (.bool i) ∧ (w).cell? ⟨(p).block, (p).off + 5, none⟩ = some (.slice T ts.length tc) ∧ (w).cell? ⟨(p).block, (p).off + 6, none⟩ = some (.slice A us.length c)) ∧ IAt w S ts T tc ∧ Sz us A c ∧ CRow w S us A 0 ∧ Wf4 k x y n := by
  obtain ⟨h0, v0, v1, v2, v3, v4, v5, v6, h1, h2⟩ := h
  obtain ⟨T, tc, A, c, e, h3, h4⟩ := h2.parts
  simp only [Value.agg.injEq, Array.mk.injEq, List.cons.injEq, and_true] at e
  obtain ⟨rfl, rfl, rfl, rfl, rfl, rfl, rfl⟩ := e
  exact ⟨T, tc, A, c, h1, h3, h4⟩
theorem CRow.pt {w : World} {S : Nat → Prop} {ts : List Co} {A : Option Addr} (h : CRow w S ts A 0) {j : Nat} (hj : j < ts.length) : ∃ ad, A = some ad ∧ CPt w S (ad.add (j * 7)) ts[j] := by
  obtain ⟨ad, v0, v1, v2, v3, v4, v5, v6, h1, h2, h3, h4⟩ := h.get hj
  rw [Nat.zero_add] at h3
  exact ⟨ad, h1, by rw [add_block]; exact h2, v0, v1, v2, v3, v4, v5, v6, h3, h4⟩
end Go.Proofs.Ytdmkjndlobichaa
