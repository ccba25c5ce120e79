/-
  THE WALK OF eval.machine.simple: its parts' values; a constructor.
-/
import Derived.Test.YtohdaclbgedeiaaESimA
namespace Go.Proofs.Ytohdaclbgedeiaa
set_option linter.all false
open Go.ChangeShapes Go.WideShapes Go.ChangeAt Go.RowKit
open Ev (Co Va En Out evL ev R bnd)
def pre (ds : List Va) : Out (List Va) → Out (List Va)
  | .ok vs => .ok (ds ++ vs)
  | .stop e => .stop e
theorem evL_cons {f : Co → Nat → List Int → R Va} {c : Co} {cs : List Co} {s : Nat} {ws : List Int} {r : Out (List Va)} {s' : Nat} {ws' : List Int} (h : evL f (c :: cs) s ws = some (r, s', ws')) :
    (∃ e, f c s ws = some (.stop e, s', ws') ∧ r = .stop e) ∨ ∃ v s1 w1 r2, f c s ws = some (.ok v, s1, w1) ∧ evL f cs s1 w1 = some (r2, s', ws') ∧ r = pre [v] r2 := by
  rw [evL] at h
  by_cases h9 : cs.length < 900000
  rw [if_pos h9] at h
  rotate_left
  rw [if_neg h9] at h; cases h
  rcases Ev.bnd_some h with ⟨e, h1, rfl⟩ | ⟨v, s1, w1, h1, h2⟩
  · exact .inl ⟨e, h1, rfl⟩
  · rcases Ev.bnd_some h2 with ⟨e, h3, rfl⟩ | ⟨vs, s2, w2, h3, h4⟩
    · exact .inr ⟨v, s1, w1, .stop e, h1, h3, rfl⟩
    · injection h4 with h4
      injection h4 with h5 h4
      injection h4 with h6 h7
      subst h5 h6 h7
      exact .inr ⟨v, s1, w1, .ok vs, h1, h3, rfl⟩
theorem evL_len {f : Co → Nat → List Int → R Va} {cs : List Co} {s : Nat} {ws : List Int} {r : Out (List Va) × Nat × List Int} (h : evL f cs s ws = some r) : cs.length ≤ 900000 := by
  cases cs with
  | nil => simp
  | cons c cs =>
    rw [evL] at h
    by_cases h9 : cs.length < 900000
    · simp; omega
    · rw [if_neg h9] at h; cases h
theorem pre_pre (ds es : List Va) (r : Out (List Va)) : pre ds (pre es r) = pre (ds ++ es) r := by cases r <;> simp [pre]
/-- A row of values that is being built. -/
structure BldV (B M : Nat) (wv lv : Value) (T : Nat → Prop) (ds : List Va) (n : Nat) (xs : List Value) (w : World) : Prop where
  row : w.ownsRow B 91 1 lv n xs
  len : n = ds.length
  out : ∀ g, lv.ownBlock = some g → Sf M wv g
  kids : ∀ j, (h : j < ds.length) → ∃ v, xs[j]? = some v ∧ VAt w (fun b => SfT M wv T b ∧ lv.ownBlock ≠ some b) (ds[j]'h) v
theorem BldV.start (w : World) (B M : Nat) (wv : Value) (T : Nat → Prop) : BldV B M wv (.slice none 0 0) T [] 0 [] w := ⟨World.ownsRow_nil _ _ _ _, rfl, fun g h => by simp [Value.ownBlock] at h, fun j h => by simp at h⟩
theorem BldV.step {B M : Nat} {wv wv1 lv : Value} {T : Nat → Prop} {ds : List Va} {n : Nat} {xs : List Value} {w w1 : World} (h : BldV B M wv lv T ds n xs w) (hs : MStep M wv wv1 w w1) : BldV B M wv1 lv T ds n xs w1 := by
  refine ⟨row_keep h.row (fun g hg => (hs.keeps g (h.out g hg) (h.row.lt g hg).2).1), h.len, fun g hg => (hs.keeps g (h.out g hg) (h.row.lt g hg).2).2, fun j hj => ?_⟩
  obtain ⟨v, h1, h2⟩ := h.kids j hj
  exact ⟨v, h1, VAt.keep (fun k hk hl => ⟨(hs.keepT k hk.1 hl).1, (hs.keepT k hk.1 hl).2, hk.2⟩) _ _ h2⟩
theorem MSt.other {w w2 : World} {M F s : Nat} {ws : List Int} {wv : Value} {o : Obj} {ob : Option Nat} (h : MSt w M F s ws wv) (hg : (w.alloc o).grownBy w2 ob) (hob : ∀ g, ob = some g → Sf M wv g) : MSt w2 M F s ws wv := by
  have hk : ∀ k, k < w.heap.size → ob ≠ some k → w2.heap[k]? = w.heap[k]? := fun k hk hne => (hg.block k (by simp; omega) (fun e => hne e.symm)).trans (Below.heap_alloc _ _ _ hk)
  exact ⟨(hk M h.blk.lt (fun e => (hob M e).1 rfl)).trans h.blk, ⟨row_keep h.own.own (fun g e => hk g (h.own.own.lt g e).2 (fun e2 => (hob g e2).2 e)), h.own.wf⟩, h.hF, h.hs, h.hw⟩
theorem MStep.other {M : Nat} {wv wv1 : Value} {w w1 w2 : World} {o : Obj} {ob : Option Nat} (h : MStep M wv wv1 w w1) (hg : (w1.alloc o).grownBy w2 ob) (hob : ∀ g, ob = some g → w.heap.size ≤ g) : MStep M wv wv1 w w2 := by
  have h0 := h.size
  have h9 : (w1.alloc o).heap.size = w1.heap.size + 1 := by simp
  refine ⟨hg.os.trans h.os, hg.tape.trans h.tape, hg.output.trans h.output, by have := hg.size; omega, fun k hk hM hn => ?_, h.own⟩
  exact (hg.block k (by omega) (fun e => by have := hob k e.symm; omega)).trans ((Below.heap_alloc _ _ _ (by omega)).trans (h.block k hk hM hn))
theorem BldV.next {B M : Nat} {wv lv lv' : Value} {T : Nat → Prop} {ds : List Va} {n : Nat} {xs : List Value} {w w2 : World} {o : Obj} {u : Va} {v : Value} {F s : Nat} {ws : List Int} (h : BldV B M wv lv T ds n xs w) (hm : MSt w M F s ws wv)
    (hu : VAt w (fun b => SfT M wv T b ∧ lv.ownBlock ≠ some b) u v) (hr : w2.ownsRow B 91 1 lv' (n + 1) (xs ++ [v])) (hg : (w.alloc o).grownBy w2 lv.ownBlock) (hn : ∀ g, lv'.ownBlock = some g → lv.ownBlock = some g ∨ (w.alloc o).heap.size ≤ g) : BldV B M wv lv' T (ds ++ [u]) (n + 1) (xs ++ [v]) w2 := by
  have hsz : (w.alloc o).heap.size = w.heap.size + 1 := by simp
  have hk : ∀ k, (SfT M wv T k ∧ lv.ownBlock ≠ some k) → k < w.heap.size → w2.heap[k]? = w.heap[k]? ∧ (SfT M wv T k ∧ lv'.ownBlock ≠ some k) := fun k hk hl =>
    ⟨(hg.block k (by omega) (fun e => hk.2 e.symm)).trans (Below.heap_alloc _ _ _ hl), hk.1, fun e => by
      rcases hn k e with e | e
      · exact hk.2 e
      · omega⟩
  have hxl : xs.length = ds.length := by have := h.row.1; have := h.len; omega
  refine ⟨hr, by simp [h.len], fun g hg2 => ?_, fun j hj => ?_⟩
  · rcases hn g hg2 with e | e
    · exact h.out g e
    · exact hm.sf (by omega)
  · by_cases hjj : j < ds.length
    · obtain ⟨v2, h1, h2⟩ := h.kids j hjj
      refine ⟨v2, by rw [List.getElem?_append_left (by omega)]; exact h1, ?_⟩
      have e : (ds ++ [u])[j]'hj = ds[j]'hjj := List.getElem_append_left hjj
      rw [e]
      exact VAt.keep hk _ _ h2
    · have hjl : j = ds.length := by simp at hj; omega
      subst hjl
      refine ⟨v, by rw [List.getElem?_append_right (by omega), hxl]; simp, ?_⟩
      have e : (ds ++ [u])[ds.length]'hj = u := by simp
      rw [e]
      exact VAt.keep hk _ _ hu
theorem row_sliceV {w : World} {B n : Nat} {v : Value} {xs : List Value} (h : w.ownsRow B 91 1 v n xs) : ∃ A c, v = .slice A n c := by
  rcases h.2 with ⟨rfl, rfl⟩ | ⟨g, cap, cur, rfl, _⟩
  · exact ⟨none, 0, rfl⟩
  · exact ⟨_, cap, rfl⟩
/-- The row, done. -/
theorem BldV.done {B M : Nat} {wv : Value} {A : Option Addr} {c : Nat} {T : Nat → Prop} {ds : List Va} {n m : Nat} {xs : List Value} {w : World} (h : BldV B M wv (.slice A m c) T ds n xs w) (hT : ∀ b, B ≤ b → T b) : m = ds.length ∧ VRow w (SfT M wv T) ds A 0 := by
  have hrow := h.row
  rcases h.row.2 with ⟨e, h0⟩ | ⟨g, cap, cur, e, hB, hg, hc, hcm, hs, ht⟩
  · injection e with e1 e2 e3
    subst e1 e2 e3
    have : ds = [] := List.length_eq_zero_iff.1 (by have := h.len; omega)
    subst this
    exact ⟨rfl, by rw [VRow]; trivial⟩
  · injection e with e1 e2 e3
    subst e1 e2 e3
    refine ⟨h.len, VRow.mk (by exact ⟨h.out g rfl, hT g hB⟩) ds 0 (fun j hj => ?_)⟩
    obtain ⟨v, h1, h2⟩ := h.kids j hj
    refine ⟨v, ?_, VAt.keep (fun k hk _ => ⟨rfl, hk.1⟩) _ _ h2⟩
    rw [Nat.zero_add]
    exact hrow.cells (g := g) rfl j v h1
end Go.Proofs.Ytohdaclbgedeiaa
