/-
  VALUES OF AN EVALUATION IN MEMORY; THE MACHINE.
-/
import Derived.Test.YtohdaclbgedeiaaEGoods
import Derived.Test.YtohdaclbgedeiaaEvQ
namespace Go.Proofs.Ytohdaclbgedeiaa
set_option linter.all false
open Go.ChangeShapes Go.WideShapes Go.ChangeAt Go.RowKit
open Ev (Co Va En Out nodes nodesL)

mutual
/-- A value in memory, its blocks in S. -/
def VAt (w : World) (S : Nat → Prop) : Va → Value → Prop
  | .num n, v => v = .iface 86 (.int .i64 n) ∧ (Lit.int .i64 n).wf = true
  | .con t us, v => (∃ p A c, v = .iface 79 (.pointer (some ⟨p, 0, none⟩)) ∧ S p ∧ Blk w p 82 #[.int .i64 t, .slice A us.length c] ∧ VRow w S us A 0) ∧ (Lit.int .i64 t).wf = true ∧ us.length ≤ 17592186044416
  | .clo x self b e, v => (∃ p bp ep, v = .iface 103 (.pointer (some ⟨p, 0, none⟩)) ∧ S p ∧ Blk w p 107 #[.int .i64 x, .pointer (some bp), .pointer ep] ∧ CPt w S bp b ∧
      ((¬ 0 < self ∧ EAt w S e ep) ∨ (0 < self ∧ ∃ q ep2, ep = some ⟨q, 0, none⟩ ∧ S q ∧ Blk w q 109 #[.int .i64 self, v, .pointer ep2] ∧ EAt w S e ep2)))
def VRow (w : World) (S : Nat → Prop) : List Va → Option Addr → Nat → Prop
  | [], _, _ => True
  | u :: us, A, j => (∃ ad v, A = some ad ∧ S ad.block ∧ w.cell? (ad.add j) = some v ∧ VAt w S u v) ∧ VRow w S us A (j + 1)
/-- What is bound, in memory. -/
def EAt (w : World) (S : Nat → Prop) : En → Option Addr → Prop
  | .nil, ep => ep = none
  | .bind x v e, ep => ∃ q val ep2, ep = some ⟨q, 0, none⟩ ∧ S q ∧ Blk w q 109 #[.int .i64 x, val, .pointer ep2] ∧ VAt w S v val ∧ EAt w S e ep2
end
theorem blk_keep {w w' : World} {g : Nat} {t : TypeId} {cs : Array Value} (h : Blk w g t cs) (hk : g < w.heap.size → w'.heap[g]? = w.heap[g]?) : Blk w' g t cs := (hk h.lt).trans h
mutual
theorem VAt.keep {w w' : World} {S T : Nat → Prop} (h : ∀ k, S k → k < w.heap.size → w'.heap[k]? = w.heap[k]? ∧ T k) : ∀ (u : Va) (v : Value), VAt w S u v → VAt w' T u v
  | .num n, v, hv => by rw [VAt] at hv ⊢; exact hv
  | .con t us, v, hv => by
    rw [VAt] at hv ⊢
    obtain ⟨⟨p, A, c, h1, h2, h3, h4⟩, h5⟩ := hv
    exact ⟨⟨p, A, c, h1, (h p h2 h3.lt).2, blk_keep h3 (fun hl => (h p h2 hl).1), VRow.keep h us A 0 h4⟩, h5⟩
  | .clo x self b e, v, hv => by
    rw [VAt] at hv ⊢
    obtain ⟨p, bp, ep, h1, h2, h3, h4, h5⟩ := hv
    refine ⟨p, bp, ep, h1, (h p h2 h3.lt).2, blk_keep h3 (fun hl => (h p h2 hl).1), h4.keep h, ?_⟩
    rcases h5 with ⟨h6, h7⟩ | ⟨h6, q, ep2, h7, h8, h9, h10⟩
    · exact .inl ⟨h6, EAt.keep h e _ h7⟩
    · exact .inr ⟨h6, q, ep2, h7, (h q h8 h9.lt).2, blk_keep h9 (fun hl => (h q h8 hl).1), EAt.keep h e _ h10⟩
theorem VRow.keep {w w' : World} {S T : Nat → Prop} (h : ∀ k, S k → k < w.heap.size → w'.heap[k]? = w.heap[k]? ∧ T k) : ∀ (us : List Va) (A : Option Addr) (j : Nat), VRow w S us A j → VRow w' T us A j
  | [], _, _, _ => by rw [VRow]; trivial
  | u :: us, A, j, hv => by
    rw [VRow] at hv ⊢
    obtain ⟨⟨ad, v, h1, h2, h3, h4⟩, h5⟩ := hv
    have eb := add_block ad j
    have hlt : ad.block < w.heap.size := by have := cell_lt h3; omega
    exact ⟨⟨ad, v, h1, (h _ h2 hlt).2, cell_of (h _ h2 hlt).1 eb h3, VAt.keep h u v h4⟩, VRow.keep h us A (j + 1) h5⟩
theorem EAt.keep {w w' : World} {S T : Nat → Prop} (h : ∀ k, S k → k < w.heap.size → w'.heap[k]? = w.heap[k]? ∧ T k) : ∀ (e : En) (ep : Option Addr), EAt w S e ep → EAt w' T e ep
  | .nil, _, hv => by rw [EAt] at hv ⊢; exact hv
  | .bind x v e, ep, hv => by
    rw [EAt] at hv ⊢
    obtain ⟨q, val, ep2, h1, h2, h3, h4, h5⟩ := hv
    exact ⟨q, val, ep2, h1, (h q h2 h3.lt).2, blk_keep h3 (fun hl => (h q h2 hl).1), VAt.keep h v val h4, EAt.keep h e ep2 h5⟩
end
theorem VRow.get {w : World} {S : Nat → Prop} : ∀ {us : List Va} {A : Option Addr} {i k : Nat} (_ : VRow w S us A i) (hk : k < us.length), ∃ ad v, A = some ad ∧ S ad.block ∧ w.cell? (ad.add (i + k)) = some v ∧ VAt w S us[k] v
  | [], _, _, _, _, hk => by simp at hk
  | u :: us, A, i, 0, h, _ => by rw [VRow] at h; exact h.1
  | u :: us, A, i, k + 1, h, hk => by
    rw [VRow] at h
    have := VRow.get (i := i + 1) (k := k) h.2 (by simpa using hk)
    rw [show i + 1 + k = i + (k + 1) from by omega] at this
    simpa using this
theorem VRow.mk {w : World} {S : Nat → Prop} {ad : Addr} (hS : S ad.block) : ∀ (us : List Va) (i : Nat) (_ : ∀ k, (hk : k < us.length) → ∃ v, w.cell? (ad.add (i + k)) = some v ∧ VAt w S us[k] v), VRow w S us (some ad) i
  | [], _, _ => by rw [VRow]; trivial
  | u :: us, i, h => by
    rw [VRow]
    refine ⟨?_, VRow.mk hS us (i + 1) (fun k hk => ?_)⟩
    · obtain ⟨v, h1⟩ := h 0 (by simp)
      exact ⟨ad, v, rfl, hS, h1⟩
    · have := h (k + 1) (by simpa using hk)
      rw [show i + (k + 1) = i + 1 + k from by omega] at this
      simpa using this
/-- The blocks that an evaluation does not write: neither the machine nor the row of what was written. -/
def Sf (M : Nat) (wv : Value) : Nat → Prop := fun b => b ≠ M ∧ wv.ownBlock ≠ some b
/-- The machine: its fuel, its steps, what was written. -/
structure MSt (w : World) (M F s : Nat) (ws : List Int) (wv : Value) : Prop where
  blk : Blk w M 70 #[.int .i64 F, .int .i64 s, wv]
  own : OwnI w (M + 1) wv ws
  hF : F ≤ 65536
  hs : s ≤ F
  hw : ws.length ≤ 4096
/-- What an evaluation leaves as it was. -/
structure MStep (M : Nat) (wv wv' : Value) (w w' : World) : Prop where
  os : w'.os = w.os
  tape : w'.tape = w.tape
  output : w'.output = w.output
  size : w.heap.size ≤ w'.heap.size
  block : ∀ k, k < w.heap.size → k ≠ M → wv.ownBlock ≠ some k → w'.heap[k]? = w.heap[k]?
  own : ∀ g, wv'.ownBlock = some g → wv.ownBlock = some g ∨ w.heap.size ≤ g
theorem MStep.refl (M : Nat) (wv : Value) (w : World) : MStep M wv wv w w := ⟨rfl, rfl, rfl, Nat.le_refl _, fun _ _ _ _ => rfl, fun _ h => .inl h⟩
theorem MStep.trans {M : Nat} {wv wv1 wv2 : Value} {w w1 w2 : World} (h : MStep M wv wv1 w w1) (k : MStep M wv1 wv2 w1 w2) : MStep M wv wv2 w w2 := by
  refine ⟨k.os.trans h.os, k.tape.trans h.tape, k.output.trans h.output, Nat.le_trans h.size k.size, fun i hi hM hn => ?_, fun g hg => ?_⟩
  · refine (k.block i (Nat.lt_of_lt_of_le hi h.size) hM (fun e => ?_)).trans (h.block i hi hM hn)
    rcases h.own i e with e | e
    · exact hn e
    · omega
  · rcases k.own g hg with e | e
    · exact h.own g e
    · exact .inr (Nat.le_trans h.size e)
theorem MStep.below {M : Nat} {wv wv1 : Value} {w w1 w2 : World} (h : MStep M wv wv1 w w1) (b : Below w1.heap.size w1 w2) : MStep M wv wv1 w w2 :=
  h.trans ⟨b.os, b.tape, b.output, b.size, fun k hk _ _ => b.block k hk, fun _ h => .inl h⟩
/-- What values need to be kept. -/
theorem MStep.keeps {M : Nat} {wv wv1 : Value} {w w1 : World} (h : MStep M wv wv1 w w1) : ∀ k, Sf M wv k → k < w.heap.size → w1.heap[k]? = w.heap[k]? ∧ Sf M wv1 k := fun k hk hl =>
  ⟨h.block k hl hk.1 hk.2, hk.1, fun e => by
    rcases h.own k e with e | e
    · exact hk.2 e
    · omega⟩
theorem MSt.below {w w' : World} {M F s : Nat} {ws : List Int} {wv : Value} (h : MSt w M F s ws wv) (b : Below w.heap.size w w') : MSt w' M F s ws wv :=
  ⟨h.blk.below b h.blk.lt, ⟨row_keep h.own.own (fun g hg => b.block g (h.own.own.lt g hg).2), h.own.wf⟩, h.hF, h.hs, h.hw⟩
/-- What a stopped evaluation panics with. -/
def stopV (k : Int) : PanicEntry := { v := .iface 78 (.agg #[.int .i64 (if k < 0 then 0 else k), .bool (decide (k < 0))]), recovered := false }
/-- How an evaluation ends. -/
def OutIs (w : World) (S : Nat → Prop) : Out Va → Ending → Prop
  | .ok u, e => ∃ v, e = .returned v ∧ VAt w S u v
  | .stop k, e => e = .panicked [stopV k]
/-- The blocks of a caller's values: T, of those that an evaluation does not write. -/
def SfT (M : Nat) (wv : Value) (T : Nat → Prop) : Nat → Prop := fun b => Sf M wv b ∧ T b
/-- The blocks of what it hands back: the caller's, and new ones. -/
def Now (T : Nat → Prop) (w : World) : Nat → Prop := fun b => T b ∨ w.heap.size ≤ b
def EvP (T : Nat → Prop) (o : Out Va) (F s : Nat) (ws : List Int) (M : Nat) (wv : Value) (w : World) (e : Ending) (w' : World) : Prop := ∃ wv', MSt w' M F s ws wv' ∧ MStep M wv wv' w w' ∧ OutIs w' (SfT M wv' (Now T w)) o e
/-- A core expression is evaluated. -/
def EvC (F g : Nat) : Prop := ∀ (c : Co) (e : En) (s : Nat) (ws : List Int) (o : Out Va) (s' : Nat) (ws' : List Int), Ev.ev F g c e s ws = some (o, s', ws') → ∀ (T : Nat → Prop) (w : World) (M : Nat) (cp : Addr) (ep : Option Addr) (wv : Value),
  MSt w M F s ws wv → CPt w (SfT M wv T) cp c → EAt w (SfT M wv T) e ep → Calls Try.prog 50 #[.pointer (some ⟨M, 0, none⟩), .pointer (some cp), .pointer ep] w (EvP T o F s' ws' M wv w)
/-- What a caller's values need to be kept. -/
theorem MStep.keepT {M : Nat} {wv wv1 : Value} {w w1 : World} {T : Nat → Prop} (h : MStep M wv wv1 w w1) : ∀ k, SfT M wv T k → k < w.heap.size → w1.heap[k]? = w.heap[k]? ∧ SfT M wv1 T k := fun k hk hl => ⟨(h.keeps k hk.1 hl).1, (h.keeps k hk.1 hl).2, hk.2⟩
end Go.Proofs.Ytohdaclbgedeiaa
