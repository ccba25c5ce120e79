/-
  A RANGE OVER A FUNCTION WHOSE ITERATOR WORKS IN MEMORY OF ITS OWN: the body's blocks are told by a footprint; the iterator may come to a panic.
-/
import Derived.RangeFuncNested
import Derived.RangeFuncBound
import Derived.RangeFuncCalls
import Derived.RangeFuncLeaves
namespace Go.Proofs.Ytgakmfcnddholaa
open Go.RowKit
variable {F : Fence} {n : Nat} {P : Program}

/-- From A to B only blocks of S have turned, and new ones have come. -/
structure Kept (S : Nat → Prop) (A B : World) : Prop where
  os : B.os = A.os
  tape : B.tape = A.tape
  output : B.output = A.output
  size : A.heap.size ≤ B.heap.size
  block : ∀ k, k < A.heap.size → ¬ S k → B.heap[k]? = A.heap[k]?
theorem Kept.refl (S : Nat → Prop) (A : World) : Kept S A A := ⟨rfl, rfl, rfl, Nat.le_refl _, fun _ _ _ => rfl⟩
theorem Kept.trans {S T : Nat → Prop} {A B C : World} (h : Kept S A B) (k : Kept T B C) : Kept (fun b => S b ∨ T b) A C :=
  ⟨k.os.trans h.os, k.tape.trans h.tape, k.output.trans h.output, Nat.le_trans h.size k.size, fun b hb hn => (k.block b (Nat.lt_of_lt_of_le hb h.size) (fun e => hn (.inr e))).trans (h.block b hb (fun e => hn (.inl e)))⟩
theorem Kept.mono {S T : Nat → Prop} {A B : World} (h : Kept S A B) (hS : ∀ b, b < A.heap.size → S b → T b) : Kept T A B :=
  ⟨h.os, h.tape, h.output, h.size, fun b hb hn => h.block b hb (fun e => hn (hS b hb e))⟩
theorem Kept.then {S T U : Nat → Prop} {A B C : World} (h : Kept S A B) (k : Kept T B C) (hS : ∀ b, b < A.heap.size → S b → U b) (hT : ∀ b, b < A.heap.size → T b → U b) : Kept U A C :=
  (h.trans k).mono (fun b hb e => e.elim (hS b hb) (hT b hb))
theorem Kept.alloc {S : Nat → Prop} {A B : World} (h : Kept S A B) (o : Obj) : Kept S A (B.alloc o) :=
  h.then (T := S) ⟨rfl, rfl, rfl, by simp, fun k hk _ => Below.heap_alloc _ _ _ hk⟩ (fun _ _ e => e) (fun _ _ e => e)
theorem Kept.drew {S : Nat → Prop} {A B : World} (h : Kept S A B) : Kept S A B.drew := ⟨h.os, h.tape, h.output, h.size, h.block⟩
theorem Kept.setCell {S : Nat → Prop} {A B : World} (h : Kept S A B) {p : Addr} (hp : S p.block ∨ A.heap.size ≤ p.block) (u : Value) : Kept S A (B.setCell p u) :=
  h.then (T := fun b => b = p.block) ⟨rfl, rfl, rfl, by simp [World.setCell], fun k _ hk => Below.heap_setCell _ _ _ _ hk⟩ (fun _ _ e => e) (fun b hb e => by subst e; exact hp.resolve_right (by omega))
theorem Kept.putObj {S : Nat → Prop} {A B : World} (h : Kept S A B) {l : Nat} (hp : S l ∨ A.heap.size ≤ l) (o : Obj) : Kept S A (B.putObj l o) :=
  h.then (T := fun b => b = l) ⟨rfl, rfl, rfl, by simp, fun k _ hk => World.putObj_heap_other hk⟩ (fun _ _ e => e) (fun b hb e => by subst e; exact hp.resolve_right (by omega))
theorem Kept.grown {S : Nat → Prop} {A B C : World} {row : Option Nat} (h : Kept S A B) (hg : B.grownBy C row) (hr : ∀ k, row = some k → S k ∨ A.heap.size ≤ k) : Kept S A C :=
  h.then (T := fun b => row = some b) ⟨hg.os, hg.tape, hg.output, hg.size, fun k hk hn => hg.block k hk (fun e => hn e.symm)⟩ (fun _ _ e => e) (fun b hb e => (hr b e).resolve_right (by omega))
theorem Kept.of_below {A B : World} (h : Below A.heap.size A B) (S : Nat → Prop) : Kept S A B := ⟨h.os, h.tape, h.output, h.size, fun k hk _ => h.block k hk⟩
theorem Kept.below {S : Nat → Prop} {A B : World} {n : Nat} (h : Kept S A B) (hn : n ≤ A.heap.size) (hS : ∀ b, S b → n ≤ b) : Below n A B :=
  ⟨h.os, h.tape, h.output, h.size, fun k hk => h.block k (by omega) (fun e => by have := hS k e; omega)⟩

/-- What the body knows hangs on its footprint alone, which lies within memory. -/
structure Foot (J : Nat → (Nat → Prop) → World → Prop) : Prop where
  stab : ∀ k S A B, J k S A → (∀ b, S b → B.heap[b]? = A.heap[b]?) → J k S B
  lt : ∀ k S A, J k S A → ∀ b, S b → b < A.heap.size

/-- One round, as the iterator meets it. -/
def RoundF {α : Type} (F : Fence) (n : Nat) (P : Program) (l : Nat) (encs : α → Array Value) (xs0 : List α) (J : Nat → (Nat → Prop) → World → Prop) : Prop :=
  ∀ k (hk : k < xs0.length) S W1, J k S W1 → YieldAt F n P l (encs xs0[k]) W1 fun e W' =>
    e = .returned (.bool true) ∧ ∃ S', J (k + 1) S' W' ∧ (∀ b, S' b → S b ∨ W1.heap.size ≤ b) ∧ Kept S W1 W'

/-- What an iterator owes: SB: of the blocks at hand at most these are the body's; Z: the iterator's own; Rz: what it leaves in these; Pc: the panic that it may come to. -/
def SeqF {α : Type} (F : Fence) (n : Nat) (P : Program) (g : Nat) (lb : Array Value) (encs : α → Array Value) (xs0 : List α) (SB Z : Nat → Prop) (Rz : World → Prop) (Pc : List PanicEntry → World → Prop) (w : World) : Prop :=
  ∀ (l : Nat) (J : Nat → (Nat → Prop) → World → Prop) (S0 : Nat → Prop) (W : World), Kept (fun _ => False) w W → Foot J → (∀ b, S0 b → SB b ∨ w.heap.size ≤ b) →
    RoundF F (n - 1) P l encs xs0 J → J 0 S0 W →
    CallsIn F n P g (#[.func (.yield l) #[] #[]] ++ lb) W fun e W' =>
      (((∃ v, e = .returned v) ∧ Rz W' ∧ ∃ S', J xs0.length S' W' ∧ ∀ b, S' b → S0 b ∨ W.heap.size ≤ b) ∨ (∃ chain, e = .panicked chain ∧ Pc chain W' ∧ ∃ k S', J k S' W')) ∧ Kept (fun b => S0 b ∨ Z b) W W'

/-- How the body of a round may be left: off its end alone. -/
def postF (I : Nat → (Nat → Prop) → World → Prop) (k : Nat) (S : Nat → Prop) (W : World) : Exit → Act → World → Prop
  | .normal, _, W' => ∃ S', I (k + 1) S' W' ∧ (∀ b, S' b → S b ∨ W.heap.size ≤ b) ∧ Kept S W W'
  | _, _, _ => False

theorem wpIn_rangeFunc_f {α : Type} {g : Operand} {ps : Array Tmp} {assign body : Code} {Q : Exit → Act → World → Prop} {a : Act} {w : World}
    (hro : F.round = none) (h1 : 1 ≤ n) {gf : Nat} {lb : Array Value} (hg : a.eval g = .func (.func gf) #[] lb) (hFg : F.fn gf) (eg : ∀ args w, (callFunc gf args).run P w = .ok (.enter gf args) w)
    {encs : α → Array Value} {xs0 : List α} {SB Z : Nat → Prop} {Rz : World → Prop} {Pc : List PanicEntry → World → Prop} (hZ : ∀ b, Z b → b < w.heap.size) (hRz : ∀ A B, (∀ b, Z b → B.heap[b]? = A.heap[b]?) → Rz A → Rz B)
    (hseq : SeqF F (n - 1) P gf lb encs xs0 SB Z Rz Pc w) (hps : ∀ x, (encs x).size = ps.size)
    (I : Nat → (Nat → Prop) → World → Prop) (hI : Foot I) (S0 : Nat → Prop) (hS0 : ∀ b, S0 b → SB b)
    (h0 : I 0 S0 w)
    (hround : ∀ (l : Nat) (k : Nat) (hk : k < xs0.length) (S : Nat → Prop) (W : World) (K : Act → World → Prop), w.heap.size ≤ l → ¬ S l → l < W.heap.size → I k S W →
      (∀ a', (∀ W2, Kept (fun b => b = l) W W2 → I k S W2 → body.wpIn (F.inRound l) (n - 1 - 1) P (postF I k S W2) a' W2) → K a' W) →
      assign.wpIn (F.inRound l) (n - 1 - 1) P (Exit.then K (fun _ _ _ => False))
        { tmps := (ps.zip (encs xs0[k])).foldl (fun t (p, v) => t.setIfInBounds p v) a.tmps, defers := [] } W)
    (hdone : ∀ (D : Nat) (S : Nat → Prop) (W : World), w.heap.size ≤ D → I xs0.length S W → (∀ b, S b → S0 b ∨ w.heap.size ≤ b) → ¬ S D → Rz W → Kept (fun b => S0 b ∨ Z b) w W → W.heap[D]? = some (.deferred (some [])) → Q .normal { a with defers := { target := .collected D, args := #[] } :: a.defers } W)
    (hpanic : ∀ (D : Nat) (chain : List PanicEntry) (k : Nat) (S : Nat → Prop) (W : World), w.heap.size ≤ D → Pc chain W → I k S W → ¬ S D → Kept (fun b => S0 b ∨ Z b) w W → W.heap[D]? = some (.deferred (some [])) → Q (.panic chain) { a with defers := { target := .collected D, args := #[] } :: a.defers } W) :
    (Code.rangeFunc g ps assign body).wpIn F n P Q a w := by
  refine wpIn_rangeFunc ?_
  intro fn hfn
  rw [hro]
  obtain ⟨rec, hrec⟩ : ∃ rec : LoopState → Option Code → Loop, rec = fun st pe => { state := st, pending := pe, fn, tmps := a.tmps, params := ps, assign, body, defers := w.heap.size } := ⟨_, rfl⟩
  obtain ⟨W1, hW1⟩ : ∃ W1, (w.alloc (.deferred (some []))).alloc (.loop (rec .ready none)) = W1 := ⟨_, rfl⟩
  have hL1 : W1.heap[w.heap.size + 1]? = some (.loop (rec .ready none)) := by
    rw [← hW1]; have := World.alloc_heap_new (w.alloc (.deferred (some []))) (.loop (rec .ready none)); rwa [World.size_alloc] at this
  have hK1 : W1.heap[w.heap.size]? = some (.deferred (some [])) := by
    rw [← hW1]; exact (Below.heap_alloc _ _ _ (by simp)).trans (World.alloc_heap_new w _)
  have hold1 : ∀ b, b < w.heap.size → W1.heap[b]? = w.heap[b]? := by
    intro b hb
    rw [← hW1]
    exact (Below.heap_alloc _ _ _ (by simp; omega)).trans (Below.heap_alloc _ _ _ hb)
  have hsz1 : W1.heap.size = w.heap.size + 2 := by rw [← hW1]; simp
  have hI1 : I 0 S0 W1 := hI.stab _ _ _ _ h0 (fun b hb => hold1 b (hI.lt _ _ _ h0 b hb))
  have hk1 : Kept (fun _ => False) w W1 := by rw [← hW1]; exact ((Kept.refl _ w).alloc _).alloc _
  have hlt0 : ∀ b, S0 b → b < w.heap.size := hI.lt _ _ _ h0
  refine ⟨w.heap.size + 1, [{ target := .collected w.heap.size, args := #[] }], W1, { target := .fn (.func gf) lb, args := #[.func (.yield (w.heap.size + 1)) #[] #[]] }, W1, gf,
    #[.func (.yield (w.heap.size + 1)) #[] #[]] ++ lb, W1, ?_, ?_, ?_, ?_, fun _ => h1, ?_⟩
  · rw [← hW1, hrec]; exact run_enterLoop_outer _ _ _ _ _
  · simp only [resolve, hg]
    simp [go_sem]
  · intro f' hf'; simp [Target.leads] at hf'; subst hf'; exact hFg
  · simp [invoke, go_sem, eg]
  · refine (hseq (w.heap.size + 1)
      (fun k S W => ∃ SI : Nat → Prop, (∀ b, S b ↔ (SI b ∨ b = w.heap.size ∨ b = w.heap.size + 1)) ∧ ¬ SI w.heap.size ∧ ¬ SI (w.heap.size + 1) ∧ I k SI W ∧
        W.heap[w.heap.size + 1]? = some (.loop (rec .ready none)) ∧ W.heap[w.heap.size]? = some (.deferred (some [])))
      (fun b => S0 b ∨ b = w.heap.size ∨ b = w.heap.size + 1) W1 hk1 ⟨?_, ?_⟩ ?_ ?_ ⟨S0, fun b => Iff.rfl, fun h => by have := hlt0 _ h; omega, fun h => by have := hlt0 _ h; omega, hI1, hL1, hK1⟩).mono ?_
    · rintro k S A B ⟨SI, hS, hn0, hn1, hi, hl, hd⟩ hB
      exact ⟨SI, hS, hn0, hn1, hI.stab _ _ _ _ hi (fun b hb => hB b ((hS b).2 (.inl hb))), (hB _ ((hS _).2 (.inr (.inr rfl)))).trans hl, (hB _ ((hS _).2 (.inr (.inl rfl)))).trans hd⟩
    · rintro k S A ⟨SI, hS, hn0, hn1, hi, hl, hd⟩ b hb
      rcases (hS b).1 hb with h | rfl | rfl
      · exact hI.lt _ _ _ hi b h
      · exact (Array.getElem?_eq_some_iff.1 hd).1
      · exact (Array.getElem?_eq_some_iff.1 hl).1
    · rintro b (h | rfl | rfl)
      · exact .inl (hS0 b h)
      · exact .inr (Nat.le_refl _)
      · exact .inr (by omega)
    · -- ONE ROUND
      rintro k hlen S W ⟨SI, hS, hn0, hn1, hi, hl, hk⟩
      have hlt : w.heap.size + 1 < W.heap.size := (Array.getElem?_eq_some_iff.1 hl).1
      have hy := run_yield (P := P) (args := encs xs0[k]) hl (by rw [hrec]; exact hps _)
      rw [hrec] at hy
      refine ⟨fn, _, assign, body, hy, roundIn_of_wpIn hfn (wpIn_mono (hround _ k hlen SI W (fun a' Wa => Wa = W ∧ ∀ W2, Kept (fun b => b = w.heap.size + 1) W W2 → I k SI W2 → body.wpIn (F.inRound (w.heap.size + 1)) (n - 1 - 1) P (postF I k SI W2) a' W2) (Nat.le_succ _) hn1 hlt hi (fun a' h => ⟨rfl, h⟩)) ?_)⟩
      clear hy
      intro ex a' Wa hex
      cases ex with
      | exit id => exact hex.elim
      | goto t => exact hex.elim
      | ret => exact hex.elim
      | panic chain => exact hex.elim
      | outgrown => exact hex.elim
      | normal =>
      obtain ⟨rfl, hbo⟩ := hex
      refine ⟨_, run_beginRound hl (by rw [hrec]), ?_⟩
      have hl2 : (Wa.putObj (w.heap.size + 1) (.loop { rec .ready none with state := .busy })).heap[w.heap.size + 1]? = some (.loop { rec .ready none with state := .busy }) := World.putObj_heap_same hlt
      have hk2 : (Wa.putObj (w.heap.size + 1) (.loop { rec .ready none with state := .busy })).heap[w.heap.size]? = some (.deferred (some [])) := (World.putObj_heap_other (by omega)).trans hk
      have hkp2 : Kept (fun b => b = w.heap.size + 1) Wa (Wa.putObj (w.heap.size + 1) (.loop { rec .ready none with state := .busy })) := Kept.putObj (S := fun b => b = w.heap.size + 1) (Kept.refl _ Wa) (.inl rfl) _
      refine wpIn_mono (hbo _ hkp2 (hI.stab _ _ _ _ hi (fun b hb => World.putObj_heap_other (by rintro rfl; exact hn1 hb)))) ?_
      rintro e a3 W3 hp
      cases e with
      | exit id => exact hp.elim
      | goto t => exact hp.elim
      | ret => exact hp.elim
      | panic chain => exact hp.elim
      | outgrown => exact hp.elim
      | normal =>
      obtain ⟨S3, hi3, hS3, hk3⟩ := hp
      have hsz : (Wa.putObj (w.heap.size + 1) (.loop { rec .ready none with state := .busy })).heap.size = Wa.heap.size := by simp
      have hl3 := (hk3.block _ (by rw [hsz]; exact hlt) hn1).trans hl2
      have hd3 := (hk3.block _ (by rw [hsz]; omega) hn0).trans hk2
      have hr := run_endRound (P := P) none hl3
      rw [hrec] at hr
      have hn3 : ∀ b, b < Wa.heap.size → ¬ SI b → ¬ S3 b := fun b hb hs h => by
        rcases hS3 b h with h | h
        · exact hs h
        · rw [hsz] at h; omega
      refine ⟨_, _, hr, rfl, fun b => S3 b ∨ b = w.heap.size ∨ b = w.heap.size + 1, ⟨S3, fun b => Iff.rfl, hn3 _ (by omega) hn0, hn3 _ hlt hn1, hI.stab _ _ _ _ hi3 (fun b hb => World.putObj_heap_other (by rintro rfl; exact hn3 _ hlt hn1 hb)), ?_, (World.putObj_heap_other (by omega)).trans hd3⟩, ?_, ?_⟩
      · rw [hrec]; exact World.putObj_heap_same (Array.getElem?_eq_some_iff.1 hl3).1
      · rintro b (h | h | h)
        · rcases hS3 b h with h | h
          · exact .inl ((hS b).2 (.inl h))
          · rw [hsz] at h; exact .inr h
        · exact .inl ((hS b).2 (.inr (.inl h)))
        · exact .inl ((hS b).2 (.inr (.inr h)))
      · exact ((hkp2.mono (T := S) (fun b _ e => (hS b).2 (.inr (.inr e)))).then (hk3.mono (T := S) (fun b _ e => (hS b).2 (.inl e))) (fun _ _ e => e) (fun _ _ e => e)).putObj (.inl ((hS _).2 (.inr (.inr rfl)))) _
    · -- BEHIND THE ITERATOR
      have hZl : ∀ b, Z b → b ≠ w.heap.size + 1 := fun b hb e => by have := hZ b hb; omega
      have back : ∀ W2, Kept (fun b => (S0 b ∨ b = w.heap.size ∨ b = w.heap.size + 1) ∨ Z b) W1 W2 → Kept (fun b => S0 b ∨ Z b) w W2 := fun W2 h =>
        hk1.then h (fun _ _ e => e.elim) (fun b hb e => by
          rcases e with (e | e | e) | e
          · exact .inl e
          · omega
          · omega
          · exact .inr e)
      rintro e W2 ⟨(⟨⟨v, rfl⟩, hz, S2, ⟨SI, hS, hn0, hn1, hi, hl, hd⟩, hsub⟩ | ⟨chain, rfl, hpc, k2, S2, ⟨SI, hS, hn0, hn1, hi, hl, hd⟩⟩), hkept⟩
      · refine ⟨none, _, by have := run_endLoop (P := P) hl (by rw [hrec]; simp); rw [hrec] at this; exact this, hdone w.heap.size SI _ (Nat.le_refl _) (hI.stab _ _ _ _ hi (fun b hb => World.putObj_heap_other (by rintro rfl; exact hn1 hb))) ?_ hn0 (hRz _ _ (fun b hb => World.putObj_heap_other (hZl b hb)) hz) ((back _ hkept).putObj (.inr (by omega)) _) ((World.putObj_heap_other (by omega)).trans hd)⟩
        intro b hb
        rcases hsub b ((hS b).2 (.inl hb)) with (h | h | h) | h
        · exact .inl h
        · exact .inr (by omega)
        · exact .inr (by omega)
        · exact .inr (by omega)
      · exact hpanic w.heap.size chain k2 SI _ (Nat.le_refl _) hpc hi hn0 (back _ hkept) hd
end Go.Proofs.Ytgakmfcnddholaa
