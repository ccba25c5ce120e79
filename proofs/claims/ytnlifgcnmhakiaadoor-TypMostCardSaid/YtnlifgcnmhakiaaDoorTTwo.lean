/-
  TWO SOLVERS IN A LAW.
-/
import Derived.Test.YtnlifgcnmhakiaaDoorTSol
namespace Go.Proofs.YtnlifgcnmhakiaaDoor
open Go.ChangeShapes Go.WideShapes Go.ChangeAt Go.RowKit

/-- Two solvers, a box of the law's own, and what was handed in. -/
structure TS (F : Nat → Prop) (B : Nat) (ty : TypeId) (cs : Array Value) (w : World) (p1 pv1 c1 p2 pv2 c2 : Nat) (σ1 σ2 : Sg) (wx : World) : Prop where
  hb : Below w.heap.size w wx
  xt : Blk wx w.heap.size ty cs
  s1 : Sol F B wx p1 pv1 c1 σ1
  s2 : Sol F B wx p2 pv2 c2 σ2
  ne : p1 ≠ pv2 ∧ p2 ≠ pv1 ∧ pv1 ≠ pv2
  lt : w.heap.size < B
section
variable {F : Nat → Prop} {B : Nat} {ty : TypeId} {cs : Array Value} {w : World} {p1 pv1 c1 p2 pv2 c2 : Nat} {σ1 σ2 : Sg} {wx wy : World}
theorem TS.up (h : TS F B ty cs w p1 pv1 c1 p2 pv2 c2 σ1 σ2 wx) (hb : Below wx.heap.size wx wy) : TS F B ty cs w p1 pv1 c1 p2 pv2 c2 σ1 σ2 wy :=
  ⟨below_hop hb h.hb, h.xt.below hb h.xt.lt, h.s1.up hb, h.s2.up hb, h.ne, h.lt⟩
theorem TS.turn1 (h : TS F B ty cs w p1 pv1 c1 p2 pv2 c2 σ1 σ2 wx) {σ : Sg} (hs : Sol F B wy p1 pv1 c1 σ) (hk : Kept (fun b => b = pv1) wx wy) : TS F B ty cs w p1 pv1 c1 p2 pv2 c2 σ σ2 wy := by
  have h1 := h.s1.bv
  have h2 := h.lt
  have h3 := h.ne
  refine ⟨h.hb.trans (hk.below (by have := h.s1.lt; omega) (fun b e => by omega)), h.xt.kept (S := fun b => b = pv1) hk (by omega), hs, h.s2.kept hk (fun b hb e => h.s1.lt.2.2.2.1 (by rw [← e]; exact hb)) (by omega) (by omega), h.ne, h.lt⟩
theorem TS.turn2 (h : TS F B ty cs w p1 pv1 c1 p2 pv2 c2 σ1 σ2 wx) {σ : Sg} (hs : Sol F B wy p2 pv2 c2 σ) (hk : Kept (fun b => b = pv2) wx wy) : TS F B ty cs w p1 pv1 c1 p2 pv2 c2 σ1 σ wy := by
  have h1 := h.s2.bv
  have h2 := h.lt
  have h3 := h.ne
  refine ⟨h.hb.trans (hk.below (by have := h.s2.lt; omega) (fun b e => by omega)), h.xt.kept (S := fun b => b = pv2) hk (by omega), h.s1.kept hk (fun b hb e => h.s2.lt.2.2.2.1 (by rw [← e]; exact hb)) (by omega) (by omega), hs, h.ne, h.lt⟩
end
theorem Fr.weak {w : World} {p B B' n : Nat} {v : Value} (h : Fr w p B n v) (hB : B' ≤ B) : Fr w p B' n v := by
  refine ⟨h.blk, h.row.1, ?_⟩
  rcases h.row.2 with h2 | ⟨g, cap, cur, e, hb, rest⟩
  · exact .inl h2
  · exact .inr ⟨g, cap, cur, e, Nat.le_trans hB hb, rest⟩
/-- Two solvers that were just made. -/
theorem two_sols {w : World} {p1 p2 B n : Nat} {v1 v2 : Value} (h1 : Fr w p1 B n v1) (h2 : Fr w p2 B n v2) (hp1 : B ≤ p1) (hp2 : B ≤ p2) (hn : 0 < n) (hn2 : n ≤ 1000) (hvne : ∀ g, v1.ownBlock = some g → v2.ownBlock ≠ some g) :
    ∃ (F : Nat → Prop) (pv1 c1 pv2 c2 : Nat), Sol F B w p1 pv1 c1 (List.replicate n none) ∧ Sol F B w p2 pv2 c2 (List.replicate n none) ∧ p1 ≠ pv2 ∧ p2 ≠ pv1 ∧ pv1 ≠ pv2 := by
  have e1 : ∀ g, v1.ownBlock = some g → g < w.heap.size := fun g hg => (h1.row.lt g hg).2
  have e2 : ∀ g, v2.ownBlock = some g → g < w.heap.size := fun g hg => (h2.row.lt g hg).2
  have l1 := h1.blk.lt
  have l2 := h2.blk.lt
  have hF : ∀ b, w.heap.size ≤ b → (b ≠ p1 ∧ b ≠ p2 ∧ v1.ownBlock ≠ some b ∧ v2.ownBlock ≠ some b) := fun b hb => ⟨by omega, by omega, fun e => by have := e1 b e; omega, fun e => by have := e2 b e; omega⟩
  obtain ⟨pv1, c1, ev1, s1⟩ := h1.sol hp1 hn hn2 (fun b => b ≠ p1 ∧ b ≠ p2 ∧ v1.ownBlock ≠ some b ∧ v2.ownBlock ≠ some b) hF (fun e => e.1 rfl) (fun g hg e => e.2.2.1 hg)
  obtain ⟨pv2, c2, ev2, s2⟩ := h2.sol hp2 hn hn2 (fun b => b ≠ p1 ∧ b ≠ p2 ∧ v1.ownBlock ≠ some b ∧ v2.ownBlock ≠ some b) hF (fun e => e.2.1 rfl) (fun g hg e => e.2.2.2 hg)
  refine ⟨_, pv1, c1, pv2, c2, s1, s2, ?_, ?_, ?_⟩
  · rintro rfl
    obtain ⟨_, cur, hb⟩ := h2.rowBlk ev2
    exact (h1.blk.ne_ hb (by decide)) rfl
  · rintro rfl
    obtain ⟨_, cur, hb⟩ := h1.rowBlk ev1
    exact (h2.blk.ne_ hb (by decide)) rfl
  · rintro rfl
    exact hvne _ ev1 ev2
/-- A type that was written out, in a box. -/
structure Ap (F : Nat → Prop) (pv : Nat) (u : Ty) (g : Nat) (q : Int) (s : ByteArray) (n : Int) (A : Option Addr) (m c : Nat) (wx : World) : Prop where
  blk : Blk wx g 24 #[.int .i64 q, .string s, .int .i64 n, .slice A m c]
  at_ : TAt wx F u (.agg #[.int .i64 q, .string s, .int .i64 n, .slice A m c])
  ne : g ≠ pv
theorem Ap.up {F : Nat → Prop} {pv : Nat} {u : Ty} {g : Nat} {q n : Int} {s : ByteArray} {A : Option Addr} {m c : Nat} {w w' : World} (h : Ap F pv u g q s n A m c w) (hb : Below w.heap.size w w') : Ap F pv u g q s n A m c w' := ⟨h.blk.below hb h.blk.lt, h.at_.up hb, h.ne⟩
theorem Ap.kept {F : Nat → Prop} {pv : Nat} {u : Ty} {g : Nat} {q n : Int} {s : ByteArray} {A : Option Addr} {m c : Nat} {w w' : World} (h : Ap F pv u g q s n A m c w) (hk : Kept (fun b => b = pv) w w') (hF : ¬ F pv) : Ap F pv u g q s n A m c w' :=
  ⟨h.blk.kept (S := fun b => b = pv) hk h.ne, h.at_.kept hk (fun b hb e => hF (by rw [← e]; exact hb)), h.ne⟩
end Go.Proofs.YtnlifgcnmhakiaaDoor
