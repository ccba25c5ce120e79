/-
  TWO SOLVERS IN A LAW WITHOUT A BOX OF ITS OWN.
-/
import Derived.Test.YtnlifgcnmhakiaaDoorTTwo
import Derived.Test.YtnlifgcnmhakiaaDoorTMostQ
namespace Go.Proofs.YtnlifgcnmhakiaaDoor
open Go.ChangeShapes Go.WideShapes Go.ChangeAt Go.RowKit

structure TS2 (F : Nat → Prop) (B : Nat) (w : World) (p1 pv1 c1 p2 pv2 c2 : Nat) (σ1 σ2 : Sg) (wx : World) : Prop where
  hb : Below w.heap.size w wx
  s1 : Sol F B wx p1 pv1 c1 σ1
  s2 : Sol F B wx p2 pv2 c2 σ2
  ne : p1 ≠ pv2 ∧ p2 ≠ pv1 ∧ pv1 ≠ pv2
  le : w.heap.size ≤ B
section
variable {F : Nat → Prop} {B : Nat} {w : World} {p1 pv1 c1 p2 pv2 c2 : Nat} {σ1 σ2 : Sg} {wx wy : World}
theorem TS2.up (h : TS2 F B w p1 pv1 c1 p2 pv2 c2 σ1 σ2 wx) (hb : Below wx.heap.size wx wy) : TS2 F B w p1 pv1 c1 p2 pv2 c2 σ1 σ2 wy :=
  ⟨below_hop hb h.hb, h.s1.up hb, h.s2.up hb, h.ne, h.le⟩
theorem TS2.turn1 (h : TS2 F B w p1 pv1 c1 p2 pv2 c2 σ1 σ2 wx) {σ : Sg} (hs : Sol F B wy p1 pv1 c1 σ) (hk : Kept (fun b => b = pv1) wx wy) : TS2 F B w p1 pv1 c1 p2 pv2 c2 σ σ2 wy := by
  have h1 := h.s1.bv
  have h2 := h.le
  have h3 := h.ne
  exact ⟨h.hb.trans (hk.below (by have := h.s1.lt; omega) (fun b e => by omega)), hs, h.s2.kept hk (fun b hb e => h.s1.lt.2.2.2.1 (by rw [← e]; exact hb)) (by omega) (by omega), h.ne, h.le⟩
theorem TS2.turn2 (h : TS2 F B w p1 pv1 c1 p2 pv2 c2 σ1 σ2 wx) {σ : Sg} (hs : Sol F B wy p2 pv2 c2 σ) (hk : Kept (fun b => b = pv2) wx wy) : TS2 F B w p1 pv1 c1 p2 pv2 c2 σ1 σ wy := by
  have h1 := h.s2.bv
  have h2 := h.le
  have h3 := h.ne
  exact ⟨h.hb.trans (hk.below (by have := h.s2.lt; omega) (fun b e => by omega)), h.s1.kept hk (fun b hb e => h.s2.lt.2.2.2.1 (by rw [← e]; exact hb)) (by omega) (by omega), hs, h.ne, h.le⟩
end
theorem take_get {ps : List (Ty × Ty)} {k i : Nat} (h : i < (ps.take k).length) : (ps.take k)[i] = ps[i]'(by simp at h; omega) := by simp
/-- One round of the two solvers, said of the list itself. -/
theorem Rn.next {n : Nat} {ps : List (Ty × Ty)} {k i j : Nat} {σ τ : Sg} (h : Rn n (ps.take k) i σ τ) (hk : k ≤ ps.length) (hi : i < k) (hj : i + j + 1 = k) (h1 : (unifyF σ (ps[i]'(by omega)).1 (ps[i]'(by omega)).2).1 = 0)
    (h2 : (unifyF τ (ps[j]'(by omega)).2 (ps[j]'(by omega)).1).1 = 0) : Rn n (ps.take k) (i + 1) (unifyF σ (ps[i]'(by omega)).1 (ps[i]'(by omega)).2).2 (unifyF τ (ps[j]'(by omega)).2 (ps[j]'(by omega)).1).2 := by
  have hl : (ps.take k).length = k := by simp; omega
  have e1 : (ps.take k)[i]'(by omega) = ps[i]'(by omega) := take_get _
  have hjj : (ps.take k).length - 1 - i = j := by omega
  have e2 : (ps.take k)[(ps.take k).length - 1 - i]'(by omega) = ps[j]'(by omega) := by
    simp only [hjj]
    exact take_get _
  have := h.step (i := i) (by omega) (by rw [e1]; exact h1) (by rw [e2]; exact h2)
  rw [e1, e2] at this
  exact this
theorem Rn.all {n : Nat} {ps : List (Ty × Ty)} {k : Nat} {σ τ : Sg} (h : Rn n (ps.take k) k σ τ) (hk : k ≤ ps.length) : Mo n (ps.take k) (turnd (ps.take k)) σ τ := by
  have hl : (ps.take k).length = k := by simp; omega
  refine Rn.mo ?_
  rw [hl]
  exact h
end Go.Proofs.YtnlifgcnmhakiaaDoor
