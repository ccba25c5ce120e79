/-
  A SOLVER AND THE DOCUMENT'S IN A LAW.
-/
import Derived.Test.YtnlifgcnmhakiaaTSol
import Derived.Test.YtnlifgcnmhakiaaTRApply
namespace Go.Proofs.Ytnlifgcnmhakiaa
open Go.ChangeShapes Go.WideShapes Go.ChangeAt Go.RowKit

/-- A solver of the document's. -/
structure Rsol (F : Nat → Prop) (B : Nat) (w : World) (p pv c : Nat) (σ : Sg) : Prop where
  tab : ∃ cur np, Rb F w p pv c np σ cur
  ok : Ok σ
  bp : B ≤ p
  bv : B ≤ pv
  new_ : ∀ b, w.heap.size ≤ b → F b
theorem Rsol.up {F : Nat → Prop} {B : Nat} {w w' : World} {p pv c : Nat} {σ : Sg} (h : Rsol F B w p pv c σ) (hb : Below w.heap.size w w') : Rsol F B w' p pv c σ := by
  obtain ⟨cur, np, ht⟩ := h.tab
  exact ⟨⟨cur, np, ht.up hb⟩, h.ok, h.bp, h.bv, fun b k => h.new_ b (Nat.le_trans hb.size k)⟩
theorem Rsol.kept {F T : Nat → Prop} {B : Nat} {w w' : World} {p pv c : Nat} {σ : Sg} (h : Rsol F B w p pv c σ) (hk : Kept T w w') (hT : ∀ b, F b → ¬ T b) (h1 : ¬ T p) (h2 : ¬ T pv) : Rsol F B w' p pv c σ := by
  obtain ⟨cur, np, ht⟩ := h.tab
  exact ⟨⟨cur, np, ht.kept hk hT h1 h2⟩, h.ok, h.bp, h.bv, fun b k => h.new_ b (Nat.le_trans hk.size k)⟩
theorem Rsol.lt {F : Nat → Prop} {B : Nat} {p pv c : Nat} {σ : Sg} {w : World} (h : Rsol F B w p pv c σ) : p < w.heap.size ∧ pv < w.heap.size ∧ ¬ F p ∧ ¬ F pv ∧ p ≠ pv := by
  obtain ⟨cur, np, hT⟩ := h.tab
  exact ⟨hT.blk.lt, hT.row.lt, hT.pS, hT.vS, hT.ne⟩
def RsolP (F : Nat → Prop) (B p pv c : Nat) (r : Int × Sg) (w : World) (e : Ending) (w' : World) : Prop := e = .returned (.int .i64 r.1) ∧ Rsol F B w' p pv c r.2 ∧ Kept (fun b => b = pv ∨ b = p) w w'
theorem rsol_Unify {F : Nat → Prop} {B p pv c : Nat} {σ : Sg} {w : World} (h : Rsol F B w p pv c σ) {a b : Ty} {va vb : Value} (ha : TAt w F a va) (hb : TAt w F b vb) :
    Calls Try.prog 15 #[.pointer (some ⟨p, 0, none⟩), va, vb] w (RsolP F B p pv c (unifyF σ a b) w) := by
  obtain ⟨cur, np, ht⟩ := h.tab
  refine (ref15_Unify F p pv c np σ cur a b va vb w ht h.ok ha hb h.new_).mono ?_
  rintro e w' ⟨rfl, ht2, hk⟩
  exact ⟨rfl, ⟨ht2, (unifyF_fine h.ok a b).1, h.bp, h.bv, fun b k => h.new_ b (Nat.le_trans hk.size k)⟩, hk⟩
theorem rsol_Apply {F : Nat → Prop} {B p pv c : Nat} {σ : Sg} {w : World} (h : Rsol F B w p pv c σ) {t : Ty} {v : Value} (ht : TAt w F t v) :
    Calls Try.prog 17 #[.pointer (some ⟨p, 0, none⟩), v] w (ApplyP (applyF σ t) w) := by
  obtain ⟨cur, np, hT⟩ := h.tab
  exact ref15_Apply F p pv c np σ cur t v w hT h.ok ht
/-- A solver and the document's, with the same bindings; what was handed in. -/
structure TM (F : Nat → Prop) (B : Nat) (w : World) (p pv c rp rpv rc : Nat) (σ τ : Sg) (wx : World) : Prop where
  hb : Below w.heap.size w wx
  s1 : Sol F B wx p pv c σ
  r1 : Rsol F B wx rp rpv rc τ
  ne : p ≠ rp ∧ p ≠ rpv ∧ pv ≠ rp ∧ pv ≠ rpv
  le : w.heap.size ≤ B
section
variable {F : Nat → Prop} {B : Nat} {w : World} {p pv c rp rpv rc : Nat} {σ τ : Sg} {wx wy : World}
theorem TM.up (h : TM F B w p pv c rp rpv rc σ τ wx) (hb : Below wx.heap.size wx wy) : TM F B w p pv c rp rpv rc σ τ wy := ⟨below_hop hb h.hb, h.s1.up hb, h.r1.up hb, h.ne, h.le⟩
theorem TM.turn1 (h : TM F B w p pv c rp rpv rc σ τ wx) {σ' : Sg} (hs : Sol F B wy p pv c σ') (hk : Kept (fun b => b = pv) wx wy) : TM F B w p pv c rp rpv rc σ' τ wy := by
  have h1 := h.s1.bv
  have h2 := h.le
  have h3 := h.ne
  refine ⟨h.hb.trans (hk.below (by have := h.s1.lt; omega) (fun b e => by omega)), hs, h.r1.kept hk (fun b hb e => h.s1.lt.2.2.2.1 (by rw [← e]; exact hb)) (by omega) (by omega), h.ne, h.le⟩
theorem TM.turn2 (h : TM F B w p pv c rp rpv rc σ τ wx) {τ' : Sg} (hs : Rsol F B wy rp rpv rc τ') (hk : Kept (fun b => b = rpv ∨ b = rp) wx wy) : TM F B w p pv c rp rpv rc σ τ' wy := by
  have h1 := h.r1.bv
  have h1' := h.r1.bp
  have h2 := h.le
  have h3 := h.ne
  refine ⟨h.hb.trans (hk.below (by have := h.r1.lt; omega) (fun b e => by omega)), h.s1.kept hk (fun b hb e => by rcases e with rfl | rfl; exact h.r1.lt.2.2.2.1 hb; exact h.r1.lt.2.2.1 hb) (by omega) (by omega), hs, h.ne, h.le⟩
/-- What is neither of a solver's is none of the other's. -/
theorem TM.blk1 (h : TM F B w p pv c rp rpv rc σ τ wx) (hk : Kept (fun b => b = pv) wx wy) {g : Nat} {ty : TypeId} {cs : Array Value} (hx : Blk wx g ty cs) (hg : g < B) : Blk wy g ty cs := hx.kept (S := fun b => b = pv) hk (by have := h.s1.bv; omega)
theorem TM.blk2 (h : TM F B w p pv c rp rpv rc σ τ wx) (hk : Kept (fun b => b = rpv ∨ b = rp) wx wy) {g : Nat} {ty : TypeId} {cs : Array Value} (hx : Blk wx g ty cs) (hg : g < B) : Blk wy g ty cs := hx.kept (S := fun b => b = rpv ∨ b = rp) hk (by have := h.r1.bv; have := h.r1.bp; omega)
theorem TM.at1 (h : TM F B w p pv c rp rpv rc σ τ wx) (hk : Kept (fun b => b = pv) wx wy) {t : Ty} {v : Value} (hx : TAt wx F t v) : TAt wy F t v := hx.kept hk (fun b hb e => h.s1.lt.2.2.2.1 (by rw [← e]; exact hb))
theorem TM.at2 (h : TM F B w p pv c rp rpv rc σ τ wx) (hk : Kept (fun b => b = rpv ∨ b = rp) wx wy) {t : Ty} {v : Value} (hx : TAt wx F t v) : TAt wy F t v := hx.kept hk (fun b hb e => by rcases e with rfl | rfl; exact h.r1.lt.2.2.2.1 hb; exact h.r1.lt.2.2.1 hb)
/-- What was handed in is none of the solvers'. -/
theorem TM.old (h : TM F B w p pv c rp rpv rc σ τ wx) (hF : ∀ b, b < B → F b) {t : Ty} {v : Value} (hx : TAt w (fun b => b < w.heap.size) t v) : TAt wx F t v := (hx.upB h.hb).mono (fun b hb _ => hF b (Nat.lt_of_lt_of_le hb h.le))
end
/-- What both made. -/
theorem both_sols {w : World} {p rp B n : Nat} {v rv : Value} (h1 : Fr w p B n v) (h2 : FrR w rp B n rv) (hp : B ≤ p) (hrp : B ≤ rp) (hn : 0 < n) (hn2 : n ≤ 1000) :
    ∃ (F : Nat → Prop) (pv c rpv rc : Nat), (∀ b, b < B → F b) ∧ Sol F B w p pv c (List.replicate n none) ∧ Rsol F B w rp rpv rc (List.replicate n none) ∧ p ≠ rp ∧ p ≠ rpv ∧ pv ≠ rp ∧ pv ≠ rpv := by
  have e1 : ∀ g, v.ownBlock = some g → g < w.heap.size := fun g hg => (h1.row.lt g hg).2
  have e2 : ∀ g, rv.ownBlock = some g → g < w.heap.size := fun g hg => (h2.row.lt g hg).2
  have l1 := h1.blk.lt
  have l2 := h2.blk.lt
  obtain ⟨F, hFd⟩ : ∃ F : Nat → Prop, F = fun b => b ≠ p ∧ b ≠ rp ∧ v.ownBlock ≠ some b ∧ rv.ownBlock ≠ some b := ⟨_, rfl⟩
  have hF : ∀ b, w.heap.size ≤ b → F b := fun b hb => by rw [hFd]; exact ⟨by omega, by omega, fun e => by have := e1 b e; omega, fun e => by have := e2 b e; omega⟩
  have hFB : ∀ b, b < B → F b := fun b hb => by rw [hFd]; exact ⟨by omega, by omega, fun e => by have := (h1.rowBlk e).1; omega, fun e => by have := (h2.rowBlk e).1; omega⟩
  obtain ⟨pv, c, ev, s1⟩ := h1.sol hp hn hn2 F hF (fun e => by rw [hFd] at e; exact e.1 rfl) (fun g hg e => by rw [hFd] at e; exact e.2.2.1 hg)
  have hne := h2.ne
  have hr : ∃ rpv rc, rv.ownBlock = some rpv ∧ Rsol F B w rp rpv rc (List.replicate n none) := by
    rcases h2.row.2 with ⟨rfl, h0⟩ | ⟨g, cap, cur, rfl, hB, hg, hc1, hc2, hc3, hc4⟩
    · omega
    · refine ⟨g, cap, rfl, ⟨⟨cur, 0, ?_⟩, Ok.none_ n, hrp, hB, hF⟩⟩
      refine ⟨by rw [List.length_replicate]; exact h2.blk, hg, hc3, by simpa using hc1, hc2, by simpa using hn2, (fun e => by rw [hFd] at e; exact e.2.1 rfl), (fun e => by rw [hFd] at e; exact e.2.2.2 rfl), fun e => hne (by simp [Value.ownBlock, e]), fun i hi => ?_⟩
      have hi2 : i < n := by simpa using hi
      have key : ∀ j, j < 4 → cur[i * 4 + j]? = freeR[j]? := fun j hj => by
        rw [← freesR_get hi2 hj, ← hc4, List.getElem?_take_of_lt (by omega)]
        simp
      refine ⟨0, ⟨#[]⟩, 0, none, 0, 0, key 0 (by omega), key 1 (by omega), key 2 (by omega), key 3 (by omega), fun _ => ?_, fun h => absurd rfl h⟩
      rw [List.getElem?_replicate, if_pos hi2]
  obtain ⟨rpv, rc, erv, r1⟩ := hr
  obtain ⟨_, cu1, hb1⟩ := h1.rowBlk ev
  obtain ⟨_, cu2, hb2⟩ := h2.rowBlk erv
  refine ⟨F, pv, c, rpv, rc, hFB, s1, r1, ?_, ?_, ?_, ?_⟩
  · intro e; exact (h1.blk.ne_ h2.blk (by decide)) e
  · intro e; exact (h1.blk.ne_ hb2 (by decide)) e
  · intro e; exact (hb1.ne_ h2.blk (by decide)) e
  · intro e; exact (hb1.ne_ hb2 (by decide)) e
end Go.Proofs.Ytnlifgcnmhakiaa
