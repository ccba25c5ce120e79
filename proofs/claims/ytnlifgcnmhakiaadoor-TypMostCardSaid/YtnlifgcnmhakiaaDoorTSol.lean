/-
  A SOLVER IN A LAW: what holds of it between the calls.
-/
import Derived.Test.YtnlifgcnmhakiaaDoorTWake
import Derived.Test.YtnlifgcnmhakiaaDoorTBoth
import Derived.Test.YtnlifgcnmhakiaaDoorTLarge
import Derived.Deep.RegionHeld3
namespace Go.Proofs.YtnlifgcnmhakiaaDoor
open Go.ChangeShapes Go.WideShapes Go.ChangeAt Go.RowKit

theorem TAt.upB {w w' : World} {B : Nat} {t : Ty} {v : Value} (h : TAt w (fun b => b < B) t v) (hb : Below B w w') : TAt w' (fun b => b < B) t v := h.keep (fun k hk _ => ⟨hb.block k hk, hk⟩)
theorem PRow.upB {w w' : World} {B : Nat} {ps : List (Ty × Ty)} {A : Option Addr} (h : PRow w (fun b => b < B) ps A) (hb : Below B w w') : PRow w' (fun b => b < B) ps A := h.keep (fun k hk _ => ⟨hb.block k hk, hk⟩)
/-- A solver. -/
structure Sol (F : Nat → Prop) (B : Nat) (w : World) (p pv c : Nat) (σ : Sg) : Prop where
  tab : ∃ cur, Tb F w p pv c σ cur
  ok : Ok σ
  bp : B ≤ p
  bv : B ≤ pv
  new_ : ∀ b, w.heap.size ≤ b → F b
theorem Sol.up {F : Nat → Prop} {B : Nat} {w w' : World} {p pv c : Nat} {σ : Sg} (h : Sol F B w p pv c σ) (hb : Below w.heap.size w w') : Sol F B w' p pv c σ := by
  obtain ⟨cur, ht⟩ := h.tab
  exact ⟨⟨cur, ht.up hb⟩, h.ok, h.bp, h.bv, fun b k => h.new_ b (Nat.le_trans hb.size k)⟩
theorem Sol.kept {F T : Nat → Prop} {B : Nat} {w w' : World} {p pv c : Nat} {σ : Sg} (h : Sol F B w p pv c σ) (hk : Kept T w w') (hT : ∀ b, F b → ¬ T b) (h1 : ¬ T p) (h2 : ¬ T pv) : Sol F B w' p pv c σ := by
  obtain ⟨cur, ht⟩ := h.tab
  exact ⟨⟨cur, ht.kept hk hT h1 h2⟩, h.ok, h.bp, h.bv, fun b k => h.new_ b (Nat.le_trans hk.size k)⟩
/-- What Unify tells of a solver. -/
def SolP (F : Nat → Prop) (B p pv c : Nat) (r : Int × Sg) (w : World) (e : Ending) (w' : World) : Prop := e = .returned (.int .i64 r.1) ∧ Sol F B w' p pv c r.2 ∧ Kept (fun b => b = pv) w w'
theorem sol_Unify {F : Nat → Prop} {B p pv c : Nat} {σ : Sg} {w : World} (h : Sol F B w p pv c σ) {a b : Ty} {va vb : Value} (ha : TAt w F a va) (hb : TAt w F b vb) :
    Calls Tryd.prog 15 #[.pointer (some ⟨p, 0, none⟩), va, vb] w (SolP F B p pv c (unifyF σ a b) w) := by
  obtain ⟨cur, ht⟩ := h.tab
  refine (typ_Unify F p pv c σ cur a b va vb w ht h.ok ha hb h.new_).mono ?_
  rintro e w' ⟨rfl, ht2, hk⟩
  exact ⟨rfl, ⟨ht2, (unifyF_fine h.ok a b).1, h.bp, h.bv, fun b k => h.new_ b (Nat.le_trans hk.size k)⟩, hk⟩
theorem sol_Apply {F : Nat → Prop} {B p pv c : Nat} {σ : Sg} {w : World} (h : Sol F B w p pv c σ) {t : Ty} {v : Value} (ht : TAt w F t v) :
    Calls Tryd.prog 16 #[.pointer (some ⟨p, 0, none⟩), v] w (ApplyP (applyF σ t) w) := by
  obtain ⟨cur, hT⟩ := h.tab
  exact typ_Apply F p pv c σ cur t v w hT h.ok ht
theorem Sol.vars {F : Nat → Prop} {B p pv c : Nat} {σ : Sg} {w : World} (h : Sol F B w p pv c σ) : Calls Tryd.prog 22 #[.pointer (some ⟨p, 0, none⟩)] w fun e w' => e = .returned (.int .i64 σ.length) ∧ w = w' := by
  obtain ⟨cur, hT⟩ := h.tab
  exact typ_Vars p _ _ w hT.blk
theorem Sol.lt {F : Nat → Prop} {B p pv c : Nat} {σ : Sg} {w : World} (h : Sol F B w p pv c σ) : p < w.heap.size ∧ pv < w.heap.size ∧ ¬ F p ∧ ¬ F pv ∧ p ≠ pv := by
  obtain ⟨cur, hT⟩ := h.tab
  exact ⟨hT.blk.lt, hT.row.lt, hT.pS, hT.vS, hT.ne⟩
/-- What is in new memory is none of the solver's. -/
theorem Sol.fresh {F : Nat → Prop} {B p pv c : Nat} {σ : Sg} {w w' : World} (h : Sol F B w p pv c σ) {t : Ty} {v : Value} (ht : TAt w' (fun b => w.heap.size ≤ b) t v) : TAt w' F t v := ht.mono (fun b hb _ => h.new_ b hb)
/-- A solver that was just made. -/
theorem Fr.sol {w : World} {p B n : Nat} {v : Value} (h : Fr w p B n v) (hp : B ≤ p) (hn : 0 < n) (hn2 : n ≤ 1000) (F : Nat → Prop) (hF : ∀ b, w.heap.size ≤ b → F b) (h1 : ¬ F p) (h2 : ∀ g, v.ownBlock = some g → ¬ F g) : ∃ pv c, v.ownBlock = some pv ∧ Sol F B w p pv c (List.replicate n none) := by
  obtain ⟨pv, c, cur, rfl, hB, T⟩ := h.table hn hn2 F h1 h2
  exact ⟨pv, c, rfl, ⟨cur, T⟩, Ok.none_ n, hp, hB, hF⟩
/-- The pairs, one behind the other. -/
noncomputable def runU (σ : Sg) : List (Ty × Ty) → Nat → Sg
  | x :: xs, k + 1 => runU (unifyF σ x.1 x.2).2 xs k
  | _, _ => σ
theorem runU_len {σ : Sg} (hok : Ok σ) : ∀ (k : Nat) (xs : List (Ty × Ty)), (runU σ xs k).length = σ.length ∧ Ok (runU σ xs k)
  | 0, xs => by rw [runU]; exact ⟨rfl, hok⟩; intro x xs k h1 h2; cases h2
  | k + 1, [] => by rw [runU]; exact ⟨rfl, hok⟩; intro x xs k h1 h2; cases h1
  | k + 1, x :: xs => by
    rw [runU]
    have h := unifyF_fine hok x.1 x.2
    obtain ⟨h1, h2⟩ := runU_len h.1 k xs
    exact ⟨h1.trans h.2, h2⟩
end Go.Proofs.YtnlifgcnmhakiaaDoor
