/-
  PLAIN LAWS: words, heads, objects. No program in sight.
-/
import Derived.WalkKit
import Derived.ProofKit
namespace Go.Proofs.Ytdmkjndlobichaa
open Go.RowKit

theorem wf_i64 {a : Int} (h : (Lit.int .i64 a).wf = true) : -9223372036854775808 ≤ a ∧ a ≤ 9223372036854775807 := by
  simp [Lit.wf, IntKind.min, IntKind.max, IntKind.signed, IntKind.bits] at h; omega

theorem hid {p : Prop} (h : p) : Hid p := h
theorem ret_int {k : IntKind} {a b : Int} (h : a = b) : Ending.returned (.int k a) = .returned (.int k b) := by rw [h]
theorem ret_bool {a b : Bool} (h : a = b) : Ending.returned (.bool a) = .returned (.bool b) := by rw [h]

theorem dec_eq {b : Bool} {p : Prop} [Decidable p] (h : b = true ↔ p) : b = decide p := by rw [Bool.eq_iff_iff, h, decide_eq_true_eq]
theorem wrap_small {z : Int} (h : -9223372036854775808 ≤ z ∧ z ≤ 9223372036854775807) : wrap64 z = z := by unfold wrap64; omega
theorem int_succ {k n : Nat} (h : k < n) (hn : n ≤ 9223372036854775807) : Value.int .i64 (wrap64 ((k : Int) + 1)) = .int .i64 ((k + 1 : Nat) : Int) := by
  rw [wrap_small (by omega)]; rfl

/-- A head that is one. -/
def OfOk (h : Int) : Prop := 0 ≤ h ∧ h % 2 = 1 ∧ h / 512 < 1048576 ∧ h % 512 / 2 ≤ 64
instance (h : Int) : Decidable (OfOk h) := by unfold OfOk; infer_instance
def ofT (h : Int) : Nat := (h / 512).toNat
def ofS (h : Int) : Nat := (h % 512 / 2).toNat
/-- What a head tells. -/
def ofV (h : Int) : Value := if OfOk h then .tuple #[.int .i64 (ofT h), .int .i64 (ofS h), .bool true] else .tuple #[.int .i64 0, .int .i64 0, .bool false]
theorem ofV_yes {h : Int} (hk : OfOk h) : ofV h = .tuple #[.int .i64 (ofT h), .int .i64 (ofS h), .bool true] := if_pos hk
theorem ofV_no {h : Int} (hk : ¬ OfOk h) : ofV h = .tuple #[.int .i64 0, .int .i64 0, .bool false] := if_neg hk
theorem ofS_le {h : Int} (hk : OfOk h) : ofS h ≤ 64 := by unfold ofS; obtain ⟨_, _, _, _⟩ := hk; omega
theorem ofV_yes' {h a b : Int} (hk : OfOk h) (ha : a = h / 512) (hb : b = h % 512 / 2) : Ending.returned (.tuple #[.int .i64 a, .int .i64 b, .bool true]) = .returned (ofV h) := by
  rw [ofV_yes hk, ha, hb]
  have h0 : 0 ≤ h := hk.1
  have e1 : ((ofT h : Nat) : Int) = h / 512 := by unfold ofT; omega
  have e2 : ((ofS h : Nat) : Int) = h % 512 / 2 := by unfold ofS; omega
  rw [e1, e2]
theorem ofV_no' {h : Int} (hk : ¬ OfOk h) : Ending.returned (.tuple #[.int .i64 0, .int .i64 0, .bool false]) = .returned (ofV h) := by rw [ofV_no hk]

/-- A word that is an integer's. -/
def IntOk (x : Int) : Prop := 0 ≤ x ∧ x < 4294967296 ∧ x % 2 = 1
instance (h : Int) : Decidable (IntOk h) := by unfold IntOk; infer_instance
/-- A word that is a pointer. -/
def PlOk (x : Int) : Prop := 1024 ≤ x ∧ x % 4 = 0 ∧ (x - 1024) / 4 < 262144
instance (h : Int) : Decidable (PlOk h) := by unfold PlOk; infer_instance
def plN (x : Int) : Nat := ((x - 1024) / 4).toNat
def plV (x : Int) : Value := if PlOk x then .tuple #[.int .i64 (plN x), .bool true] else .tuple #[.int .i64 0, .bool false]
theorem plV_yes {h : Int} (hk : PlOk h) : plV h = .tuple #[.int .i64 (plN h), .bool true] := if_pos hk
theorem plV_no {h : Int} (hk : ¬ PlOk h) : plV h = .tuple #[.int .i64 0, .bool false] := if_neg hk
theorem plV_yes' {h a : Int} (hk : PlOk h) (ha : a = (h - 1024) / 4) : Ending.returned (.tuple #[.int .i64 a, .bool true]) = .returned (plV h) := by
  rw [plV_yes hk, ha]
  have h0 : 1024 ≤ h := hk.1
  have e1 : ((plN h : Nat) : Int) = (h - 1024) / 4 := by unfold plN; omega
  rw [e1]
theorem plV_no' {h : Int} (hk : ¬ PlOk h) : Ending.returned (.tuple #[.int .i64 0, .bool false]) = .returned (plV h) := by rw [plV_no hk]

/-- What Head answers. -/
def hdV (t s : Int) : Value := if 0 ≤ t ∧ t < 1048576 ∧ 0 ≤ s ∧ s ≤ 64 then .tuple #[.int .i64 (512 * t + 2 * s + 1), .int .i64 0] else .tuple #[.int .i64 0, .int .i64 1]
theorem hdV_yes' {t s a : Int} (hk : 0 ≤ t ∧ t < 1048576 ∧ 0 ≤ s ∧ s ≤ 64) (ha : a = 512 * t + 2 * s + 1) : Ending.returned (.tuple #[.int .i64 a, .int .i64 0]) = .returned (hdV t s) := by
  unfold hdV; rw [if_pos hk, ha]
theorem hdV_no' {t s : Int} (hk : ¬ (0 ≤ t ∧ t < 1048576 ∧ 0 ≤ s ∧ s ≤ 64)) : Ending.returned (.tuple #[.int .i64 0, .int .i64 1]) = .returned (hdV t s) := by
  unfold hdV; rw [if_neg hk]
/-- What Pointer answers. -/
def ptV (p : Int) : Value := if 0 ≤ p ∧ p < 262144 then .tuple #[.int .i64 (1024 + 4 * p), .int .i64 0] else .tuple #[.int .i64 0, .int .i64 1]
theorem ptV_yes' {p a : Int} (hk : 0 ≤ p ∧ p < 262144) (ha : a = 1024 + 4 * p) : Ending.returned (.tuple #[.int .i64 a, .int .i64 0]) = .returned (ptV p) := by
  unfold ptV; rw [if_pos hk, ha]
theorem ptV_no' {p : Int} (hk : ¬ (0 ≤ p ∧ p < 262144)) : Ending.returned (.tuple #[.int .i64 0, .int .i64 1]) = .returned (ptV p) := by
  unfold ptV; rw [if_neg hk]

/-- Where objects begin, from a place on; none: they do not lie one behind the other. -/
def stl (f : Nat → Int) (top k : Nat) : Option (List Nat) :=
  if _h : k < top then (if OfOk (f k) ∧ k + ofS (f k) < top then (stl f top (k + ofS (f k) + 1)).map (k :: ·) else none) else some []
termination_by top - k
theorem stl_end {f : Nat → Int} {top k : Nat} (h : ¬ k < top) : stl f top k = some [] := by rw [stl, dif_neg h]
theorem stl_bad {f : Nat → Int} {top k : Nat} (h : k < top) (h2 : ¬ (OfOk (f k) ∧ k + ofS (f k) < top)) : stl f top k = none := by rw [stl, dif_pos h, if_neg h2]
theorem stl_step {f : Nat → Int} {top k : Nat} (h : k < top) (h2 : OfOk (f k) ∧ k + ofS (f k) < top) : stl f top k = (stl f top (k + ofS (f k) + 1)).map (k :: ·) := by
  rw [stl, dif_pos h, if_pos h2]

/-- The marks of places in a row of ones and noughts. -/
def marks (L : Nat) (sts : List Nat) : List Int := (List.range L).map fun i => if sts.contains i then 1 else 0
theorem marks_length (L : Nat) (sts : List Nat) : (marks L sts).length = L := by simp [marks]
theorem marks_nil (L : Nat) : marks L [] = List.replicate L 0 := by
  apply List.ext_getElem
  · simp [marks]
  · intro i h1 h2
    simp [marks]
theorem marks_get {L : Nat} {sts : List Nat} {i : Nat} (h : i < L) : (marks L sts).getD i 0 = if sts.contains i then 1 else 0 := by
  simp [marks, List.getD, h]
theorem marks_set {L : Nat} {sts : List Nat} {k : Nat} : (marks L sts).set k 1 = marks L (sts ++ [k]) := by
  apply List.ext_getElem
  · simp [marks]
  · intro i h1 h2
    simp only [marks, List.getElem_set, List.getElem_map, List.getElem_range, List.contains_eq_mem, List.mem_append, List.mem_singleton]
    by_cases e : k = i
    · subst e; simp
    · rw [if_neg e]
      have : ¬ i = k := fun h => e h.symm
      simp [this]
theorem marks_wf (L : Nat) (sts : List Nat) : ∀ x ∈ marks L sts, (Lit.int .i64 x).wf = true := by
  intro x hx
  obtain ⟨i, _, rfl⟩ := List.mem_map.1 hx
  split <;> rfl

/-- A word that may be, the objects beginning at some places of so many words. -/
def wordB (L : Nat) (sts : List Nat) (x : Int) : Bool := decide (IntOk x) || (decide (PlOk x) && (decide (plN x < L) && sts.contains (plN x)))
end Go.Proofs.Ytdmkjndlobichaa
