/-
  THE PLAINEST NAMES OF A TYPE'S VARIABLES: plain.
-/
import Derived.Test.YtnlifgcnmhakiaaDoorTSize
import Derived.KernelRfl
namespace Go.Proofs.YtnlifgcnmhakiaaDoor
open Go.ChangeShapes Go.WideShapes Go.ChangeAt Go.RowKit

/-- Which variable: by its name, or else by its number. -/
def keyOf (s : ByteArray) (n : Int) : ByteArray × Int := (s, if s.data.toList = [] then n else 0)
def posK : List (ByteArray × Int) → ByteArray × Int → Nat
  | [], _ => 0
  | x :: xs, k => if x = k then 0 else posK xs k + 1
theorem posK_le (ks : List (ByteArray × Int)) (k : ByteArray × Int) : posK ks k ≤ ks.length := by
  induction ks with
  | nil => exact Nat.le_refl _
  | cons x xs ih => rw [posK]; split <;> simp; omega
theorem posK_get {ks : List (ByteArray × Int)} {k : ByteArray × Int} (h : posK ks k < ks.length) : ks[posK ks k] = k := by
  induction ks with
  | nil => simp at h
  | cons x xs ih =>
    by_cases e : x = k
    · have e0 : posK (x :: xs) k = 0 := by rw [posK, if_pos e]
      simp only [e0, List.getElem_cons_zero]
      exact e
    · have e1 : posK (x :: xs) k = posK xs k + 1 := by rw [posK, if_neg e]
      simp only [e1, List.getElem_cons_succ]
      exact ih (by rw [e1] at h; simpa using h)
theorem posK_ne {ks : List (ByteArray × Int)} {k : ByteArray × Int} {j : Nat} (hj : j < ks.length) (h : j < posK ks k) : ks[j] ≠ k := by
  induction ks generalizing j with
  | nil => simp at hj
  | cons x xs ih =>
    by_cases e : x = k
    · rw [posK, if_pos e] at h; omega
    · rw [posK, if_neg e] at h
      cases j with
      | zero => exact e
      | succ j => exact ih (by simpa using hj) (by omega)
theorem posK_at {ks : List (ByteArray × Int)} {k : ByteArray × Int} {i : Nat} (hi : i < ks.length) (hn : ks[i] = k) (hb : ∀ j, (h : j < ks.length) → j < i → ks[j] ≠ k) : posK ks k = i := by
  rcases Nat.lt_trichotomy (posK ks k) i with h | h | h
  · exact absurd (posK_get (by omega)) (hb _ (by omega) h)
  · exact h
  · exact absurd hn (posK_ne hi h)
theorem posK_none {ks : List (ByteArray × Int)} {k : ByteArray × Int} (hb : ∀ j, (h : j < ks.length) → ks[j] ≠ k) : posK ks k = ks.length := by
  rcases Nat.lt_or_ge (posK ks k) ks.length with h | h
  · exact absurd (posK_get h) (hb _ h)
  · have := posK_le ks k; omega
def addK (ks : List (ByteArray × Int)) (k : ByteArray × Int) : List (ByteArray × Int) := if posK ks k < ks.length then ks else ks ++ [k]
/-- The digits of a number below a hundred. -/
def smallB (m : Nat) : ByteArray := if m < 10 then ⟨#[(48 + m).toUInt8]⟩ else ⟨#[(48 + m / 10).toUInt8, (48 + m % 10).toUInt8]⟩
/-- The name of the i-th variable. -/
def nameB (i : Nat) : ByteArray := if i < 26 then ⟨#[(97 + i % 26).toUInt8]⟩ else ⟨#[(97 + i % 26).toUInt8]⟩ ++ smallB (i / 26)
def decB (s : ByteArray) : Nat := match s.data.toList with
  | [a] => a.toNat - 97
  | [a, b] => (a.toNat - 97) + 26 * (b.toNat - 48)
  | [a, b, c] => (a.toNat - 97) + 26 * ((b.toNat - 48) * 10 + (c.toNat - 48))
  | _ => 5000
theorem dec_all : (List.range 1100).all (fun i => decB (nameB i) == i) = true := by kernel_rfl
theorem nameB_inj {i j : Nat} (hi : i < 1100) (hj : j < 1100) (h : nameB i = nameB j) : i = j := by
  have h1 := List.all_eq_true.1 dec_all i (by simpa using hi)
  have h2 := List.all_eq_true.1 dec_all j (by simpa using hj)
  rw [h] at h1
  have e1 := eq_of_beq h1
  have e2 := eq_of_beq h2
  omega
mutual
/-- A type with the plainest names; which variables there were. -/
def canF (ks : List (ByteArray × Int)) : Ty → List (ByteArray × Int) × Ty
  | .mk q s n us =>
    if q = 2 then ((canFL (addK ks (keyOf s n)) us).1, .mk 2 (nameB (posK ks (keyOf s n))) 0 (canFL (addK ks (keyOf s n)) us).2)
    else ((canFL ks us).1, .mk q s n (canFL ks us).2)
def canFL (ks : List (ByteArray × Int)) : List Ty → List (ByteArray × Int) × List Ty
  | [] => (ks, [])
  | t :: ts => ((canFL (canF ks t).1 ts).1, (canF ks t).2 :: (canFL (canF ks t).1 ts).2)
end
theorem canFL_length (ks : List (ByteArray × Int)) (us : List Ty) : (canFL ks us).2.length = us.length := by
  induction us generalizing ks with
  | nil => simp [canFL]
  | cons t ts ih => rw [canFL]; simp [ih]
theorem canFL_append (ks : List (ByteArray × Int)) (us vs : List Ty) : canFL ks (us ++ vs) = ((canFL (canFL ks us).1 vs).1, (canFL ks us).2 ++ (canFL (canFL ks us).1 vs).2) := by
  induction us generalizing ks with
  | nil => simp [canFL]
  | cons t ts ih => simp only [List.cons_append, canFL]; rw [ih]
theorem canFL_take {ks : List (ByteArray × Int)} {us : List Ty} {i : Nat} (hi : i < us.length) :
    canFL ks (us.take (i + 1)) = ((canF (canFL ks (us.take i)).1 us[i]).1, (canFL ks (us.take i)).2 ++ [(canF (canFL ks (us.take i)).1 us[i]).2]) := by
  rw [List.take_succ_eq_append_getElem hi, canFL_append]
  simp [canFL]
theorem addK_length (ks : List (ByteArray × Int)) (k : ByteArray × Int) : ks.length ≤ (addK ks k).length ∧ (addK ks k).length ≤ ks.length + 1 := by
  unfold addK
  split <;> simp
theorem posK_addK (ks : List (ByteArray × Int)) (k : ByteArray × Int) : posK ks k < (addK ks k).length := by
  unfold addK
  have := posK_le ks k
  split <;> simp <;> omega
/-- How many variables there are at most. -/
theorem canF_length : ∀ (N : Nat) (t : Ty), SizeOf.sizeOf t ≤ N → ∀ ks, (canF ks t).1.length ≤ ks.length + nodes t := by
  intro N
  induction N with
  | zero => intro t ht; cases t; simp at ht
  | succ N ih =>
    intro t ht ks
    obtain ⟨q, s, n, us⟩ := t
    have hL : ∀ (vs : List Ty), (∀ t ∈ vs, SizeOf.sizeOf t ≤ N) → ∀ ks, (canFL ks vs).1.length ≤ ks.length + nodesL vs := by
      intro vs
      induction vs with
      | nil => intro _ ks; simp [canFL, nodesL]
      | cons t ts ih2 =>
        intro h ks
        rw [canFL, nodesL]
        have h1 := ih t (h t (by simp)) ks
        have h2 := ih2 (fun x hx => h x (by simp [hx])) (canF ks t).1
        dsimp only
        omega
    have hus := hL us (fun t hm => by have := ty_lt (k := q) (n := n) (s := s) hm; omega)
    rw [canF, nodes]
    have h1 := (addK_length ks (keyOf s n)).2
    split
    · have := hus (addK ks (keyOf s n)); dsimp only; omega
    · have := hus ks; dsimp only; omega
theorem canFL_len (us : List Ty) (ks : List (ByteArray × Int)) : (canFL ks us).1.length ≤ ks.length + nodesL us := by
  induction us generalizing ks with
  | nil => simp [canFL, nodesL]
  | cons t ts ih =>
    rw [canFL, nodesL]
    have h1 := canF_length _ t (Nat.le_refl _) ks
    have h2 := ih (canF ks t).1
    dsimp only
    omega
theorem canF_nodes : ∀ (N : Nat) (t : Ty), SizeOf.sizeOf t ≤ N → ∀ ks, nodes (canF ks t).2 = nodes t := by
  intro N
  induction N with
  | zero => intro t ht; cases t; simp at ht
  | succ N ih =>
    intro t ht ks
    obtain ⟨q, s, n, us⟩ := t
    have hL : ∀ (vs : List Ty), (∀ t ∈ vs, SizeOf.sizeOf t ≤ N) → ∀ ks, nodesL (canFL ks vs).2 = nodesL vs := by
      intro vs
      induction vs with
      | nil => intro _ ks; simp [canFL]
      | cons t ts ih2 =>
        intro h ks
        rw [canFL, nodesL, nodesL]
        rw [ih t (h t (by simp)) ks, ih2 (fun x hx => h x (by simp [hx])) (canF ks t).1]
    have hus := hL us (fun t hm => by have := ty_lt (k := q) (n := n) (s := s) hm; omega)
    rw [canF]
    split
    · rw [nodes, nodes, hus]
    · rw [nodes, nodes, hus]
/-- The plain names themselves. -/
def plainK (n : Nat) : List (ByteArray × Int) := (List.range n).map (fun i => (nameB i, (0 : Int)))
theorem plainK_length (n : Nat) : (plainK n).length = n := by simp [plainK]
theorem plainK_get {n i : Nat} (hi : i < (plainK n).length) : (plainK n)[i] = (nameB i, 0) := by simp [plainK]
theorem keyOf_zero (s : ByteArray) : keyOf s 0 = (s, 0) := by unfold keyOf; split <;> rfl
theorem posK_plain {n p : Nat} (hp : p ≤ n) (hn : n < 1100) : posK (plainK n) (nameB p, 0) = p := by
  by_cases h : p = n
  · subst h
    have := posK_none (ks := plainK p) (k := (nameB p, 0)) (fun j hj e => by
      rw [plainK_get] at e
      injection e with e _
      rw [plainK_length] at hj
      have := nameB_inj (by omega) hn e
      omega)
    rw [this, plainK_length]
  · refine posK_at (by rw [plainK_length]; omega) (plainK_get _) (fun j hj hji e => ?_)
    rw [plainK_get] at e
    injection e with e _
    rw [plainK_length] at hj
    have := nameB_inj (by omega) (by omega) e
    omega
theorem addK_plain {ks : List (ByteArray × Int)} {k : ByteArray × Int} (hn : ks.length < 1100) : addK (plainK ks.length) (nameB (posK ks k), 0) = plainK (addK ks k).length := by
  have hle := posK_le ks k
  unfold addK
  rw [posK_plain hle hn, plainK_length]
  split
  · rfl
  · have : posK ks k = ks.length := by omega
    rw [this, List.length_append]
    simp [plainK, List.range_succ]
/-- What has the plainest names keeps them. -/
theorem canF_again : ∀ (N : Nat) (t : Ty), SizeOf.sizeOf t ≤ N → ∀ ks, ks.length + nodes t < 1100 → canF (plainK ks.length) (canF ks t).2 = (plainK (canF ks t).1.length, (canF ks t).2) := by
  intro N
  induction N with
  | zero => intro t ht; cases t; simp at ht
  | succ N ih =>
    intro t ht ks hb
    obtain ⟨q, s, n, us⟩ := t
    have hL : ∀ (vs : List Ty), (∀ t ∈ vs, SizeOf.sizeOf t ≤ N) → ∀ ks, ks.length + nodesL vs < 1100 → canFL (plainK ks.length) (canFL ks vs).2 = (plainK (canFL ks vs).1.length, (canFL ks vs).2) := by
      intro vs
      induction vs with
      | nil => intro _ ks _; simp [canFL]
      | cons t ts ih2 =>
        intro h ks hb
        rw [nodesL] at hb
        have h1 := ih t (h t (by simp)) ks (by omega)
        have h3 := canF_length _ t (Nat.le_refl _) ks
        have h2 := ih2 (fun x hx => h x (by simp [hx])) (canF ks t).1 (by omega)
        simp only [canFL]
        rw [h1, h2]
    have hus := hL us (fun t hm => by have := ty_lt (k := q) (n := n) (s := s) hm; omega)
    rw [nodes] at hb
    have ha := (addK_length ks (keyOf s n)).2
    by_cases hq : q = 2
    · have e1 : canF ks (.mk q s n us) = ((canFL (addK ks (keyOf s n)) us).1, .mk 2 (nameB (posK ks (keyOf s n))) 0 (canFL (addK ks (keyOf s n)) us).2) := by rw [canF, if_pos hq]
      rw [e1]
      dsimp only
      rw [canF, if_pos rfl, keyOf_zero, addK_plain (by omega), hus _ (by omega), posK_plain (posK_le _ _) (by omega)]
    · have e1 : canF ks (.mk q s n us) = ((canFL ks us).1, .mk q s n (canFL ks us).2) := by rw [canF, if_neg hq]
      rw [e1]
      dsimp only
      rw [canF, if_neg hq, hus _ (by omega)]
end Go.Proofs.YtnlifgcnmhakiaaDoor
