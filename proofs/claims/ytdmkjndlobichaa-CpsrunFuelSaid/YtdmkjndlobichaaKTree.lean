/-
  PLAIN: TERMS AS TREES.
-/
import Derived.Test.YtdmkjndlobichaaEPlain
namespace Go.Proofs.Ytdmkjndlobichaa
set_option linter.all false
namespace Tm
/-- A term: its kind, X, N, Ints, Tags, Args, its functions (names and parameters; bodies), Next. -/
inductive Te where
  | mk (k x n : Int) (i : Bool) (ts : List Int) (ats : List (Bool × Int)) (fh : List (Int × List Int)) (fb us : List Te) : Te
mutual
def nodes : Te → Nat
  | .mk k x n i ts ats fh fb us => 1 + nodesL fb + nodesL us
def nodesL : List Te → Nat
  | [] => 0
  | t :: ts => nodes t + nodesL ts
end
mutual
/-- How much a term weighs for a law. -/
def heft : Te → Nat
  | .mk k x n i ts ats fh fb us => 1 + (ats.length + ts.length + fh.length + us.length) / 10 + heftF fh fb + heftL us
def heftF : List (Int × List Int) → List Te → Nat
  | h :: hs, b :: bs => h.2.length / 10 + heft b + heftF hs bs
  | _, _ => 0
def heftL : List Te → Nat
  | [] => 0
  | t :: ts => heft t + heftL ts
end
mutual
/-- How many names are bound, at most. -/
def names : Te → Nat
  | .mk k x n i ts ats fh fb us => 1 + fh.length + namesF fh fb + namesL us
def namesF : List (Int × List Int) → List Te → Nat
  | h :: hs, b :: bs => h.2.length + names b + namesF hs bs
  | _, _ => 0
def namesL : List Te → Nat
  | [] => 0
  | t :: ts => names t + namesL ts
end
theorem nodes_pos (t : Te) : 0 < nodes t := by cases t; rw [nodes]; omega
theorem heft_pos (t : Te) : 0 < heft t := by cases t; rw [heft]; omega
mutual
/-- As many functions ats names. -/
def Even : Te → Prop
  | .mk k x n i ts ats fh fb us => fh.length = fb.length ∧ EvenL fb ∧ EvenL us
def EvenL : List Te → Prop
  | [] => True
  | t :: ts => Even t ∧ EvenL ts
end
theorem EvenL.mem : ∀ {ts : List Te}, EvenL ts → ∀ t ∈ ts, Even t
  | [], _, t, h => by cases h
  | a :: ts, h, t, hm => by
    rw [EvenL] at h
    rcases List.mem_cons.1 hm with rfl | hm
    · exact h.1
    · exact EvenL.mem h.2 t hm
mutual
theorem nodes_heft : ∀ (t : Te), Even t → nodes t ≤ heft t
  | .mk k x n i ts ats fh fb us, h => by
    rw [Even] at h
    rw [nodes, heft]
    have h1 := nodesF_heft fb fh h.1 h.2.1
    have h2 := nodesL_heft us h.2.2
    omega
theorem nodesF_heft : ∀ (fb : List Te) (fh : List (Int × List Int)), fh.length = fb.length → EvenL fb → nodesL fb ≤ heftF fh fb
  | [], fh, _, _ => by rw [nodesL]; omega
  | b :: fb, [], h, _ => by simp at h
  | b :: fb, h9 :: fh, h, he => by
    rw [EvenL] at he
    rw [nodesL, heftF]
    have h1 := nodes_heft b he.1
    have h2 := nodesF_heft fb fh (by simpa using h) he.2
    omega
theorem nodesL_heft : ∀ (us : List Te), EvenL us → nodesL us ≤ heftL us
  | [], _ => by rw [nodesL]; omega
  | t :: us, he => by
    rw [EvenL] at he
    rw [nodesL, heftL]
    have h1 := nodes_heft t he.1
    have h2 := nodesL_heft us he.2
    omega
end
mutual
theorem names_heft : ∀ (t : Te), names t + 10 ≤ 40 * heft t
  | .mk k x n i ts ats fh fb us => by
    rw [names, heft]
    have h1 := namesF_heft fb fh
    have h2 := namesL_heft us
    omega
theorem namesF_heft : ∀ (fb : List Te) (fh : List (Int × List Int)), namesF fh fb ≤ 40 * heftF fh fb
  | [], fh => by rw [namesF.eq_def]; cases fh <;> simp
  | b :: fb, [] => by rw [namesF.eq_def]; simp
  | b :: fb, h9 :: fh => by
    rw [namesF, heftF]
    have h1 := names_heft b
    have h2 := namesF_heft fb fh
    have h3 := heft_pos b
    have h4 : h9.2.length ≤ 10 * (h9.2.length / 10) + 9 := by omega
    omega
theorem namesL_heft : ∀ (us : List Te), namesL us ≤ 40 * heftL us
  | [] => by rw [namesL]; omega
  | t :: us => by
    rw [namesL, heftL]
    have h1 := names_heft t
    have h2 := namesL_heft us
    omega
end
theorem nodesL_take {us : List Te} {i : Nat} (hi : i < us.length) : nodesL (us.take (i + 1)) = nodesL (us.take i) + nodes us[i] := by
  induction us generalizing i with
  | nil => simp at hi
  | cons a us ih =>
    cases i with
    | zero => simp [nodesL]
    | succ i =>
      simp only [List.take_succ_cons, nodesL, List.getElem_cons_succ]
      rw [ih (by simpa using hi)]
      omega
theorem nodesL_le (l : List Te) : ∀ j, nodesL (l.take j) ≤ nodesL l := by
  induction l with
  | nil => intro j; simp
  | cons a l ih => intro j; cases j with
    | zero => simp [nodesL]
    | succ j => simp only [List.take_succ_cons, nodesL]; have := ih j; omega
theorem nodesL_part {us : List Te} {i : Nat} (hi : i < us.length) : nodesL (us.take i) + nodes us[i] ≤ nodesL us := by
  rw [← nodesL_take hi]
  exact nodesL_le us (i + 1)
theorem heftL_take {us : List Te} {i : Nat} (hi : i < us.length) : heftL (us.take (i + 1)) = heftL (us.take i) + heft us[i] := by
  induction us generalizing i with
  | nil => simp at hi
  | cons a us ih =>
    cases i with
    | zero => simp [heftL]
    | succ i =>
      simp only [List.take_succ_cons, heftL, List.getElem_cons_succ]
      rw [ih (by simpa using hi)]
      omega
theorem heftF_take {fh : List (Int × List Int)} {fb : List Te} (hl : fh.length = fb.length) {i : Nat} (hi : i < fb.length) : heftF (fh.take (i + 1)) (fb.take (i + 1)) = heftF (fh.take i) (fb.take i) + (fh[i].2.length / 10 + heft fb[i]) := by
  induction fb generalizing i fh with
  | nil => simp at hi
  | cons a fb ih =>
    cases fh with
    | nil => simp at hl
    | cons h fh =>
    cases i with
    | zero => simp [heftF]
    | succ i =>
      simp only [List.take_succ_cons, heftF, List.getElem_cons_succ]
      rw [ih (by simpa using hl) (by simpa using hi)]
      omega
theorem te_lt {k x n : Int} {i : Bool} {ts : List Int} {ats : List (Bool × Int)} {fh : List (Int × List Int)} {fb us : List Te} {t : Te} (h : t ∈ us) : SizeOf.sizeOf t < SizeOf.sizeOf (Te.mk k x n i ts ats fh fb us) := by
  have := List.sizeOf_lt_of_mem h
  simp; omega
theorem fn_lt {k x n : Int} {i : Bool} {ts : List Int} {ats : List (Bool × Int)} {fh : List (Int × List Int)} {fb us : List Te} {t : Te} (h : t ∈ fb) : SizeOf.sizeOf t < SizeOf.sizeOf (Te.mk k x n i ts ats fh fb us) := by
  have := List.sizeOf_lt_of_mem h
  simp; omega
end Tm
end Go.Proofs.Ytdmkjndlobichaa
