/-
  LEX, PLAIN: what a text's tokens are. No program here.
-/
import Derived.Lib.Strings
namespace Go.Proofs.YtngbaghkjaibeaaDoor
set_option linter.all false
namespace Lx

def isSmall (c : UInt8) : Bool := 97 ≤ c && c ≤ 122
def isGreat (c : UInt8) : Bool := 65 ≤ c && c ≤ 90
def isDig (c : UInt8) : Bool := 48 ≤ c && c ≤ 57
def isPart (c : UInt8) : Bool := isSmall c || isGreat c || isDig c || c == 95
def isBlank (c : UInt8) : Bool := c == 9 || c == 10 || c == 13 || c == 32
/-- How many letters ahead are of a kind. -/
def runL (p : UInt8 → Bool) : List UInt8 → Nat
  | [] => 0
  | c :: r => if p c then runL p r + 1 else 0
theorem runL_le (p : UInt8 → Bool) : ∀ l, runL p l ≤ l.length
  | [] => Nat.le_refl _
  | c :: r => by unfold runL; split <;> simp; exact runL_le p r
theorem runL_lt (p : UInt8 → Bool) : ∀ (l : List UInt8) (i : Nat) (h : i < runL p l) (h2 : i < l.length), p l[i] = true
  | [], i, h, h2 => by simp at h2
  | c :: r, i, h, h2 => by
    unfold runL at h
    by_cases hc : p c = true
    · rw [if_pos hc] at h
      cases i with
      | zero => exact hc
      | succ i => exact runL_lt p r i (by omega) (by simpa using h2)
    · rw [if_neg hc] at h; omega
theorem runL_at (p : UInt8 → Bool) : ∀ (l : List UInt8) (h : runL p l < l.length), p l[runL p l] = false
  | [], h => by simp at h
  | c :: r, h => by
    by_cases hc : p c = true
    · have e : runL p (c :: r) = runL p r + 1 := by rw [runL, if_pos hc]
      simp only [e, List.length_cons] at h ⊢
      exact runL_at p r (by omega)
    · have e : runL p (c :: r) = 0 := by rw [runL, if_neg hc]
      simp only [e]
      simpa using hc
/-- It is i, if all ahead of i are of the kind, and i's is not, or there is none. -/
theorem runL_is (p : UInt8 → Bool) : ∀ (l : List UInt8) (i : Nat), i ≤ l.length → (∀ j, (h : j < l.length) → j < i → p l[j] = true) → (∀ h : i < l.length, p l[i] = false) → runL p l = i
  | [], i, hi, _, _ => by simp at hi; rw [hi]; rfl
  | c :: r, 0, _, _, h => by have := h (by simp); simp at this; rw [runL, if_neg (by simp [this])]
  | c :: r, i + 1, hi, h1, h2 => by
    have hc : p c = true := h1 0 (by simp) (by omega)
    rw [runL, if_pos hc, runL_is p r i (by simpa using hi) (fun j hj hji => h1 (j + 1) (Nat.succ_lt_succ hj) (by omega)) (fun h => h2 (Nat.succ_lt_succ h))]
/-- A whole number's value. -/
def valD (l : List UInt8) : Nat := l.foldl (fun n c => n * 10 + (c.toNat - 48)) 0
def keysL : List (List UInt8) := [[116, 121, 112, 101], [102, 117, 110], [108, 101, 116], [114, 101, 99], [105, 110], [99, 97, 115, 101], [111, 102], [101, 110, 100], [105, 102], [116, 104, 101, 110], [101, 108, 115, 101], [112, 114, 105, 110, 116]]
def signsL : List (List UInt8) := [[45, 62], [61, 61], [124], [61], [40], [41], [59], [43], [45], [42], [47], [37], [60], [95]]
def isKey (l : List UInt8) : Bool := keysL.contains l
/-- A token, or an error. -/
inductive TR where
  | ok (kind : Int) (text : List UInt8) (n : Int) (len : Nat)
  | bad (e : Int)
  deriving DecidableEq
def wordF (kind : Int) (l : List UInt8) (len : Nat) : TR :=
  if 32 < l.length then .bad 2 else .ok (if kind = 1 ∧ isKey l = true then 5 else kind) l 0 len
def inR (v : Int) : Prop := -1073741824 ≤ v ∧ v < 1073741824
instance (v : Int) : Decidable (inR v) := by unfold inR; exact inferInstance
def valS (neg : Bool) (ds : List UInt8) : Int := if neg then -(valD ds : Int) else (valD ds : Int)
def numF (neg : Bool) (ds : List UInt8) (len : Nat) : TR :=
  if ds = [] ∨ (1 < ds.length ∧ ds.head? = some 48) ∨ ¬ inR (valS neg ds) then .bad 110 else .ok 4 [] (valS neg ds) len
def signF (l : List UInt8) : TR :=
  match signsL.find? (fun x => x.isPrefixOf l) with
  | some x => .ok 6 x 0 x.length
  | none => .bad 110
/-- The token at the beginning of a text. -/
def tokF : List UInt8 → TR
  | [] => .bad 110
  | c :: r =>
    if isSmall c then wordF 1 (c :: r.take (runL isPart r)) (1 + runL isPart r)
    else if isGreat c then wordF 2 (c :: r.take (runL isPart r)) (1 + runL isPart r)
    else if c = 39 then (if (r.head?.map isSmall).getD false then wordF 3 (r.take (runL isPart r)) (1 + runL isPart r) else .bad 110)
    else if c = 126 then numF true (r.take (runL isDig r)) (1 + runL isDig r)
    else if isDig c then numF false (c :: r.take (runL isDig r)) (1 + runL isDig r)
    else signF (c :: r)
theorem tokF_cons (c : UInt8) (r : List UInt8) : tokF (c :: r) =
    if isSmall c then wordF 1 (c :: r.take (runL isPart r)) (1 + runL isPart r)
    else if isGreat c then wordF 2 (c :: r.take (runL isPart r)) (1 + runL isPart r)
    else if c = 39 then (if (r.head?.map isSmall).getD false then wordF 3 (r.take (runL isPart r)) (1 + runL isPart r) else .bad 110)
    else if c = 126 then numF true (r.take (runL isDig r)) (1 + runL isDig r)
    else if isDig c then numF false (c :: r.take (runL isDig r)) (1 + runL isDig r)
    else signF (c :: r) := rfl
structure Tok where
  kind : Int
  text : List UInt8
  n : Int
  pos : Int
  deriving DecidableEq
inductive LR where
  | ok (l : List Tok)
  | bad (pos : Int) (e : Int)
  deriving DecidableEq
def LR.cons (t : Tok) : LR → LR
  | .ok l => .ok (t :: l)
  | .bad p e => .bad p e
/-- The tokens of a text that begins at place p, behind m tokens. -/
def lexF : Nat → List UInt8 → Nat → Nat → LR
  | 0, _, _, _ => .ok []
  | _ + 1, [], _, _ => .ok []
  | k + 1, c :: r, p, m =>
    if isBlank c then lexF k r (p + 1) m
    else if c = 35 then lexF k (r.drop (runL (fun x => x != 10) r)) (p + 1 + runL (fun x => x != 10) r) m
    else match tokF (c :: r) with
      | .bad e => .bad p e
      | .ok kd tx n len => if m = 4096 then .bad p 3 else (lexF k (r.drop (len - 1)) (p + len) (m + 1)).cons ⟨kd, tx, n, p⟩
theorem lexF_fuel2 : ∀ (k k' : Nat) (l : List UInt8) (p m : Nat), l.length ≤ k → l.length ≤ k' → lexF k l p m = lexF k' l p m
  | 0, k', l, p, m, h, _ => by
    have : l = [] := List.length_eq_zero_iff.1 (by omega)
    subst this
    cases k' <;> rfl
  | k + 1, k', [], p, m, _, _ => by cases k' <;> rfl
  | k + 1, 0, c :: r, p, m, _, h' => by simp at h'
  | k + 1, k' + 1, c :: r, p, m, h, h' => by
    have hr : r.length ≤ k := by simpa using h
    have hr' : r.length ≤ k' := by simpa using h'
    have h0 : ∀ p m, lexF k r p m = lexF k' r p m := fun p m => lexF_fuel2 k k' r p m hr hr'
    have hd : ∀ j p m, lexF k (r.drop j) p m = lexF k' (r.drop j) p m := fun j p m => lexF_fuel2 k k' _ p m (by simp; omega) (by simp; omega)
    simp only [lexF, hd, h0]
theorem lexF_fuel (k : Nat) (l : List UInt8) (p m : Nat) (h : l.length ≤ k) : lexF k l p m = lexF l.length l p m := lexF_fuel2 _ _ _ _ _ h (Nat.le_refl _)
/-- One step: fuel does not matter. -/
def lexA (l : List UInt8) (p m : Nat) : LR := lexF l.length l p m
theorem lexA_nil (p m : Nat) : lexA [] p m = .ok [] := rfl
theorem lexA_cons (c : UInt8) (r : List UInt8) (p m : Nat) : lexA (c :: r) p m =
    if isBlank c then lexA r (p + 1) m
    else if c = 35 then lexA (r.drop (runL (fun x => x != 10) r)) (p + 1 + runL (fun x => x != 10) r) m
    else match tokF (c :: r) with
      | .bad e => .bad p e
      | .ok kd tx n len => if m = 4096 then .bad p 3 else (lexA (r.drop (len - 1)) (p + len) (m + 1)).cons ⟨kd, tx, n, p⟩ := by
  unfold lexA
  have hd : ∀ j p m, lexF r.length (r.drop j) p m = lexF (r.drop j).length (r.drop j) p m := fun j p m => lexF_fuel _ _ _ _ (by simp)
  show lexF (r.length + 1) (c :: r) p m = _
  simp only [lexF, hd]
/-- A text's tokens. -/
def lexT (l : List UInt8) : LR := if 8192 < l.length then .bad 0 2 else lexA l 0 0
end Lx
end Go.Proofs.YtngbaghkjaibeaaDoor
