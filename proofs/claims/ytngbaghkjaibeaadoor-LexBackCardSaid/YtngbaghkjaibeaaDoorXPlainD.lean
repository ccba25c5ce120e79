/-
  LEX, PLAIN: which tokens the document takes for good ones, and that they are those that are read as they were written.
-/
import Derived.Test.YtngbaghkjaibeaaDoorXPlainC
import Derived.Lib.ItoaLen
namespace Go.Proofs.YtngbaghkjaibeaaDoor
set_option linter.all false
namespace Lx
open Go.Lib (decDigits)

def wordB (p : UInt8 → Bool) : List UInt8 → Bool
  | [] => false
  | c :: r => p c && decide (r.length ≤ 31) && r.all isPart
def goodB (t : Tok) : Bool :=
  (t.kind == 4 || t.n == 0) &&
    (if t.kind = 1 then wordB isSmall t.text && !isKey t.text
     else if t.kind = 2 then wordB isGreat t.text
     else if t.kind = 3 then wordB isSmall t.text
     else if t.kind = 4 then t.text == [] && decide (inR t.n)
     else if t.kind = 5 then isKey t.text
     else if t.kind = 6 then signsL.contains t.text
     else false)
theorem runL_all {p : UInt8 → Bool} {l : List UInt8} (h : l.all p = true) : runL p l = l.length :=
  runL_is p l l.length (Nat.le_refl _) (fun j hj _ => List.all_eq_true.1 h _ (List.getElem_mem hj)) (fun h => absurd h (Nat.lt_irrefl _))
theorem all_runL {p : UInt8 → Bool} {l : List UInt8} (h : runL p l = l.length) : l.all p = true := by
  rw [List.all_eq_true]
  intro x hx
  obtain ⟨j, hj, rfl⟩ := List.getElem_of_mem hx
  exact runL_lt p l j (by omega) hj
theorem digit_of {d : Nat} (h : d < 10) : isDig (UInt8.ofNat (48 + d)) = true ∧ (UInt8.ofNat (48 + d)).toNat - 48 = d := by
  have : ∀ d : Fin 10, isDig (UInt8.ofNat (48 + d.1)) = true ∧ (UInt8.ofNat (48 + d.1)).toNat - 48 = d.1 := by decide
  exact this ⟨d, h⟩
theorem dec_small {u : Nat} (h : u < 10) : decDigits u = [UInt8.ofNat (48 + u)] := by rw [decDigits, dif_pos h]
theorem dec_big {u : Nat} (h : ¬ u < 10) : decDigits u = decDigits (u / 10) ++ [UInt8.ofNat (48 + u % 10)] := by rw [decDigits, dif_neg h]
theorem one_all {d : Nat} (h : d < 10) : ([UInt8.ofNat (48 + d)] : List UInt8).all isDig = true := by rw [List.all_cons, (digit_of h).1]; rfl
theorem dec_all : ∀ (k u : Nat), u ≤ k → (decDigits u).all isDig = true
  | 0, u, h => by rw [dec_small (by omega)]; exact one_all (by omega)
  | k + 1, u, h => by
    by_cases hu : u < 10
    · rw [dec_small hu]; exact one_all hu
    · rw [dec_big hu, List.all_append, dec_all k (u / 10) (by omega), one_all (by omega)]
      rfl
theorem dec_val : ∀ (k u : Nat), u ≤ k → valD (decDigits u) = u
  | 0, u, h => by rw [dec_small (by omega)]; show 0 * 10 + _ = u; rw [(digit_of (d := u) (by omega)).2]; omega
  | k + 1, u, h => by
    by_cases hu : u < 10
    · rw [dec_small hu]; show 0 * 10 + _ = u; rw [(digit_of hu).2]; omega
    · have ih := dec_val k (u / 10) (by omega)
      rw [dec_big hu]
      unfold valD at ih ⊢
      rw [List.foldl_append, ih]
      show (u / 10) * 10 + _ = u
      rw [(digit_of (d := u % 10) (by omega)).2]; omega
theorem dec_ne (u : Nat) : decDigits u ≠ [] := by
  by_cases hu : u < 10
  · rw [dec_small hu]; simp
  · rw [dec_big hu]; simp
theorem dec_head : ∀ (k u : Nat), u ≤ k → 1 ≤ u → (decDigits u).head? ≠ some 48
  | 0, u, h, h1 => by omega
  | k + 1, u, h, h1 => by
    by_cases hu : u < 10
    · rw [dec_small hu]
      have : ∀ d : Fin 10, 1 ≤ d.1 → [UInt8.ofNat (48 + d.1)].head? ≠ some 48 := by decide
      exact this ⟨u, hu⟩ h1
    · rw [dec_big hu]
      have ih := dec_head k (u / 10) (by omega) (by omega)
      cases hd : decDigits (u / 10) with
      | nil => exact absurd hd (dec_ne _)
      | cons c r => rw [hd] at ih; simpa using ih
theorem dec_len : ∀ (k u : Nat), u < 10 ^ (k + 1) → (decDigits u).length ≤ k + 1
  | 0, u, h => by rw [dec_small (by simpa using h)]; simp
  | k + 1, u, h => by
    by_cases hu : u < 10
    · rw [dec_small hu]; simp
    · rw [dec_big hu]
      have := dec_len k (u / 10) (by rw [Nat.pow_succ] at h; omega)
      simp; omega
theorem dec_one {u : Nat} (h : 1 < (decDigits u).length) : 1 ≤ u := by
  by_cases hu : u < 10
  · rw [dec_small hu] at h; simp at h
  · omega
/-- A number is read as it was written. -/
theorem numF_dec (b : Bool) (u len : Nat) : numF b (decDigits u) len = if inR (if b then -(u : Int) else u) then .ok 4 [] (if b then -(u : Int) else u) len else .bad 110 := by
  have hv : valS b (decDigits u) = if b then -(u : Int) else u := by unfold valS; rw [dec_val u u (Nat.le_refl _)]
  unfold numF
  rw [hv]
  have h1 : ¬ (1 < (decDigits u).length ∧ (decDigits u).head? = some 48) := fun h => dec_head u u (Nat.le_refl _) (dec_one h.1) h.2
  by_cases hr : inR (if b then -(u : Int) else u)
  · rw [if_neg (by rintro (h | h | h); exact dec_ne u h; exact h1 h; exact h hr), if_pos hr]
  · rw [if_pos (.inr (.inr hr)), if_neg hr]
set_option maxRecDepth 100000 in
theorem dig_not {c : UInt8} (h : isDig c = true) : isSmall c = false ∧ isGreat c = false ∧ c ≠ 39 ∧ c ≠ 126 := by
  have : ∀ c : Fin 256, isDig (UInt8.ofNat c.1) = true → isSmall (UInt8.ofNat c.1) = false ∧ isGreat (UInt8.ofNat c.1) = false ∧ UInt8.ofNat c.1 ≠ 39 ∧ UInt8.ofNat c.1 ≠ 126 := by decide
  have h2 := this ⟨c.toNat, c.toNat_lt⟩
  simp only [UInt8.ofNat_toNat] at h2
  exact h2 h
theorem tokF_neg (u : Nat) : tokF (126 :: decDigits u) = if inR (-(u : Int)) then .ok 4 [] (-(u : Int)) (126 :: decDigits u).length else .bad 110 := by
  rw [tokF_cons, if_neg (by decide), if_neg (by decide), if_neg (by decide), if_pos rfl, runL_all (dec_all u u (Nat.le_refl _)), List.take_length, numF_dec]
  simp only [if_true, List.length_cons, Nat.add_comm 1]
theorem tokF_pos (u : Nat) : tokF (decDigits u) = if inR (u : Int) then .ok 4 [] (u : Int) (decDigits u).length else .bad 110 := by
  have h := dec_all u u (Nat.le_refl _)
  have hn := numF_dec false u (decDigits u).length
  cases hd : decDigits u with
  | nil => exact absurd hd (dec_ne u)
  | cons c r =>
    rw [hd] at h hn
    simp only [List.all_cons, Bool.and_eq_true] at h
    obtain ⟨g1, g2, g3, g4⟩ := dig_not h.1
    rw [tokF_cons, if_neg (by simp [g1]), if_neg (by simp [g2]), if_neg g3, if_neg g4, if_pos h.1, runL_all h.2, List.take_length]
    rw [List.length_cons] at hn
    rw [List.length_cons, Nat.add_comm 1]
    simp only [Bool.false_eq_true, if_false] at hn
    exact hn
theorem wordB_iff {p : UInt8 → Bool} {c : UInt8} {r : List UInt8} : wordB p (c :: r) = true ↔ p c = true ∧ r.length ≤ 31 ∧ r.all isPart = true := by
  simp [wordB, and_assoc]
theorem tokF_low {c : UInt8} {r : List UInt8} (hc : isSmall c = true) (h : r.all isPart = true) : tokF (c :: r) = wordF 1 (c :: r) (c :: r).length := by
  rw [tokF_cons, if_pos hc, runL_all h, List.take_length, List.length_cons, Nat.add_comm]
theorem great_small {c : UInt8} (h : isGreat c = true) : isSmall c = false := by
  unfold isGreat at h; unfold isSmall
  simp only [Bool.and_eq_true, decide_eq_true_eq, UInt8.le_iff_toNat_le] at h
  simp only [Bool.and_eq_false_imp, decide_eq_true_eq, decide_eq_false_iff_not, UInt8.le_iff_toNat_le]
  intro h1
  have : (90 : UInt8).toNat = 90 := rfl
  have : (97 : UInt8).toNat = 97 := rfl
  omega
theorem tokF_up {c : UInt8} {r : List UInt8} (hc : isGreat c = true) (h : r.all isPart = true) : tokF (c :: r) = wordF 2 (c :: r) (c :: r).length := by
  rw [tokF_cons, if_neg (by simp [great_small hc]), if_pos hc, runL_all h, List.take_length, List.length_cons, Nat.add_comm]
theorem tokF_var {c : UInt8} {r : List UInt8} (hc : isSmall c = true) (h : r.all isPart = true) : tokF (39 :: c :: r) = wordF 3 (c :: r) (39 :: c :: r).length := by
  have h2 : (c :: r).all isPart = true := by rw [List.all_cons, h]; simp [isPart, hc]
  rw [tokF_cons, if_neg (by decide), if_neg (by decide), if_pos rfl, if_pos (by simp [hc]), runL_all h2, List.take_length, List.length_cons (a := 39), Nat.add_comm]
theorem sign_tok : ∀ y ∈ signsL, tokF y = .ok 6 y 0 y.length ∧ y.length ≤ 33 := by decide
theorem key_tok : ∀ y ∈ keysL, tokF y = .ok 5 y 0 y.length ∧ y.length ≤ 33 := by decide
theorem key_low : ∀ y ∈ keysL, wordB isSmall y = true := by decide
theorem spell_var {digs : Nat → List UInt8} {t : Tok} (h : t.kind = 3) : spellF digs t = 39 :: t.text := by unfold spellF; rw [if_pos h]
theorem spell_int {digs : Nat → List UInt8} {t : Tok} (h : t.kind = 4) : spellF digs t = if t.n < 0 then 126 :: digs t.n.natAbs else digs t.n.natAbs := by unfold spellF; rw [if_neg (by omega), if_pos h]
theorem spell_other {digs : Nat → List UInt8} {t : Tok} (h3 : t.kind ≠ 3) (h4 : t.kind ≠ 4) : spellF digs t = t.text := by unfold spellF; rw [if_neg h3, if_neg h4]
theorem tokF_int (n : Int) : tokF (if n < 0 then 126 :: decDigits n.natAbs else decDigits n.natAbs) = if inR n then .ok 4 [] n (if n < 0 then 126 :: decDigits n.natAbs else decDigits n.natAbs).length else .bad 110 := by
  by_cases h : n < 0
  · rw [if_pos h, tokF_neg, show -(n.natAbs : Int) = n by omega]
  · rw [if_neg h, tokF_pos, show (n.natAbs : Int) = n by omega]
theorem int_len {n : Int} (h : inR n) : (if n < 0 then 126 :: decDigits n.natAbs else decDigits n.natAbs).length ≤ 33 := by
  have := dec_len 9 n.natAbs (by unfold inR at h; omega)
  split <;> simp <;> omega
theorem good_of {t : Tok} (h : goodB t = true) : goodF decDigits t := by
  unfold goodB at h
  rw [Bool.and_eq_true] at h
  obtain ⟨h0, h⟩ := h
  obtain ⟨kd, tx, n, ps⟩ := t
  simp only at h0 h
  by_cases h4 : kd = 4
  · subst h4
    simp only [show ¬ (4 : Int) = 1 by omega, show ¬ (4 : Int) = 2 by omega, show ¬ (4 : Int) = 3 by omega, if_false, if_true, Bool.and_eq_true, decide_eq_true_eq, beq_iff_eq] at h
    obtain ⟨rfl, h⟩ := h
    unfold goodF
    rw [spell_int rfl]
    exact ⟨int_len h, by rw [tokF_int, if_pos h]⟩
  have hn : n = 0 := by simpa [h4] using h0
  subst hn
  by_cases h3 : kd = 3
  · subst h3
    simp only [show ¬ (3 : Int) = 1 by omega, show ¬ (3 : Int) = 2 by omega, if_false, if_true] at h
    cases tx with
    | nil => cases h
    | cons c r =>
      obtain ⟨g1, g2, g3⟩ := wordB_iff.1 h
      unfold goodF
      rw [spell_var rfl]
      exact ⟨by simp; omega, by rw [tokF_var g1 g3]; unfold wordF; rw [if_neg (by simp; omega), if_neg (by simp)]⟩
  unfold goodF
  rw [spell_other h3 h4]
  simp only [h3, h4, if_false] at h ⊢
  by_cases h1 : kd = 1
  · subst h1
    simp only [if_true, Bool.and_eq_true, Bool.not_eq_true'] at h
    obtain ⟨h, hk⟩ := h
    cases tx with
    | nil => cases h
    | cons c r =>
      obtain ⟨g1, g2, g3⟩ := wordB_iff.1 h
      exact ⟨by simp; omega, by rw [tokF_low g1 g3]; unfold wordF; rw [if_neg (by simp; omega), if_neg (by simp [hk])]⟩
  simp only [h1, if_false] at h
  by_cases h2 : kd = 2
  · subst h2
    simp only [if_true] at h
    cases tx with
    | nil => cases h
    | cons c r =>
      obtain ⟨g1, g2, g3⟩ := wordB_iff.1 h
      exact ⟨by simp; omega, by rw [tokF_up g1 g3]; unfold wordF; rw [if_neg (by simp; omega), if_neg (by simp)]⟩
  simp only [h2, if_false] at h
  by_cases h5 : kd = 5
  · subst h5
    simp only [if_true] at h
    have := key_tok tx (List.contains_iff_mem.1 h)
    exact ⟨this.2, this.1⟩
  simp only [h5, if_false] at h
  by_cases h6 : kd = 6
  · subst h6
    simp only [if_true] at h
    have := sign_tok tx (List.contains_iff_mem.1 h)
    exact ⟨this.2, this.1⟩
  simp only [h6, if_false] at h
  cases h
theorem wordF_ok {k0 : Int} {w : List UInt8} {n0 : Nat} {kd : Int} {tx : List UInt8} {n : Int} {len : Nat} (h : wordF k0 w n0 = .ok kd tx n len) : w.length ≤ 32 ∧ kd = (if k0 = 1 ∧ isKey w = true then 5 else k0) ∧ tx = w ∧ n = 0 ∧ len = n0 := by
  unfold wordF at h
  by_cases hl : 32 < w.length
  · rw [if_pos hl] at h; cases h
  · rw [if_neg hl] at h
    injection h with e1 e2 e3 e4
    exact ⟨by omega, e1.symm, e2.symm, e3.symm, e4.symm⟩
theorem numF_ok {b : Bool} {w : List UInt8} {n0 : Nat} {kd : Int} {tx : List UInt8} {n : Int} {len : Nat} (h : numF b w n0 = .ok kd tx n len) : kd = 4 := by
  unfold numF at h
  split at h
  · cases h
  · injection h with e1 e2 e3 e4; exact e1.symm
theorem signF_ok {l : List UInt8} {kd : Int} {tx : List UInt8} {n : Int} {len : Nat} (h : signF l = .ok kd tx n len) : kd = 6 ∧ n = 0 ∧ tx ∈ signsL := by
  unfold signF at h
  cases hf : signsL.find? (fun x => x.isPrefixOf l) with
  | none => rw [hf] at h; cases h
  | some x =>
    rw [hf] at h
    injection h with e1 e2 e3 e4
    subst e2
    exact ⟨e1.symm, e3.symm, List.mem_of_find?_eq_some hf⟩
theorem good_back {t : Tok} (h : goodF decDigits t) : goodB t = true := by
  obtain ⟨h0, h⟩ := h
  obtain ⟨kd, tx, n, ps⟩ := t
  simp only at h
  by_cases h4 : kd = 4
  · subst h4
    rw [spell_int rfl, tokF_int] at h
    by_cases hr : inR n
    · rw [if_pos hr] at h
      injection h with e1 e2 e3 e4
      subst e2
      simp [goodB, hr]
    · rw [if_neg hr] at h; cases h
  by_cases h3 : kd = 3
  · subst h3
    rw [spell_var rfl] at h
    cases tx with
    | nil => exact absurd h (by rw [show tokF [39] = .bad 110 from rfl]; simp)
    | cons c r =>
      simp only at h
      by_cases hs : isSmall c = true
      · rw [tokF_cons, if_neg (by decide), if_neg (by decide), if_pos rfl, if_pos (by simp [hs])] at h
        obtain ⟨g1, g2, g3, g4, g5⟩ := wordF_ok h
        rw [List.length_cons] at g5
        have hr : runL isPart (c :: r) = (c :: r).length := by omega
        have ha := all_runL hr
        rw [hr, List.take_length] at g1
        rw [List.all_cons, Bool.and_eq_true] at ha
        have : wordB isSmall (c :: r) = true := wordB_iff.2 ⟨hs, by simp at g1; omega, ha.2⟩
        simp [goodB, g4, this]
      · rw [tokF_cons, if_neg (by decide), if_neg (by decide), if_pos rfl, if_neg (by simpa using hs)] at h
        cases h
  rw [spell_other h3 h4] at h
  simp only at h
  cases tx with
  | nil => cases h
  | cons c r =>
    rw [tokF_cons] at h
    by_cases hs : isSmall c = true
    · rw [if_pos hs] at h
      obtain ⟨g1, g2, g3, g4, g5⟩ := wordF_ok h
      rw [List.length_cons] at g5
      have hr : runL isPart r = r.length := by omega
      have ha := all_runL hr
      rw [hr, List.take_length] at g1 g2
      have : wordB isSmall (c :: r) = true := wordB_iff.2 ⟨hs, by simp at g1; omega, ha⟩
      by_cases hk : isKey (c :: r) = true
      · rw [if_pos ⟨rfl, hk⟩] at g2
        simp [goodB, g4, g2, hk]
      · rw [if_neg (fun h => hk h.2)] at g2
        simp [goodB, g4, g2, this, hk]
    rw [if_neg hs] at h
    by_cases hg : isGreat c = true
    · rw [if_pos hg] at h
      obtain ⟨g1, g2, g3, g4, g5⟩ := wordF_ok h
      rw [List.length_cons] at g5
      have hr : runL isPart r = r.length := by omega
      have ha := all_runL hr
      rw [hr, List.take_length] at g1
      have : wordB isGreat (c :: r) = true := wordB_iff.2 ⟨hg, by simp at g1; omega, ha⟩
      rw [if_neg (by omega)] at g2
      simp [goodB, g4, g2, this]
    rw [if_neg hg] at h
    by_cases hq : c = 39
    · rw [if_pos hq] at h
      by_cases h5 : (r.head?.map isSmall).getD false = true
      · rw [if_pos h5] at h
        obtain ⟨g1, g2, g3, g4, g5⟩ := wordF_ok h
        rw [if_neg (by omega)] at g2
        exact absurd g2 h3
      · rw [if_neg h5] at h; cases h
    rw [if_neg hq] at h
    by_cases ht : c = 126
    · rw [if_pos ht] at h
      exact absurd (numF_ok h) h4
    rw [if_neg ht] at h
    by_cases hd : isDig c = true
    · rw [if_pos hd] at h
      exact absurd (numF_ok h) h4
    rw [if_neg hd] at h
    obtain ⟨g1, g2, g3⟩ := signF_ok h
    have := List.contains_iff_mem.2 g3
    subst g1 g2
    simp only [goodB]
    rw [this]
    rfl
theorem good_iff (t : Tok) : goodF decDigits t ↔ goodB t = true := ⟨good_back, good_of⟩
end Lx
end Go.Proofs.YtngbaghkjaibeaaDoor
