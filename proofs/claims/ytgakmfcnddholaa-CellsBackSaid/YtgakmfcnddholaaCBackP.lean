/-
  PLAIN LAWS: what was put is read as it was; put elsewhere it is as long, and its integers' words are the same.
-/
import Derived.Test.YtgakmfcnddholaaCReadA
import Derived.Test.YtgakmfcnddholaaCRWords
namespace Go.Proofs.Ytgakmfcnddholaa
open Go.RowKit

/-- A word, put so many places further. -/
def mv (a : Nat) (x : Int) : Int := if x % 2 = 1 then x else x + 4 * a
theorem intW_odd (n : Int) : intW n % 2 = 1 ∧ 0 ≤ intW n ∧ intW n < 4294967296 := by unfold intW; omega
mutual
theorem putT_mv (a : Nat) : ∀ (t : Tr) (p : Nat), (putT t (p + a)).1 = (putT t p).1.map (mv a) ∧ (putT t (p + a)).2.1 = mv a (putT t p).2.1 ∧ (putT t (p + a)).2.2 = (putT t p).2.2 + a
  | .mk b n us, p => by
    obtain ⟨h1, h2, h3⟩ := putL_mv a us p
    cases b with
    | true =>
      rw [putT_int, putT_int]
      exact ⟨rfl, by unfold mv; rw [if_pos (intW_odd n).1], rfl⟩
    | false =>
      rw [putT_node, putT_node]
      refine ⟨?_, ?_, ?_⟩
      · simp only [List.map_append, List.map_cons]
        rw [h1, h2, show mv a (512 * n + 2 * (us.length : Int) + 1) = 512 * n + 2 * (us.length : Int) + 1 from by unfold mv; rw [if_pos (by omega)]]
      · dsimp only
        rw [h3]
        unfold mv
        rw [if_neg (by omega)]
        omega
      · dsimp only
        rw [h3]
        omega
theorem putL_mv (a : Nat) : ∀ (us : List Tr) (p : Nat), (putL us (p + a)).1 = (putL us p).1.map (mv a) ∧ (putL us (p + a)).2.1 = (putL us p).2.1.map (mv a) ∧ (putL us (p + a)).2.2 = (putL us p).2.2 + a
  | [], p => by rw [putL_nil, putL_nil]; exact ⟨rfl, rfl, rfl⟩
  | t :: ts, p => by
    obtain ⟨h1, h2, h3⟩ := putT_mv a t p
    obtain ⟨h4, h5, h6⟩ := putL_mv a ts (putT t p).2.2
    rw [putL_cons, putL_cons]
    dsimp only
    rw [h3, h1, h2, h4, h5, h6]
    simp
end
mutual
theorem nodes_words : ∀ (t : Tr) (p d : Nat), mayB t d = true → nodes t ≤ 1 + (putT t p).1.length
  | .mk b n us, p, d, h => by
    cases b with
    | true =>
      rw [mayB_int] at h
      simp only [Bool.and_eq_true, List.isEmpty_iff] at h
      rw [h.2.2, nodes, nodesL]
      omega
    | false =>
      rw [mayB_node] at h
      simp only [Bool.and_eq_true] at h
      have := nodesL_words us p (d + 1) h.2.2
      have := putL_length us p
      rw [putT_node, nodes]
      simp
      omega
theorem nodesL_words : ∀ (us : List Tr) (p d : Nat), mayL us d = true → nodesL us ≤ us.length + (putL us p).1.length
  | [], p, d, _ => by rw [nodesL]; omega
  | t :: ts, p, d, h => by
    rw [mayL, Bool.and_eq_true] at h
    have h1 := nodes_words t p d h.1
    have h2 := nodesL_words ts (putT t p).2.2 d h.2
    rw [putL_cons, nodesL]
    simp
    omega
end
mutual
theorem putT_nn : ∀ (t : Tr) (p d : Nat), mayB t d = true → (∀ x ∈ (putT t p).1, 0 ≤ x) ∧ 0 ≤ (putT t p).2.1
  | .mk b n us, p, d, h => by
    cases b with
    | true => rw [putT_int]; exact ⟨fun x hx => (by cases hx), (intW_odd n).2.1⟩
    | false =>
      rw [mayB_node] at h
      simp only [Bool.and_eq_true, decide_eq_true_eq] at h
      obtain ⟨h1, h2⟩ := putL_nn us p (d + 1) h.2.2
      rw [putT_node]
      refine ⟨fun x hx => ?_, by dsimp only; omega⟩
      rcases List.mem_append.1 hx with hx | hx
      · exact h1 x hx
      · rcases List.mem_cons.1 hx with rfl | hx
        · have := h.2.1.1
          omega
        · exact h2 x hx
theorem putL_nn : ∀ (us : List Tr) (p d : Nat), mayL us d = true → (∀ x ∈ (putL us p).1, 0 ≤ x) ∧ (∀ x ∈ (putL us p).2.1, 0 ≤ x)
  | [], p, d, _ => by rw [putL_nil]; exact ⟨fun x hx => (by cases hx), fun x hx => (by cases hx)⟩
  | t :: ts, p, d, h => by
    rw [mayL, Bool.and_eq_true] at h
    obtain ⟨h1, h2⟩ := putT_nn t p d h.1
    obtain ⟨h3, h4⟩ := putL_nn ts (putT t p).2.2 d h.2
    rw [putL_cons]
    refine ⟨fun x hx => ?_, fun x hx => ?_⟩
    · rcases List.mem_append.1 hx with hx | hx
      · exact h1 x hx
      · exact h3 x hx
    · rcases List.mem_cons.1 hx with rfl | hx
      · exact h2
      · exact h4 x hx
end
/-- The words xs lie in ws from place p on. -/
def Sits (ws : List Int) (p : Nat) (xs : List Int) : Prop := ∃ r, ws.drop p = xs ++ r
theorem Sits.left {ws : List Int} {p : Nat} {xs ys : List Int} (h : Sits ws p (xs ++ ys)) : Sits ws p xs := by
  obtain ⟨r, h⟩ := h
  exact ⟨ys ++ r, by rw [h, List.append_assoc]⟩
theorem Sits.right {ws : List Int} {p : Nat} {xs ys : List Int} (h : Sits ws p (xs ++ ys)) : Sits ws (p + xs.length) ys := by
  obtain ⟨r, h⟩ := h
  refine ⟨r, ?_⟩
  rw [← List.drop_drop, h, List.append_assoc, List.drop_left]
theorem Sits.len {ws : List Int} {p : Nat} {xs : List Int} (h : Sits ws p xs) (hx : xs ≠ []) : p + xs.length ≤ ws.length := by
  obtain ⟨r, h⟩ := h
  have h1 := congrArg List.length h
  rw [List.length_drop, List.length_append] at h1
  have : xs.length ≠ 0 := fun e => hx (List.length_eq_zero_iff.1 e)
  omega
theorem Sits.head {ws : List Int} {p : Nat} {x : Int} {xs : List Int} (h : Sits ws p (x :: xs)) : p + xs.length < ws.length ∧ gw ws p = x ∧ (ws.drop (p + 1)).take xs.length = xs := by
  have hl := h.len (by simp)
  obtain ⟨r, h⟩ := h
  rw [List.length_cons] at hl
  refine ⟨by omega, ?_, ?_⟩
  · have h1 : (ws.drop p)[0]? = some x := by rw [h]; rfl
    rw [List.getElem?_drop] at h1
    rw [gw_get? (by omega)] at h1
    simpa using h1
  · rw [← List.drop_drop, h]
    simp
theorem toN_intW {n : Int} (h : in31 n = true) : toN (intW n) = n := by
  unfold in31 at h
  rw [decide_eq_true_eq] at h
  unfold toN intW
  rw [w31_id n (by omega)]
  omega
mutual
theorem read_put (ws : List Int) : ∀ (t : Tr) (p k d : Nat) (l : Int), mayB t d = true → k + d = 257 → Sits ws p (putT t p).1 → (putT t p).2.2 ≤ 262144 → readF ws k (putT t p).2.1 l = if l < nodes t then none else some (t, l - nodes t)
  | .mk b n us, p, k, d, l, hm, hk, hs, hp => by
    cases b with
    | true =>
      rw [mayB_int] at hm
      simp only [Bool.and_eq_true, List.isEmpty_iff, decide_eq_true_eq] at hm
      obtain ⟨hd, h31, rfl⟩ := hm
      obtain ⟨k, rfl⟩ : ∃ j, k = j + 1 := ⟨k - 1, by omega⟩
      rw [putT_int, readF, nodes, nodesL]
      dsimp only
      have ho := intW_odd n
      have hi : IntOk (intW n) := ⟨ho.2.1, ho.2.2, ho.1⟩
      rw [if_pos hi, toN_intW h31]
      by_cases h : l - 1 < 0
      · rw [if_pos h, if_pos (by omega)]
      · rw [if_neg h, if_neg (by omega)]
        rfl
    | false =>
      rw [mayB_node] at hm
      simp only [Bool.and_eq_true, decide_eq_true_eq] at hm
      obtain ⟨hd, ⟨h0, h32, h8⟩, hml⟩ := hm
      obtain ⟨k, rfl⟩ : ∃ j, k = j + 1 := ⟨k - 1, by omega⟩
      have hlen := putL_len us p
      have hll := putL_length us p
      rw [putT_node] at hs hp ⊢
      dsimp only at hs hp ⊢
      have hs1 := hs.left
      have hs2 := hs.right
      rw [← hlen] at hs2
      obtain ⟨g1, g2, g3⟩ := hs2.head
      rw [hll] at g1 g3
      have hpl : plN (1024 + 4 * ((putL us p).2.2 : Int)) = (putL us p).2.2 := by unfold plN; omega
      have hT : (ofT (512 * n + 2 * (us.length : Int) + 1) : Int) = n := by unfold ofT; omega
      have hT' : ofT (512 * n + 2 * (us.length : Int) + 1) < 32 := by omega
      have hS : ofS (512 * n + 2 * (us.length : Int) + 1) = us.length := by unfold ofS; omega
      have hO : OfOk (512 * n + 2 * (us.length : Int) + 1) := by unfold OfOk; omega
      have hob : ObjOk ws (1024 + 4 * ((putL us p).2.2 : Int)) := by
        unfold ObjOk PlOk
        rw [hpl, g2, hS]
        exact ⟨⟨by omega, by omega⟩, hO, hT', h8, by omega⟩
      rw [readF, nodes]
      by_cases h : l - 1 < 0
      · rw [if_pos h, if_pos (by omega)]
      · rw [if_neg h, if_neg (by unfold IntOk; omega), if_pos hob, hpl, g2, hS, g3, readL_put ws us p k (d + 1) (l - 1) hml (by omega) hs1 (by omega) (by omega)]
        by_cases h2 : l - 1 < nodesL us
        · rw [if_pos h2, if_pos (by omega)]
        · rw [if_neg h2, if_neg (by omega)]
          dsimp only
          rw [hT, show l - 1 - (nodesL us : Int) = l - ((1 + nodesL us : Nat) : Int) from by omega]
theorem readL_put (ws : List Int) : ∀ (us : List Tr) (p k d : Nat) (l : Int), mayL us d = true → k + d = 257 → Sits ws p (putL us p).1 → (putL us p).2.2 ≤ 262144 → 0 ≤ l → kidsF (readF ws k) (putL us p).2.1 l = if l < nodesL us then none else some (us, l - nodesL us)
  | [], p, k, d, l, hm, hk, hs, hp, hl => by
    rw [putL_nil, kidsF, nodesL, if_neg (by omega)]
    simp
  | t :: ts, p, k, d, l, hm, hk, hs, hp, hl => by
    rw [mayL, Bool.and_eq_true] at hm
    rw [putL_cons] at hs hp ⊢
    dsimp only at hs hp ⊢
    have e1 := putT_len t p
    have e2 := putL_len ts (putT t p).2.2
    have hs2 := hs.right
    rw [← e1] at hs2
    rw [kidsF, read_put ws t p k d l hm.1 hk hs.left (by omega), nodesL]
    by_cases h : l < nodes t
    · rw [if_pos h, if_pos (by omega)]
    · rw [if_neg h]
      dsimp only
      rw [readL_put ws ts (putT t p).2.2 k d (l - nodes t) hm.2 hk hs2 hp (by omega)]
      by_cases h2 : l - nodes t < nodesL ts
      · rw [if_pos h2, if_pos (by omega)]
      · rw [if_neg h2, if_neg (by omega)]
        dsimp only
        rw [show l - (nodes t : Int) - (nodesL ts : Int) = l - ((nodes t + nodesL ts : Nat) : Int) from by omega]
end
theorem valR_put {t : Tr} (hm : mayB t 1 = true) (hp : (putT t 0).2.2 ≤ 262144) : valR (putT t 0).1 (putT t 0).2.1 = if 2048 < nodes t then none else some t := by
  unfold valR
  rw [read_put (putT t 0).1 t 0 256 1 2048 hm rfl ⟨[], by simp⟩ hp]
  by_cases h : 2048 < nodes t
  · rw [if_pos h, if_pos (by omega)]; rfl
  · rw [if_neg h, if_neg (by omega)]; rfl
end Go.Proofs.Ytgakmfcnddholaa
