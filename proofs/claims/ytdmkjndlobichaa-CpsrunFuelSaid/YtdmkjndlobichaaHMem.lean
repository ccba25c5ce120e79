/-
  ROWS OF INTEGERS THAT ARE READ.
-/
import Derived.Test.YtdmkjndlobichaaRows
import Derived.Test.YtdmkjndlobichaaHPlain
import Derived.Test.YtdmkjndlobichaaMem
import Derived.Deep.Slices
import Derived.OpenShut
import Derived.Laws.AppendOwnNone
import Derived.Laws.OwnMore
import Derived.Deep.OwnRows
namespace Go.Proofs.Ytdmkjndlobichaa
open Go.ChangeShapes Go.WideShapes Go.ChangeAt Go.RowKit

/-- An element of a row, as the walk sees it. -/
def gw (xs : List Int) (i : Nat) : Int := xs.getD i 0
theorem gw_get {xs : List Int} {i : Nat} (h : i < xs.length) : xs[i] = gw xs i := by simp [gw, List.getD, List.getElem?_eq_getElem h]
theorem gw_get? {xs : List Int} {i : Nat} (h : i < xs.length) : xs[i]? = some (gw xs i) := by rw [List.getElem?_eq_getElem h, gw_get h]
theorem gw_mem {xs : List Int} {i : Nat} (h : i < xs.length) : gw xs i ∈ xs := by rw [← gw_get h]; exact List.getElem_mem h

/-- A slice's parts: where, how long, with what capacity; all below block B: it reads as these integers. -/
structure Ints (w : World) (B : Nat) (A : Option Addr) (n c : Nat) (xs : List Int) : Prop where
  len : n = xs.length
  cap : n ≤ c
  max : c ≤ maxLen
  wf : ∀ x ∈ xs, (Lit.int .i64 x).wf = true
  nil : A = none → n = 0 ∧ c = 0
  at_ : n = 0 ∨ ∃ ad, A = some ad ∧ ad.block < B ∧ ∀ i, i < n → w.cell? (ad.add i) = some (.int .i64 (gw xs i))

section
variable {w w' : World} {B B' : Nat} {A : Option Addr} {n c : Nat} {xs : List Int}
theorem Ints.keep (h : Ints w B A n c xs) (hB : B ≤ B') (hk : ∀ p : Addr, p.block < B → w'.cell? p = w.cell? p) : Ints w' B' A n c xs := by
  refine ⟨h.len, h.cap, h.max, h.wf, h.nil, ?_⟩
  rcases h.at_ with h0 | ⟨ad, hA, hb, hc⟩
  · exact .inl h0
  · exact .inr ⟨ad, hA, by omega, fun i hi => (hk _ (by rw [show (ad.add i).block = ad.block from by unfold Addr.add; split <;> rfl]; exact hb)).trans (hc i hi)⟩
theorem Ints.below (h : Ints w B A n c xs) (hb : Below B w w') (hB : B ≤ B') : Ints w' B' A n c xs := h.keep hB fun _ hp => hb.cell hp
theorem Ints.small (h : Ints w B A n c xs) : n ≤ 9223372036854775807 := by have := h.cap; have := h.max; unfold maxLen at *; omega
theorem Ints.some_ (h : Ints w B A n c xs) {i : Nat} (hi : i < n) : ∃ ad, A = some ad := by
  rcases h.at_ with h0 | ⟨ad, hA, _⟩
  · omega
  · exact ⟨ad, hA⟩
theorem Ints.cell {ad : Addr} (h : Ints w B (some ad) n c xs) {i : Nat} (hi : i < n) : w.cell? (ad.add i) = some (.int .i64 (gw xs i)) := by
  rcases h.at_ with h0 | ⟨ad', hA, _, hc⟩
  · omega
  · injection hA with hA; subst hA; exact hc i hi
theorem Ints.wf_at (h : Ints w B A n c xs) {i : Nat} (hi : i < n) : (Lit.int .i64 (gw xs i)).wf = true := h.wf _ (gw_mem (by rw [← h.len]; exact hi))
theorem Ints.none_ (w : World) (B : Nat) : Ints w B none 0 0 [] := ⟨rfl, Nat.le_refl _, Nat.zero_le _, by simp, fun _ => ⟨rfl, rfl⟩, .inl rfl⟩
end

/-- A handed-in row of integers. -/
theorem ints_of_trod {H : Type} {enc : TypeId × Value → H} {W : World} {fuel : Nat} {cs : List Value} {x : DataW H × List MemPlace} {B base : Nat} {sp : Nat → Bool} {hd : Bool}
    (h : DataW.trod enc Try.prog W base sp hd fuel 22 cs = some x) (hlt : ∀ p ∈ x.2, p.block < B) : ∃ A n c xs, cs = [.slice A n c] ∧ Ints W B A n c xs := by
  rcases Deep.open_slice1 Try.underlying22 (by kernel_rfl) h with ⟨rfl, rfl⟩ | ⟨a, len, cap, m, n, V, D, Pl, rfl, hb, hl, hm, hmm, rfl, hx⟩
  · exact ⟨none, 0, 0, [], rfl, Ints.none_ _ _⟩
  · have hle : len ≤ m := by rw [hmm]; split <;> omega
    have hV : ∀ i, i < len → ∃ k : Int, W.cell? (a.add i) = some (.int .i64 k) ∧ (Lit.int .i64 k).wf = true := by
      intro i hi
      obtain ⟨h1, h2⟩ := hx i (by omega)
      obtain ⟨k, h3, _, h4⟩ := DataW.trod_int Try.underlying3 h2
      have h5 : V i = .int .i64 k := by simpa using h3
      exact ⟨k, by rw [h1, h5], h4⟩
    obtain ⟨f, hf⟩ := Deep.choose_lt hV
    refine ⟨some a, len, cap, (List.range len).map f, rfl, by simp, hl, hm, ?_, fun h => (by cases h), ?_⟩
    · intro x hx
      obtain ⟨i, hi, rfl⟩ := List.mem_map.1 hx
      exact (hf i (by simpa using hi)).2
    · by_cases h0 : len = 0
      · exact .inl h0
      · refine .inr ⟨a, rfl, hlt (.cell a.block (a.off + 0)) ?_, ?_⟩
        · refine List.mem_append_left _ ?_
          exact List.mem_map.2 ⟨0, by simp; omega, rfl⟩
        · intro i hi
          rw [(hf i hi).1]
          simp [gw, List.getD, hi]

theorem Blk.four {w : World} {g : Nat} {t : TypeId} {a b c d : Value} (h : Blk w g t #[a, b, c, d]) :
    w.cell? ⟨g, 0, none⟩ = some a ∧ w.cell? ⟨g, 1, none⟩ = some b ∧ w.cell? ⟨g, 2, none⟩ = some c ∧ w.cell? ⟨g, 3, none⟩ = some d ∧
    w.frozen? ⟨g, 0, none⟩ = false ∧ w.frozen? ⟨g, 1, none⟩ = false ∧ w.frozen? ⟨g, 2, none⟩ = false ∧ w.frozen? ⟨g, 3, none⟩ = false :=
  ⟨h.cell 0, h.cell 1, h.cell 2, h.cell 3, h.frozen 0, h.frozen 1, h.frozen 2, h.frozen 3⟩
theorem below_then {B : Nat} {w w1 w2 : World} (hb : Below w1.heap.size w1 w2) (h : Below B w w1) (hB : B ≤ w1.heap.size) : Below B w w2 := h.trans (hb.mono hB)
theorem info_int : InfoIs Try.prog 3 (.int .i64 0) 1 8 := by unfold InfoIs; kernel_rfl

/-- A row of integers of the call's own. -/
structure OwnI (w : World) (B : Nat) (v : Value) (xs : List Int) : Prop where
  own : Own w B 3 v (xs.map (.int .i64))
  wf : ∀ x ∈ xs, (Lit.int .i64 x).wf = true
section
variable {w w' : World} {B : Nat} {v : Value} {xs : List Int}
theorem OwnI.nil (w : World) (B : Nat) : OwnI w B (.slice none 0 0) [] := ⟨Own.nil _ _ _, by simp⟩
theorem OwnI.lit0 {g : Nat} (h : g = w.heap.size) (hB : B ≤ g) : OwnI (w.alloc (.cells #[] 3)) B (.slice (some ⟨g, 0, none⟩) 0 0) [] := by
  subst h
  refine ⟨⟨by simp, .inr ⟨w.heap.size, 0, #[], rfl, hB, heap_alloc_new w _, by simp, by simp, by simp, by simp⟩⟩, by simp⟩
theorem OwnI.slice (h : OwnI w B v xs) : ∃ A c, v = .slice A xs.length c ∧ Ints w w.heap.size A xs.length c xs := by
  obtain ⟨⟨h1, h2⟩, hw⟩ := h
  simp only [List.length_map, Nat.mul_one] at h1 h2
  rcases h2 with ⟨rfl, h0⟩ | ⟨g, cap, cur, rfl, hB, hg, hc, hm, hs, ht⟩
  · have : xs = [] := by simpa using h0
    subst this
    exact ⟨none, 0, rfl, Ints.none_ _ _⟩
  · refine ⟨some ⟨g, 0, none⟩, cap, rfl, rfl, hc, hm, hw, fun h => (by cases h), ?_⟩
    have hlt : g < w.heap.size := (Array.getElem?_eq_some_iff.1 hg).1
    refine .inr ⟨⟨g, 0, none⟩, rfl, hlt, ?_⟩
    intro i hi
    have e : cur.toList[i]? = some (.int .i64 (gw xs i)) := by
      have h3 : (cur.toList.take xs.length)[i]? = some (.int .i64 (gw xs i)) := by rw [ht, List.getElem?_map, gw_get? hi]; rfl
      rwa [List.getElem?_take, if_pos hi] at h3
    have hp : (⟨g, 0, none⟩ : Addr).add i = ⟨g, i, none⟩ := by unfold Addr.add; split <;> simp_all
    rw [hp]
    simp only [World.cell?, hg]
    simpa using e
end
theorem OwnI.ints {w : World} {B n c : Nat} {A : Option Addr} {xs : List Int} (h : OwnI w B (.slice A n c) xs) : Ints w w.heap.size A n c xs := by
  obtain ⟨A', c', hv, hi⟩ := h.slice
  injection hv with e1 e2 e3
  subst e1 e2 e3
  exact hi
theorem OwnI.set_ {w : World} {B : Nat} {v : Value} {xs : List Int} (h : OwnI w B v xs) {a : Addr} (ha : a.block < B) (u : Value) : OwnI (w.setCell a u) B v xs := ⟨ownsRow_setCell_below h.own ha u, h.wf⟩
theorem OwnI.alloc {w : World} {B : Nat} {v : Value} {xs : List Int} (h : OwnI w B v xs) (o : Obj) : OwnI (w.alloc o) B v xs := ⟨World.ownsRow.alloc h.own o, h.wf⟩

theorem news_of_ints {w : World} {B : Nat} {ad : Addr} {n c : Nat} {ys : List Int} (h : Ints w B (some ad) n c ys) : ∀ j u, (ys.map (Value.int .i64))[j]? = some u → w.cell? (ad.add j) = some u := by
  intro j u hj
  rw [List.getElem?_map] at hj
  have hlt : j < ys.length := by
    rcases Nat.lt_or_ge j ys.length with h | h
    · exact h
    · rw [List.getElem?_eq_none h] at hj; cases hj
  rw [gw_get? hlt] at hj
  rw [h.cell (by rw [h.len]; exact hlt)]
  simpa using hj

/-- Whatever row of integers behind a row of the call's own. -/
theorem wpList_appI {w : World} {ops : Array Oper} {rest : List Oper} {o : Oper} {a : Act} {Q : Exit → Act → World → Prop} (hgd : o.guard = none) (s x : Operand)
    (ho : o.op = .call { callee := .builtin .append, args := #[s, x], argTypes := #[22, 22] })
    (B : Nat) {v : Value} {xs : List Int} (hs : a.eval s = v) (hown : OwnI w B v xs) {A : Option Addr} {n c Bi : Nat} {ys : List Int} (hx : a.eval x = .slice A n c) (hi : Ints w Bi A n c ys)
    (hlen : xs.length + n ≤ 1000000) (hB : B ≤ w.heap.size)
    (h : ∀ A' c' w', OwnI w' B (.slice A' (xs.length + n) c') (xs ++ ys) → w.grownBy w' v.ownBlock → (∀ B0 w0, B0 ≤ B → Below B0 w0 w → Below B0 w0 w') → wpList Try.prog ops Q rest (a.put o.dst (.slice A' (xs.length + n) c')) w') : wpList Try.prog ops Q (o :: rest) a w := by
  obtain ⟨i, hi1, hz, hs1, hs2⟩ := info_int.parts
  have hwf : ∀ z ∈ xs ++ ys, (Lit.int .i64 z).wf = true := by
    intro z hz
    rcases List.mem_append.1 hz with hz | hz
    · exact hown.wf z hz
    · exact hi.wf z hz
  have hrow : w.ownsRow B 3 1 v xs.length (xs.map (.int .i64)) := by have := hown.own; unfold Own at this; rwa [List.length_map] at this
  cases A with
  | none =>
    obtain ⟨rfl, rfl⟩ := hi.nil rfl
    obtain rfl : ys = [] := List.length_eq_zero_iff.1 hi.len.symm
    obtain ⟨A', c', hv, _⟩ := hown.slice
    subst hv
    refine wpList_append_own_none (P := Try.prog) hgd s x 22 ho B 3 i 1 Try.underlying22 hi1 _ xs.length _ hs hrow hx ?_
    have := h A' c' w (by simpa using hown) ⟨rfl, rfl, rfl, Nat.le_refl _, fun _ _ _ => rfl⟩ (fun _ _ _ hb => hb)
    simpa using this
  | some ad =>
    refine wpList_append_own (P := Try.prog) _ hgd s x 22 ho B 3 i (.int .i64 0) 1 8 Try.underlying22 hi1 hz hs1 hs2 rfl (by omega) v xs.length _ hs hrow ad n c (ys.map (.int .i64)) hx (by simp [hi.len]) (news_of_ints hi) (by simp [Value.oneCell']) (by unfold maxLen; omega) (by omega) hB ?_
    intro v' w' h1 h2 _
    have hO : OwnI w' B v' (xs ++ ys) := ⟨by unfold Own; have := h1; rwa [← List.map_append, show xs.length + n = ((xs ++ ys).map (Value.int .i64)).length from by simp [hi.len]] at this, hwf⟩
    obtain ⟨A', c', hv, _⟩ := hO.slice
    subst hv
    have e : (xs ++ ys).length = xs.length + n := by simp [hi.len]
    rw [e] at hO ⊢
    exact h A' c' w' hO h2 (fun B0 w0 hle hb => hb.grown h2 (Nat.le_trans hle hB) fun k hk => Nat.le_trans hle (hrow.lt k hk).1)

/-- A block of integers, whole. -/
def cellsOf (xs : List Int) : Array Value := (xs.map (Value.int .i64)).toArray
theorem cellsOf_size (xs : List Int) : (cellsOf xs).size = xs.length := by simp [cellsOf]
theorem cellsOf_get (xs : List Int) {i : Nat} (h : i < xs.length) : (cellsOf xs)[i]? = some (.int .i64 (gw xs i)) := by
  simp only [cellsOf, List.getElem?_toArray, List.getElem?_map, gw_get? h, Option.map_some]
theorem cellsOf_set (xs : List Int) (i : Nat) (k : Int) : (cellsOf xs).setIfInBounds i (.int .i64 k) = cellsOf (xs.set i k) := by
  simp only [cellsOf, List.setIfInBounds_toArray, List.map_set]
theorem ints_of_blk {w : World} {g B : Nat} {xs : List Int} (h : Blk w g 3 (cellsOf xs)) (hB : g < B) (hm : xs.length ≤ 1000000) (hw : ∀ x ∈ xs, (Lit.int .i64 x).wf = true) : Ints w B (some ⟨g, 0, none⟩) xs.length xs.length xs := by
  refine ⟨rfl, Nat.le_refl _, by unfold maxLen; omega, hw, fun h => (by cases h), .inr ⟨_, rfl, hB, ?_⟩⟩
  intro i hi
  have hp : (⟨g, 0, none⟩ : Addr).add i = ⟨g, i, none⟩ := by unfold Addr.add; split <;> simp_all
  rw [hp, h.cell, cellsOf_get xs hi]
def zeros (k : Nat) : List Int := List.replicate k 0
theorem zeros_length (k : Nat) : (zeros k).length = k := by simp [zeros]
theorem zeros_wf (k : Nat) : ∀ x ∈ zeros k, (Lit.int .i64 x).wf = true := by intro x hx; rw [(List.mem_replicate.1 hx).2]; rfl
theorem gw_zeros (k i : Nat) : gw (zeros k) i = 0 := by
  unfold gw zeros
  rcases Nat.lt_or_ge i k with h | h
  · simp [List.getD, h]
  · simp [List.getD, Nat.not_lt.2 h]
theorem made_rep (z : Value) (k : Nat) : madeCells #[z] k = Array.replicate k z := by
  apply Array.ext
  · simp [madeCells]
  · intro j h1 h2
    simp [madeCells, Nat.mod_one]
theorem make_ints (k : Nat) (hk : k ≤ 1000000) (w : World) : (Instr.makeSlice 22 (.int .i64 (k : Int)) (.int .i64 (k : Int))).run Try.prog w = .ok (.slice (some ⟨w.heap.size, 0, none⟩) k k) (w.alloc (.cells (cellsOf (zeros k)) 3)) := by
  have h := run_make_row' 22 3 (.int .i64 0) 8 Try.underlying22 info_int rfl .i64 .i64 k (by omega) (by omega) w
  rw [h, made_rep]
  have e : Array.replicate k (Value.int .i64 0) = cellsOf (zeros k) := by simp [cellsOf, zeros]
  rw [e]
theorem ints_zeros {w : World} {g B k : Nat} (h : Blk w g 3 (cellsOf (zeros k))) (hB : g < B) (hm : k ≤ 1000000) : Ints w B (some ⟨g, 0, none⟩) k k (zeros k) := by
  have := ints_of_blk h hB (by rw [zeros_length]; exact hm) (zeros_wf k)
  rwa [zeros_length] at this
end Go.Proofs.Ytdmkjndlobichaa
