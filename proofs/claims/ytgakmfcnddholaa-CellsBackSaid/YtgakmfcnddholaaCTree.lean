/-
  VALUES IN MEMORY, BY THEIR FOOTPRINT; A HANDED-IN VALUE IS A TREE; append onto a row of whatever elements.
-/
import Derived.Test.YtgakmfcnddholaaCMay
import Derived.Deep.Strs
import Derived.Test.YtgakmfcnddholaaPost
namespace Go.Proofs.Ytgakmfcnddholaa
open Go.ChangeShapes Go.WideShapes Go.ChangeAt Go.RowKit

mutual
/-- A value that reads as a tree, its rows in blocks of S. -/
def VAtS (w : World) (S : Nat → Prop) : Tr → Value → Prop
  | .mk b n us, v => (∃ A c, v = .agg #[.bool b, .int .i64 n, .slice A us.length c] ∧ us.length ≤ c ∧ c ≤ maxLen ∧ (A = none → us = [] ∧ c = 0) ∧ RowS w S us A 0) ∧ (Lit.int .i64 n).wf = true
def RowS (w : World) (S : Nat → Prop) : List Tr → Option Addr → Nat → Prop
  | [], _, _ => True
  | t :: ts, A, i => (∃ ad v0 v1 v2, A = some ad ∧ S ad.block ∧ w.cell? (ad.add (i * 3)) = some v0 ∧ w.cell? ⟨(ad.add (i * 3)).block, (ad.add (i * 3)).off + 1, none⟩ = some v1 ∧ w.cell? ⟨(ad.add (i * 3)).block, (ad.add (i * 3)).off + 2, none⟩ = some v2 ∧ VAtS w S t (.agg #[v0, v1, v2])) ∧ RowS w S ts A (i + 1)
end
theorem add_block (ad : Addr) (k : Nat) : (ad.add k).block = ad.block := by unfold Addr.add; split <;> rfl
mutual
theorem VAtS.keep {w w' : World} {S T : Nat → Prop} (h : ∀ k, S k → w'.heap[k]? = w.heap[k]?) (hT : ∀ k, S k → k < w.heap.size → T k) : ∀ (t : Tr) (v : Value), VAtS w S t v → VAtS w' T t v
  | .mk b n us, v, hv => by
    rw [VAtS] at hv ⊢
    obtain ⟨⟨A, c, h1, h2, h3, h4, h5⟩, h6⟩ := hv
    exact ⟨⟨A, c, h1, h2, h3, h4, RowS.keep h hT us A 0 h5⟩, h6⟩
theorem RowS.keep {w w' : World} {S T : Nat → Prop} (h : ∀ k, S k → w'.heap[k]? = w.heap[k]?) (hT : ∀ k, S k → k < w.heap.size → T k) : ∀ (ts : List Tr) (A : Option Addr) (i : Nat), RowS w S ts A i → RowS w' T ts A i
  | [], _, _, _ => by rw [RowS]; trivial
  | t :: ts, A, i, hv => by
    rw [RowS] at hv ⊢
    obtain ⟨⟨ad, v0, v1, v2, h1, h2, h3, h4, h5, h6⟩, h7⟩ := hv
    have e : ∀ a : Addr, S a.block → w'.cell? a = w.cell? a := fun a ha => World.cell?_of_block (w := w) (h _ ha)
    have eb := add_block ad (i * 3)
    have hlt : ad.block < w.heap.size := by
      have := h3
      unfold World.cell? at this
      rw [eb] at this
      rcases Nat.lt_or_ge ad.block w.heap.size with hl | hl
      · exact hl
      · rw [Array.getElem?_eq_none hl] at this; cases this
    exact ⟨⟨ad, v0, v1, v2, h1, hT _ h2 hlt, (e _ (by rw [eb]; exact h2)).trans h3, (e _ (by dsimp only; rw [eb]; exact h2)).trans h4, (e _ (by dsimp only; rw [eb]; exact h2)).trans h5, VAtS.keep h hT t _ h6⟩, RowS.keep h hT ts A (i + 1) h7⟩
end
mutual
theorem VAtS.toB {w : World} {B : Nat} : ∀ (t : Tr) (v : Value), VAtS w (fun b => b < B) t v → VAt w B t v
  | .mk b n us, v, hv => by
    rw [VAtS] at hv
    rw [VAt]
    obtain ⟨⟨A, c, h1, h2, h3, h4, h5⟩, h6⟩ := hv
    exact ⟨⟨A, c, h1, h2, h3, h4, RowS.toB us A 0 h5⟩, h6⟩
theorem RowS.toB {w : World} {B : Nat} : ∀ (ts : List Tr) (A : Option Addr) (i : Nat), RowS w (fun b => b < B) ts A i → RowV w B ts A i
  | [], _, _, _ => by rw [RowV]; trivial
  | t :: ts, A, i, hv => by
    rw [RowS] at hv
    rw [RowV]
    obtain ⟨⟨ad, v0, v1, v2, h1, h2, h3, h4, h5, h6⟩, h7⟩ := hv
    exact ⟨⟨ad, v0, v1, v2, h1, h2, h3, h4, h5, VAtS.toB t _ h6⟩, RowS.toB ts A (i + 1) h7⟩
end
/-- A row of trees, out of its elements. -/
theorem RowS.mk {w : World} {S : Nat → Prop} {ad : Addr} (hS : S ad.block) : ∀ (ts : List Tr) (i : Nat) (_ : ∀ k, (hk : k < ts.length) → ∃ v0 v1 v2, w.cell? (ad.add ((i + k) * 3)) = some v0 ∧ w.cell? ⟨(ad.add ((i + k) * 3)).block, (ad.add ((i + k) * 3)).off + 1, none⟩ = some v1 ∧ w.cell? ⟨(ad.add ((i + k) * 3)).block, (ad.add ((i + k) * 3)).off + 2, none⟩ = some v2 ∧ VAtS w S ts[k] (.agg #[v0, v1, v2])), RowS w S ts (some ad) i
  | [], _, _ => by rw [RowS]; trivial
  | t :: ts, i, h => by
    rw [RowS]
    refine ⟨?_, RowS.mk hS ts (i + 1) (fun k hk => ?_)⟩
    · obtain ⟨v0, v1, v2, h1⟩ := h 0 (by simp)
      exact ⟨ad, v0, v1, v2, rfl, hS, h1⟩
    · have := h (k + 1) (by simpa using hk)
      rw [show i + (k + 1) = i + 1 + k from by omega] at this
      simpa using this
/-- Addresses within a row of three cells each. -/
theorem add_three (ad : Addr) (h0 : ad.spot = none) (i j : Nat) : (⟨(ad.add (i * 3)).block, (ad.add (i * 3)).off + j, none⟩ : Addr) = ad.add (i * 3 + j) := by
  obtain ⟨b, o, s⟩ := ad
  simp only at h0
  subst h0
  unfold Addr.add
  split <;> split <;> simp <;> omega
theorem add_three' (ad : Addr) (i j : Nat) (hj : 0 < j) : (⟨(ad.add (i * 3)).block, (ad.add (i * 3)).off + j, none⟩ : Addr) = ad.add (i * 3 + j) := by
  obtain ⟨b, o, s⟩ := ad
  unfold Addr.add
  rw [if_neg (show ¬ i * 3 + j = 0 by omega)]
  split
  · simp
  · simp; omega

theorem trod_struct3F {H : Type} {enc : TypeId × Value → H} {P : Program} {w : World} {base : Nat} {spare : Nat → Bool} {held : Bool} {t : TypeId} {f0 f1 f2 : Field} {fuel : Nat} {cs : List Value} {x : DataW H × List MemPlace} (ht : P.underlying t = some (.struct #[f0, f1, f2])) (h : DataW.trod enc P w base spare held fuel t cs = some x) :
    ∃ y0 y1 y2 n, fuel = n + 1 ∧ x = (.agg [y0.1, y1.1, y2.1], y0.2 ++ (y1.2 ++ y2.2)) ∧ cs.length = P.cellsOf t ∧ DataW.trod enc P w base spare held n f0.type ((cs.drop f0.offset).take (P.cellsOf f0.type)) = some y0 ∧
      DataW.trod enc P w base spare held n f1.type ((cs.drop f1.offset).take (P.cellsOf f1.type)) = some y1 ∧ DataW.trod enc P w base spare held n f2.type ((cs.drop f2.offset).take (P.cellsOf f2.type)) = some y2 := by
  obtain ⟨xs, n, hn, rfl, hl, hlen, hf⟩ := DataW.trod_struct ht h
  match xs, hlen with
  | [y0, y1, y2], _ => exact ⟨y0, y1, y2, n, hn, by simp, hl, by simpa using hf 0 f0 rfl, by simpa using hf 1 f1 rfl, by simpa using hf 2 f2 rfl⟩
instance : Inhabited Tr := ⟨.mk false 0 []⟩
/-- A handed-in value is a tree. -/
theorem val_of_trod {H : Type} {enc : TypeId × Value → H} {W : World} {B base : Nat} {sp : Nat → Bool} {hd : Bool} : ∀ {fuel : Nat} {cs : List Value} {x : DataW H × List MemPlace}
    (_ : DataW.trod enc Try.prog W base sp hd fuel 33 cs = some x) (_ : ∀ p ∈ x.2, p.block < B), ∃ t c0 c1 c2, cs = [c0, c1, c2] ∧ VAtS W (fun b => b < B) t (.agg #[c0, c1, c2]) := by
  have hc : Try.prog.cellsOf 33 = 3 := by kernel_rfl
  have hci : Try.prog.cellsOf 3 = 1 := by kernel_rfl
  have hcb : Try.prog.cellsOf 4 = 1 := by kernel_rfl
  have hcs : Try.prog.cellsOf 31 = 1 := by kernel_rfl
  intro fuel
  induction fuel using Nat.strongRecOn with
  | _ fuel ih =>
  intro cs x h hlt
  obtain ⟨y0, y1, y2, n, rfl, rfl, hl, h0, h1, h2⟩ := trod_struct3F Try.underlying33 h
  rw [hc] at hl
  match cs, hl with
  | [c0, c1, c2], _ =>
  simp only [hci, hcs, hcb, List.drop_zero, List.drop_succ_cons, List.take_succ_cons, List.take_zero] at h0 h1 h2
  obtain ⟨b, e0, _⟩ := DataW.trod_bool Try.underlying4 h0
  obtain ⟨k, e1, _, hk⟩ := DataW.trod_int Try.underlying3 h1
  simp only [List.cons.injEq, and_true] at e0 e1
  subst e0 e1
  have hlt2 : ∀ p ∈ y2.2, p.block < B := fun p hp => hlt p (by simp [hp])
  rcases DataW.trod_slice Try.underlying31 h2 with ⟨e2, _⟩ | ⟨a, len, cap, elems, rest, m, rfl, e2, hx, hb, hlc, hcm, hel, he, _, _⟩
  · simp only [List.cons.injEq, and_true] at e2
    subst e2
    refine ⟨.mk b k [], _, _, _, rfl, ?_⟩
    rw [VAtS]
    exact ⟨⟨none, 0, rfl, Nat.le_refl _, Nat.zero_le _, fun _ => ⟨rfl, rfl⟩, by rw [RowS]; trivial⟩, hk⟩
  · simp only [List.cons.injEq, and_true] at e2
    subst e2
    have hE : ∀ i, i < len → ∃ (t : Tr) (v0 v1 v2 : Value), W.cell? (a.add (i * 3)) = some v0 ∧ W.cell? ⟨(a.add (i * 3)).block, (a.add (i * 3)).off + 1, none⟩ = some v1 ∧ W.cell? ⟨(a.add (i * 3)).block, (a.add (i * 3)).off + 2, none⟩ = some v2 ∧ VAtS W (fun b => b < B) t (.agg #[v0, v1, v2]) := by
      intro i hi
      have h3 := he i hi
      rw [hc] at h3
      have hi2 : i < elems.length := by omega
      rw [List.getElem?_eq_getElem hi2] at h3
      cases hcell : W.cells? base (a.add (i * 3)) 3 with
      | none => rw [hcell] at h3; simp at h3
      | some cs =>
        rw [hcell] at h3
        simp only [Option.bind_some] at h3
        obtain ⟨t, d0, d1, d2, rfl, ht⟩ := ih m (by omega) h3 (fun p hp => hlt2 p (by rw [hx]; exact List.mem_append_right _ (List.mem_flatMap.2 ⟨_, List.mem_append_left _ (List.getElem_mem hi2), hp⟩)))
        obtain ⟨_, _, hg⟩ := World.cells?_some hcell
        have g0 := hg 0 (by omega)
        have g1 := hg 1 (by omega)
        have g2 := hg 2 (by omega)
        have e0 : (a.add (i * 3)).add 0 = a.add (i * 3) := by unfold Addr.add; simp
        have e1 : (a.add (i * 3)).add 1 = ⟨(a.add (i * 3)).block, (a.add (i * 3)).off + 1, none⟩ := by generalize a.add (i * 3) = q; unfold Addr.add; simp
        have e2 : (a.add (i * 3)).add 2 = ⟨(a.add (i * 3)).block, (a.add (i * 3)).off + 2, none⟩ := by generalize a.add (i * 3) = q; unfold Addr.add; simp
        rw [e0] at g0
        rw [e1] at g1
        rw [e2] at g2
        exact ⟨t, d0, d1, d2, g0, g1, g2, ht⟩
    obtain ⟨f, hf2⟩ := Deep.choose_lt hE
    refine ⟨.mk b k ((List.range len).map f), _, _, _, rfl, ?_⟩
    rw [VAtS]
    refine ⟨⟨some a, cap, by simp, by simpa using hlc, hcm, fun h => (by cases h), ?_⟩, hk⟩
    by_cases hlen0 : len = 0
    · subst hlen0
      simp only [List.range_zero, List.map_nil]
      rw [RowS]; trivial
    · refine RowS.mk ?_ _ 0 (fun k hk => ?_)
      · have : MemPlace.cell a.block (a.off + 0) ∈ y2.2 := by
          rw [hx]
          refine List.mem_append_left _ (List.mem_map.2 ⟨0, ?_, rfl⟩)
          rw [hc]
          simp
          omega
        exact hlt2 _ this
      · have hk2 : k < len := by simpa using hk
        obtain ⟨v0, v1, v2, q0, q1, q2, q3⟩ := hf2 k hk2
        rw [Nat.zero_add]
        exact ⟨v0, v1, v2, q0, q1, q2, by simpa using q3⟩
theorem open_val {H : Type} {enc : TypeId × Value → H} {W : World} {B b0 b1 : Nat} {sp : Nat → Bool} {hd : Bool} {v : Value} {d : DataW H} {ps : List MemPlace} (hval : Value.okWide Try.prog W .any b1 33 v) (h : DataW.Trod enc Try.prog W b0 sp hd 33 v d ps) (hlt : ∀ p ∈ ps, p.block < B) :
    ∃ t, VAt W B t v := by
  obtain ⟨cs, rfl, hsz⟩ := okWide_struct Try.underlying33 hval
  obtain ⟨fuel, hf⟩ := h
  obtain ⟨t, c0, c1, c2, e, ht⟩ := val_of_trod hf hlt
  dsimp only [Value.cells] at e
  refine ⟨t, ?_⟩
  have : cs = #[c0, c1, c2] := by apply Array.ext'; simpa using e
  rw [this]
  exact ht.toB
end Go.Proofs.Ytgakmfcnddholaa
