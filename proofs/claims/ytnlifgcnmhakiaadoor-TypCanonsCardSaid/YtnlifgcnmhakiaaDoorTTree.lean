/-
  TYPES IN MEMORY, BY THEIR FOOTPRINT; A HANDED-IN TYPE IS A TREE.
-/
import Derived.Test.YtnlifgcnmhakiaaDoorHMem
import Derived.Lib.SmallJoins
import Derived.Deep.Strs
import Derived.Deep.LoopGhost
import Derived.WalkLawsBesides
import Derived.Deep.DeepMust
namespace Go.Proofs.YtnlifgcnmhakiaaDoor
open Go.ChangeShapes Go.WideShapes Go.ChangeAt Go.RowKit

theorem below_hop {W w w' : World} (h : Below w.heap.size w w') (b : Below W.heap.size W w) : Below W.heap.size W w' := b.trans (h.mono b.size)
theorem below_2 {W w : World} (h : Below W.heap.size W w) (o o2 : Obj) : Below W.heap.size W ((w.alloc o).alloc o2) := (h.alloc h.size o).alloc (by have := h.size; simp; omega) o2
theorem cell_lt {w : World} {a : Addr} {v : Value} (h : w.cell? a = some v) : a.block < w.heap.size := by
  unfold World.cell? at h
  rcases Nat.lt_or_ge a.block w.heap.size with hl | hl
  · exact hl
  · rw [Array.getElem?_eq_none hl] at h; cases h
/-- A type: its kind, its name, its number, its parts. -/
inductive Ty where
  | mk (k : Int) (s : ByteArray) (n : Int) (us : List Ty)
instance : Inhabited Ty := ⟨.mk 0 ⟨#[]⟩ 0 []⟩
mutual
/-- A value that reads as a type, its rows in blocks of S. -/
def TAt (w : World) (S : Nat → Prop) : Ty → Value → Prop
  | .mk k s n us, v => (∃ A c, v = .agg #[.int .i64 k, .string s, .int .i64 n, .slice A us.length c] ∧ us.length ≤ c ∧ c ≤ maxLen ∧ (A = none → us = [] ∧ c = 0) ∧ TRow w S us A 0) ∧ (Lit.int .i64 k).wf = true ∧ (Lit.int .i64 n).wf = true
def TRow (w : World) (S : Nat → Prop) : List Ty → Option Addr → Nat → Prop
  | [], _, _ => True
  | t :: ts, A, i => (∃ ad v0 v1 v2 v3, A = some ad ∧ S ad.block ∧ w.cell? (ad.add (i * 4)) = some v0 ∧ w.cell? ⟨(ad.add (i * 4)).block, (ad.add (i * 4)).off + 1, none⟩ = some v1 ∧ w.cell? ⟨(ad.add (i * 4)).block, (ad.add (i * 4)).off + 2, none⟩ = some v2 ∧
      w.cell? ⟨(ad.add (i * 4)).block, (ad.add (i * 4)).off + 3, none⟩ = some v3 ∧ TAt w S t (.agg #[v0, v1, v2, v3])) ∧ TRow w S ts A (i + 1)
end
theorem add_block (ad : Addr) (k : Nat) : (ad.add k).block = ad.block := by unfold Addr.add; split <;> rfl
mutual
theorem TAt.keep {w w' : World} {S T : Nat → Prop} (h : ∀ k, S k → k < w.heap.size → w'.heap[k]? = w.heap[k]? ∧ T k) : ∀ (t : Ty) (v : Value), TAt w S t v → TAt w' T t v
  | .mk b s n us, v, hv => by
    rw [TAt] at hv ⊢
    obtain ⟨⟨A, c, h1, h2, h3, h4, h5⟩, h6⟩ := hv
    exact ⟨⟨A, c, h1, h2, h3, h4, TRow.keep h us A 0 h5⟩, h6⟩
theorem TRow.keep {w w' : World} {S T : Nat → Prop} (h : ∀ k, S k → k < w.heap.size → w'.heap[k]? = w.heap[k]? ∧ T k) : ∀ (ts : List Ty) (A : Option Addr) (i : Nat), TRow w S ts A i → TRow w' T ts A i
  | [], _, _, _ => by rw [TRow]; trivial
  | t :: ts, A, i, hv => by
    rw [TRow] at hv ⊢
    obtain ⟨⟨ad, v0, v1, v2, v3, h1, h2, h3, h4, h5, h6, h7⟩, h8⟩ := hv
    have eb := add_block ad (i * 4)
    have hlt : ad.block < w.heap.size := by have := cell_lt h3; omega
    have e : ∀ a : Addr, a.block = ad.block → w'.cell? a = w.cell? a := fun a ha => World.cell?_of_block (w := w) (by rw [ha]; exact (h _ h2 hlt).1)
    exact ⟨⟨ad, v0, v1, v2, v3, h1, (h _ h2 hlt).2, (e _ eb).trans h3, (e ⟨(ad.add (i * 4)).block, (ad.add (i * 4)).off + 1, none⟩ eb).trans h4, (e ⟨(ad.add (i * 4)).block, (ad.add (i * 4)).off + 2, none⟩ eb).trans h5, (e ⟨(ad.add (i * 4)).block, (ad.add (i * 4)).off + 3, none⟩ eb).trans h6, TAt.keep h t _ h7⟩, TRow.keep h ts A (i + 1) h8⟩
end
theorem TAt.up {w w' : World} {S : Nat → Prop} {t : Ty} {v : Value} (h : TAt w S t v) (hb : Below w.heap.size w w') : TAt w' S t v := h.keep (fun k hk hl => ⟨hb.block k hl, hk⟩)
theorem TRow.up {w w' : World} {S : Nat → Prop} {ts : List Ty} {A : Option Addr} {i : Nat} (h : TRow w S ts A i) (hb : Below w.heap.size w w') : TRow w' S ts A i := TRow.keep (fun k hk hl => ⟨hb.block k hl, hk⟩) ts A i h
theorem TAt.mono {w : World} {S T : Nat → Prop} {t : Ty} {v : Value} (h : TAt w S t v) (hS : ∀ k, S k → k < w.heap.size → T k) : TAt w T t v := h.keep (fun k hk hl => ⟨rfl, hS k hk hl⟩)
theorem TRow.mono {w : World} {S T : Nat → Prop} {ts : List Ty} {A : Option Addr} {i : Nat} (h : TRow w S ts A i) (hS : ∀ k, S k → k < w.heap.size → T k) : TRow w T ts A i := TRow.keep (fun k hk hl => ⟨rfl, hS k hk hl⟩) ts A i h
theorem TAt.all {w : World} {S : Nat → Prop} {t : Ty} {v : Value} (h : TAt w S t v) : TAt w (fun _ => True) t v := h.mono (fun _ _ _ => trivial)
theorem TRow.all {w : World} {S : Nat → Prop} {ts : List Ty} {A : Option Addr} {i : Nat} (h : TRow w S ts A i) : TRow w (fun _ => True) ts A i := h.mono (fun _ _ _ => trivial)
/-- A type's parts. -/
theorem TAt.parts {w : World} {S : Nat → Prop} {k n : Int} {s : ByteArray} {us : List Ty} {v : Value} (h : TAt w S (.mk k s n us) v) :
    ∃ A c, v = .agg #[.int .i64 k, .string s, .int .i64 n, .slice A us.length c] ∧ us.length ≤ c ∧ c ≤ maxLen ∧ (A = none → us = [] ∧ c = 0) ∧ TRow w S us A 0 ∧ (Lit.int .i64 k).wf = true ∧ (Lit.int .i64 n).wf = true := by
  rw [TAt] at h
  obtain ⟨⟨A, c, h1, h2, h3, h4, h5⟩, h6⟩ := h
  exact ⟨A, c, h1, h2, h3, h4, h5, h6⟩
theorem TAt.make {w : World} {S : Nat → Prop} {k n : Int} {s : ByteArray} {us : List Ty} {A : Option Addr} {c m : Nat} (hm : m = us.length) (h2 : us.length ≤ c) (h3 : c ≤ maxLen) (h4 : A = none → us = [] ∧ c = 0) (h5 : TRow w S us A 0) (h6 : (Lit.int .i64 k).wf = true) (h7 : (Lit.int .i64 n).wf = true) :
    TAt w S (.mk k s n us) (.agg #[.int .i64 k, .string s, .int .i64 n, .slice A m c]) := by
  subst hm
  rw [TAt]
  exact ⟨⟨A, c, rfl, h2, h3, h4, h5⟩, h6, h7⟩
theorem TAt.agg {w : World} {S : Nat → Prop} {t : Ty} {v : Value} (h : TAt w S t v) : ∃ k s n A m c, v = .agg #[.int .i64 k, .string s, .int .i64 n, .slice A m c] := by
  obtain ⟨k, s, n, us⟩ := t
  obtain ⟨A, c, h1, _⟩ := h.parts
  exact ⟨k, s, n, A, _, c, h1⟩
theorem TAt.agg4 {w : World} {S : Nat → Prop} {t : Ty} {v0 v1 v2 v3 : Value} (h : TAt w S t (.agg #[v0, v1, v2, v3])) : ∃ k s n A m c, v0 = .int .i64 k ∧ v1 = .string s ∧ v2 = .int .i64 n ∧ v3 = .slice A m c := by
  obtain ⟨k, s, n, A, m, c, e⟩ := h.agg
  simp only [Value.agg.injEq, Array.mk.injEq, List.cons.injEq, and_true] at e
  exact ⟨k, s, n, A, m, c, e.1, e.2.1, e.2.2.1, e.2.2.2⟩
theorem TRow.get {w : World} {S : Nat → Prop} : ∀ {ts : List Ty} {A : Option Addr} {i k : Nat} (_ : TRow w S ts A i) (hk : k < ts.length),
    ∃ ad v0 v1 v2 v3, A = some ad ∧ S ad.block ∧ w.cell? (ad.add ((i + k) * 4)) = some v0 ∧ w.cell? ⟨(ad.add ((i + k) * 4)).block, (ad.add ((i + k) * 4)).off + 1, none⟩ = some v1 ∧ w.cell? ⟨(ad.add ((i + k) * 4)).block, (ad.add ((i + k) * 4)).off + 2, none⟩ = some v2 ∧ w.cell? ⟨(ad.add ((i + k) * 4)).block, (ad.add ((i + k) * 4)).off + 3, none⟩ = some v3 ∧ TAt w S ts[k] (.agg #[v0, v1, v2, v3])
  | [], _, _, _, _, hk => by simp at hk
  | t :: ts, A, i, 0, h, _ => by rw [TRow] at h; exact h.1
  | t :: ts, A, i, k + 1, h, hk => by
    rw [TRow] at h
    have := TRow.get (i := i + 1) (k := k) h.2 (by simpa using hk)
    rw [show i + 1 + k = i + (k + 1) from by omega] at this
    simpa using this
/-- An element of a row, with its four cells' values, in a world at hand. -/
theorem TRow.elem {w : World} {S : Nat → Prop} {ts : List Ty} {A : Option Addr} (h : TRow w S ts A 0) {k : Nat} (hk : k < ts.length) :
    ∃ ad q s n A' m c, A = some ad ∧ S ad.block ∧ (ad.add (k * 4)).block = ad.block ∧ w.cell? (ad.add (k * 4)) = some (.int .i64 q) ∧ w.cell? ⟨(ad.add (k * 4)).block, (ad.add (k * 4)).off + 1, none⟩ = some (.string s) ∧ w.cell? ⟨(ad.add (k * 4)).block, (ad.add (k * 4)).off + 2, none⟩ = some (.int .i64 n) ∧
      w.cell? ⟨(ad.add (k * 4)).block, (ad.add (k * 4)).off + 3, none⟩ = some (.slice A' m c) ∧ TAt w S ts[k] (.agg #[.int .i64 q, .string s, .int .i64 n, .slice A' m c]) := by
  obtain ⟨ad, v0, v1, v2, v3, h1, h2, h3, h4, h5, h6, h7⟩ := h.get hk
  rw [Nat.zero_add] at h3 h4 h5 h6
  obtain ⟨q, s, n, A', m, c, rfl, rfl, rfl, rfl⟩ := h7.agg4
  exact ⟨ad, q, s, n, A', m, c, h1, h2, add_block _ _, h3, h4, h5, h6, h7⟩
/-- A row of types, out of its elements. -/
theorem TRow.mk {w : World} {S : Nat → Prop} {ad : Addr} (hS : S ad.block) : ∀ (ts : List Ty) (i : Nat) (_ : ∀ k, (hk : k < ts.length) → ∃ v0 v1 v2 v3, w.cell? (ad.add ((i + k) * 4)) = some v0 ∧ w.cell? ⟨(ad.add ((i + k) * 4)).block, (ad.add ((i + k) * 4)).off + 1, none⟩ = some v1 ∧ w.cell? ⟨(ad.add ((i + k) * 4)).block, (ad.add ((i + k) * 4)).off + 2, none⟩ = some v2 ∧ w.cell? ⟨(ad.add ((i + k) * 4)).block, (ad.add ((i + k) * 4)).off + 3, none⟩ = some v3 ∧ TAt w S ts[k] (.agg #[v0, v1, v2, v3])), TRow w S ts (some ad) i
  | [], _, _ => by rw [TRow]; trivial
  | t :: ts, i, h => by
    rw [TRow]
    refine ⟨?_, TRow.mk hS ts (i + 1) (fun k hk => ?_)⟩
    · obtain ⟨v0, v1, v2, v3, h1⟩ := h 0 (by simp)
      exact ⟨ad, v0, v1, v2, v3, rfl, hS, h1⟩
    · have := h (k + 1) (by simpa using hk)
      rw [show i + (k + 1) = i + 1 + k from by omega] at this
      simpa using this
/-- Addresses within a row of four cells each. -/
theorem add_four (ad : Addr) (i j : Nat) (hj : 0 < j) : (⟨(ad.add (i * 4)).block, (ad.add (i * 4)).off + j, none⟩ : Addr) = ad.add (i * 4 + j) := by
  obtain ⟨b, o, s⟩ := ad
  unfold Addr.add
  rw [if_neg (show ¬ i * 4 + j = 0 by omega)]
  split
  · simp
  · simp; omega
theorem Blk.row1 {w : World} {g : Nat} {S : Nat → Prop} {t : Ty} {v0 v1 v2 v3 : Value} (h : Blk w g 24 #[v0, v1, v2, v3]) (hS : S g) (hv : TAt w S t (.agg #[v0, v1, v2, v3])) : TRow w S [t] (some ⟨g, 0, none⟩) 0 := by
  rw [TRow, TRow]
  exact ⟨⟨_, v0, v1, v2, v3, rfl, hS, h.cell 0, h.cell 1, h.cell 2, h.cell 3, hv⟩, trivial⟩
mutual
def nodes : Ty → Nat
  | .mk _ _ _ us => 1 + nodesL us
def nodesL : List Ty → Nat
  | [] => 0
  | t :: ts => nodes t + nodesL ts
end
theorem nodesL_take {us : List Ty} {i : Nat} (hi : i < us.length) : nodesL (us.take (i + 1)) = nodesL (us.take i) + nodes us[i] := by
  induction us generalizing i with
  | nil => simp at hi
  | cons t ts ih =>
    cases i with
    | zero => simp [nodesL]
    | succ i =>
      simp only [List.take_succ_cons, nodesL, List.getElem_cons_succ]
      rw [ih (by simpa using hi)]
      omega
theorem nodes_pos (t : Ty) : 0 < nodes t := by obtain ⟨k, s, n, us⟩ := t; rw [nodes]; omega
theorem nodes_mem {us : List Ty} {t : Ty} (h : t ∈ us) : nodes t ≤ nodesL us := by
  induction us with
  | nil => cases h
  | cons a us ih =>
    rw [nodesL]
    rcases List.mem_cons.1 h with rfl | h
    · omega
    · have := ih h; omega
theorem length_nodes (us : List Ty) : us.length ≤ nodesL us := by
  induction us with
  | nil => exact Nat.le_refl _
  | cons a us ih => rw [nodesL]; have := nodes_pos a; simp; omega
theorem ty_lt {k n : Int} {s : ByteArray} {us : List Ty} {t : Ty} (h : t ∈ us) : SizeOf.sizeOf t < SizeOf.sizeOf (Ty.mk k s n us) := by
  have := List.sizeOf_lt_of_mem h
  simp; omega
theorem trod_struct4F {H : Type} {enc : TypeId × Value → H} {P : Program} {w : World} {base : Nat} {spare : Nat → Bool} {held : Bool} {t : TypeId} {f0 f1 f2 f3 : Field} {fuel : Nat} {cs : List Value} {x : DataW H × List MemPlace} (ht : P.underlying t = some (.struct #[f0, f1, f2, f3])) (h : DataW.trod enc P w base spare held fuel t cs = some x) :
    ∃ y0 y1 y2 y3 n, fuel = n + 1 ∧ x = (.agg [y0.1, y1.1, y2.1, y3.1], y0.2 ++ (y1.2 ++ (y2.2 ++ y3.2))) ∧ cs.length = P.cellsOf t ∧ DataW.trod enc P w base spare held n f0.type ((cs.drop f0.offset).take (P.cellsOf f0.type)) = some y0 ∧
      DataW.trod enc P w base spare held n f1.type ((cs.drop f1.offset).take (P.cellsOf f1.type)) = some y1 ∧ DataW.trod enc P w base spare held n f2.type ((cs.drop f2.offset).take (P.cellsOf f2.type)) = some y2 ∧ DataW.trod enc P w base spare held n f3.type ((cs.drop f3.offset).take (P.cellsOf f3.type)) = some y3 := by
  obtain ⟨xs, n, hn, rfl, hl, hlen, hf⟩ := DataW.trod_struct ht h
  match xs, hlen with
  | [y0, y1, y2, y3], _ => exact ⟨y0, y1, y2, y3, n, hn, by simp, hl, by simpa using hf 0 f0 rfl, by simpa using hf 1 f1 rfl, by simpa using hf 2 f2 rfl, by simpa using hf 3 f3 rfl⟩
set_option maxRecDepth 100000 in
/-- A handed-in type is a tree. -/
theorem ty_of_trod {H : Type} {enc : TypeId × Value → H} {W : World} {B base : Nat} {sp : Nat → Bool} {hd : Bool} : ∀ {fuel : Nat} {cs : List Value} {x : DataW H × List MemPlace}
    (_ : DataW.trod enc Tryd.prog W base sp hd fuel 24 cs = some x) (_ : ∀ p ∈ x.2, p.block < B), ∃ t c0 c1 c2 c3, cs = [c0, c1, c2, c3] ∧ TAt W (fun b => b < B) t (.agg #[c0, c1, c2, c3]) := by
  have hc : Tryd.prog.cellsOf 24 = 4 := by kernel_rfl
  have hci : Tryd.prog.cellsOf 3 = 1 := by kernel_rfl
  have hcb : Tryd.prog.cellsOf 9 = 1 := by kernel_rfl
  have hcs : Tryd.prog.cellsOf 22 = 1 := by kernel_rfl
  intro fuel
  induction fuel using Nat.strongRecOn with
  | _ fuel ih =>
  intro cs x h hlt
  obtain ⟨y0, y1, y2, y3, n, rfl, rfl, hl, h0, h1, h2, h3⟩ := trod_struct4F Tryd.underlying24 h
  rw [hc] at hl
  match cs, hl with
  | [c0, c1, c2, c3], _ =>
  simp only [hci, hcs, hcb, List.drop_zero, List.drop_succ_cons, List.take_succ_cons, List.take_zero] at h0 h1 h2 h3
  obtain ⟨q, e0, _, hq⟩ := DataW.trod_int Tryd.underlying3 h0
  obtain ⟨s, e1, _, _⟩ := DataW.trod_string Tryd.underlying9 h1
  obtain ⟨k, e3, _, hk⟩ := DataW.trod_int Tryd.underlying3 h2
  simp only [List.cons.injEq, and_true] at e0 e1 e3
  subst e0 e1 e3
  have hlt2 : ∀ p ∈ y3.2, p.block < B := fun p hp => hlt p (by simp [hp])
  rcases DataW.trod_slice Tryd.underlying22 h3 with ⟨e2, _⟩ | ⟨a, len, cap, elems, rest, m, rfl, e2, hx, hb, hlc, hcm, hel, he, _, _⟩
  · simp only [List.cons.injEq, and_true] at e2
    subst e2
    exact ⟨.mk q s k [], _, _, _, _, rfl, TAt.make rfl (Nat.le_refl _) (Nat.zero_le _) (fun _ => ⟨rfl, rfl⟩) (by rw [TRow]; trivial) hq hk⟩
  · simp only [List.cons.injEq, and_true] at e2
    subst e2
    have hE : ∀ i, i < len → ∃ (t : Ty) (v0 v1 v2 v3 : Value), W.cell? (a.add (i * 4)) = some v0 ∧ W.cell? ⟨(a.add (i * 4)).block, (a.add (i * 4)).off + 1, none⟩ = some v1 ∧ W.cell? ⟨(a.add (i * 4)).block, (a.add (i * 4)).off + 2, none⟩ = some v2 ∧ W.cell? ⟨(a.add (i * 4)).block, (a.add (i * 4)).off + 3, none⟩ = some v3 ∧ TAt W (fun b => b < B) t (.agg #[v0, v1, v2, v3]) := by
      intro i hi
      have h3 := he i hi
      rw [hc] at h3
      have hi2 : i < elems.length := by omega
      rw [List.getElem?_eq_getElem hi2] at h3
      cases hcell : W.cells? base (a.add (i * 4)) 4 with
      | none => rw [hcell] at h3; simp at h3
      | some cs =>
        rw [hcell] at h3
        simp only [Option.bind_some] at h3
        obtain ⟨t, d0, d1, d2, d3, rfl, ht⟩ := ih m (by omega) h3 (fun p hp => hlt2 p (by rw [hx]; exact List.mem_append_right _ (List.mem_flatMap.2 ⟨_, List.mem_append_left _ (List.getElem_mem hi2), hp⟩)))
        obtain ⟨_, _, hg⟩ := World.cells?_some hcell
        have g0 := hg 0 (by omega)
        have g1 := hg 1 (by omega)
        have g2 := hg 2 (by omega)
        have g3 := hg 3 (by omega)
        have e0 : (a.add (i * 4)).add 0 = a.add (i * 4) := by unfold Addr.add; simp
        have ej : ∀ j, 0 < j → (a.add (i * 4)).add j = ⟨(a.add (i * 4)).block, (a.add (i * 4)).off + j, none⟩ := by intro j hj; generalize a.add (i * 4) = q; unfold Addr.add; rw [if_neg (by omega)]
        rw [e0] at g0
        rw [ej _ (by omega)] at g1 g2 g3
        exact ⟨t, d0, d1, d2, d3, g0, g1, g2, g3, ht⟩
    obtain ⟨f, hf2⟩ := Deep.choose_lt hE
    refine ⟨.mk q s k ((List.range len).map f), _, _, _, _, rfl, TAt.make (by simp) (by simpa using hlc) hcm (fun h => (by cases h)) ?_ hq hk⟩
    by_cases hlen0 : len = 0
    · subst hlen0
      simp only [List.range_zero, List.map_nil]
      rw [TRow]; trivial
    · refine TRow.mk ?_ _ 0 (fun k hk => ?_)
      · have : MemPlace.cell a.block (a.off + 0) ∈ y3.2 := by
          rw [hx]
          refine List.mem_append_left _ (List.mem_map.2 ⟨0, ?_, rfl⟩)
          rw [hc]
          simp
          omega
        exact hlt2 _ this
      · have hk2 : k < len := by simpa using hk
        obtain ⟨v0, v1, v2, v3, q0, q1, q2, q3, q4⟩ := hf2 k hk2
        rw [Nat.zero_add]
        exact ⟨v0, v1, v2, v3, q0, q1, q2, q3, by simpa using q4⟩
set_option maxRecDepth 100000 in
theorem open_type {H : Type} {enc : TypeId × Value → H} {W : World} {B b0 b1 : Nat} {sp : Nat → Bool} {hd : Bool} {v : Value} {d : DataW H} {ps : List MemPlace} (hval : Value.okWide Tryd.prog W .any b1 24 v) (h : DataW.Trod enc Tryd.prog W b0 sp hd 24 v d ps) (hlt : ∀ p ∈ ps, p.block < B) :
    ∃ t, TAt W (fun b => b < B) t v := by
  obtain ⟨cs, rfl, hsz⟩ := okWide_struct Tryd.underlying24 hval
  obtain ⟨fuel, hf⟩ := h
  obtain ⟨t, c0, c1, c2, c3, e, ht⟩ := ty_of_trod hf hlt
  dsimp only [Value.cells] at e
  refine ⟨t, ?_⟩
  have : cs = #[c0, c1, c2, c3] := by apply Array.ext'; simpa using e
  rw [this]
  exact ht
end Go.Proofs.YtnlifgcnmhakiaaDoor
