/-
  DECLARED TYPES IN MEMORY, BY THEIR FOOTPRINT; HANDED-IN ONES.
-/
import Derived.Test.YtnlifgcnmhakiaaTPairs
namespace Go.Proofs.Ytnlifgcnmhakiaa
open Go.ChangeShapes Go.WideShapes Go.ChangeAt Go.RowKit

/-- A constructor: its name, its fields. -/
structure Cn where
  name : ByteArray
  fields : List Ty
/-- A declared type: its name, its parameters, its constructors, its place. -/
structure Dc where
  name : ByteArray
  params : List ByteArray
  cons : List Cn
  place : Int
instance : Inhabited Cn := ⟨⟨⟨#[]⟩, []⟩⟩
instance : Inhabited Dc := ⟨⟨⟨#[]⟩, [], [], 0⟩⟩
/-- A row of texts. -/
def SRow (w : World) (S : Nat → Prop) (ss : List ByteArray) (A : Option Addr) : Prop :=
  ∀ i, (h : i < ss.length) → ∃ ad, A = some ad ∧ S ad.block ∧ w.cell? (ad.add i) = some (.string ss[i])
/-- A row of constructors. -/
def CnRow (w : World) (S : Nat → Prop) (cs : List Cn) (A : Option Addr) : Prop :=
  ∀ i, (h : i < cs.length) → ∃ ad A' c', A = some ad ∧ S ad.block ∧ w.cell? (ad.add (i * 2)) = some (.string cs[i].name) ∧ w.cell? ⟨(ad.add (i * 2)).block, (ad.add (i * 2)).off + 1, none⟩ = some (.slice A' cs[i].fields.length c') ∧
    cs[i].fields.length ≤ c' ∧ c' ≤ maxLen ∧ (A' = none → cs[i].fields = [] ∧ c' = 0) ∧ TRow w S cs[i].fields A' 0
/-- A row of declared types. -/
def DcRow (w : World) (S : Nat → Prop) (ds : List Dc) (A : Option Addr) : Prop :=
  ∀ i, (h : i < ds.length) → ∃ ad P pc C cc, A = some ad ∧ S ad.block ∧ w.cell? (ad.add (i * 4)) = some (.string ds[i].name) ∧ w.cell? ⟨(ad.add (i * 4)).block, (ad.add (i * 4)).off + 1, none⟩ = some (.slice P ds[i].params.length pc) ∧
    w.cell? ⟨(ad.add (i * 4)).block, (ad.add (i * 4)).off + 2, none⟩ = some (.slice C ds[i].cons.length cc) ∧ w.cell? ⟨(ad.add (i * 4)).block, (ad.add (i * 4)).off + 3, none⟩ = some (.int .i64 ds[i].place) ∧
    (ds[i].params.length ≤ pc ∧ pc ≤ maxLen ∧ (P = none → ds[i].params = [] ∧ pc = 0) ∧ SRow w S ds[i].params P) ∧ (ds[i].cons.length ≤ cc ∧ cc ≤ maxLen ∧ (C = none → ds[i].cons = [] ∧ cc = 0) ∧ CnRow w S ds[i].cons C) ∧ (Lit.int .i64 ds[i].place).wf = true
/-- A slice of declared types. -/
def DcsAt (w : World) (S : Nat → Prop) (ds : List Dc) (v : Value) : Prop := ∃ A c, v = .slice A ds.length c ∧ ds.length ≤ c ∧ c ≤ maxLen ∧ (A = none → ds = [] ∧ c = 0) ∧ DcRow w S ds A
def Stays (w w' : World) (S T : Nat → Prop) : Prop := ∀ k, S k → k < w.heap.size → w'.heap[k]? = w.heap[k]? ∧ T k
theorem Stays.below {w w' : World} {S : Nat → Prop} (h : Below w.heap.size w w') : Stays w w' S S := fun k hk hl => ⟨h.block k hl, hk⟩
theorem Stays.cell {w w' : World} {S T : Nat → Prop} (hk : Stays w w' S T) {b : Nat} {p : Addr} {v : Value} (hS : S b) (hb : p.block = b) (h : w.cell? p = some v) : w'.cell? p = some v := by
  subst hb
  exact (World.cell?_of_block (w := w) ((hk _ hS (cell_lt h)).1)).trans h
theorem SRow.keep {w w' : World} {S T : Nat → Prop} {ss : List ByteArray} {A : Option Addr} (h : SRow w S ss A) (hk : Stays w w' S T) : SRow w' T ss A := by
  intro i hi
  obtain ⟨ad, h1, h2, h3⟩ := h i hi
  have eb := add_block ad i
  have hl : ad.block < w.heap.size := by have := cell_lt h3; omega
  exact ⟨ad, h1, (hk _ h2 hl).2, hk.cell h2 eb h3⟩
theorem CnRow.keep {w w' : World} {S T : Nat → Prop} {cs : List Cn} {A : Option Addr} (h : CnRow w S cs A) (hk : Stays w w' S T) : CnRow w' T cs A := by
  intro i hi
  obtain ⟨ad, A', c', h1, h2, h3, h4, h5, h6, h7, h8⟩ := h i hi
  have eb := add_block ad (i * 2)
  have hl : ad.block < w.heap.size := by have := cell_lt h3; omega
  exact ⟨ad, A', c', h1, (hk _ h2 hl).2, hk.cell h2 eb h3, hk.cell h2 eb h4, h5, h6, h7, TRow.keep hk _ _ _ h8⟩
theorem DcRow.keep {w w' : World} {S T : Nat → Prop} {ds : List Dc} {A : Option Addr} (h : DcRow w S ds A) (hk : Stays w w' S T) : DcRow w' T ds A := by
  intro i hi
  obtain ⟨ad, P, pc, C, cc, h1, h2, h3, h4, h5, h6, ⟨p1, p2, p3, p4⟩, ⟨q1, q2, q3, q4⟩, h9⟩ := h i hi
  have eb := add_block ad (i * 4)
  have hl : ad.block < w.heap.size := by have := cell_lt h3; omega
  exact ⟨ad, P, pc, C, cc, h1, (hk _ h2 hl).2, hk.cell h2 eb h3, hk.cell h2 eb h4, hk.cell h2 eb h5, hk.cell h2 eb h6, ⟨p1, p2, p3, p4.keep hk⟩, ⟨q1, q2, q3, q4.keep hk⟩, h9⟩
theorem SRow.up {w w' : World} {S : Nat → Prop} {ss : List ByteArray} {A : Option Addr} (h : SRow w S ss A) (hb : Below w.heap.size w w') : SRow w' S ss A := h.keep (Stays.below hb)
theorem CnRow.up {w w' : World} {S : Nat → Prop} {cs : List Cn} {A : Option Addr} (h : CnRow w S cs A) (hb : Below w.heap.size w w') : CnRow w' S cs A := h.keep (Stays.below hb)
theorem DcRow.up {w w' : World} {S : Nat → Prop} {ds : List Dc} {A : Option Addr} (h : DcRow w S ds A) (hb : Below w.heap.size w w') : DcRow w' S ds A := h.keep (Stays.below hb)
theorem DcsAt.keep {w w' : World} {S T : Nat → Prop} {ds : List Dc} {v : Value} (h : DcsAt w S ds v) (hk : Stays w w' S T) : DcsAt w' T ds v := by
  obtain ⟨A, c, h1, h2, h3, h4, h5⟩ := h
  exact ⟨A, c, h1, h2, h3, h4, h5.keep hk⟩
theorem DcsAt.up {w w' : World} {S : Nat → Prop} {ds : List Dc} {v : Value} (h : DcsAt w S ds v) (hb : Below w.heap.size w w') : DcsAt w' S ds v := h.keep (Stays.below hb)
/-- A handed-in slice, element by element. -/
theorem slice_of_trod {H : Type} {enc : TypeId × Value → H} {P : Program} {W : World} {base : Nat} {sp : Nat → Bool} {hd : Bool} {t te : TypeId} {n B fuel : Nat} {E : List Value → Prop} (ht : P.underlying t = some (.slice te)) (hn : P.cellsOf te = n) (hpos : 0 < n)
    (hE : ∀ m es y, m < fuel → DataW.trod enc P W base sp hd m te es = some y → (∀ p ∈ y.2, p.block < B) → E es) {cs : List Value} {x : DataW H × List MemPlace} (h : DataW.trod enc P W base sp hd fuel t cs = some x) (hlt : ∀ p ∈ x.2, p.block < B) :
    ∃ A len c, cs = [.slice A len c] ∧ len ≤ c ∧ c ≤ maxLen ∧ (A = none → len = 0 ∧ c = 0) ∧ ∀ i, i < len → ∃ ad es, A = some ad ∧ ad.block < B ∧ W.cells? base (ad.add (i * n)) n = some es ∧ E es := by
  rcases DataW.trod_slice ht h with ⟨e2, _⟩ | ⟨a, len, cap, elems, rest, m, rfl, e2, hx, hb, hlc, hcm, hel, he, _, _⟩
  · exact ⟨none, 0, 0, e2, Nat.le_refl _, Nat.zero_le _, fun _ => ⟨rfl, rfl⟩, fun i hi => by omega⟩
  · refine ⟨some a, len, cap, e2, hlc, hcm, fun h => (by cases h), fun i hi => ?_⟩
    have h3 := he i hi
    rw [hn] at h3
    have hi2 : i < elems.length := by omega
    rw [List.getElem?_eq_getElem hi2] at h3
    cases hcell : W.cells? base (a.add (i * n)) n with
    | none => rw [hcell] at h3; simp at h3
    | some es =>
      rw [hcell] at h3
      simp only [Option.bind_some] at h3
      refine ⟨a, es, rfl, ?_, hcell, hE _ _ _ (by omega) h3 (fun p hp => hlt p (by rw [hx]; exact List.mem_append_right _ (List.mem_flatMap.2 ⟨_, List.mem_append_left _ (List.getElem_mem hi2), hp⟩)))⟩
      have : MemPlace.cell a.block (a.off + 0) ∈ x.2 := by
        rw [hx]
        refine List.mem_append_left _ (List.mem_map.2 ⟨0, ?_, rfl⟩)
        rw [hn]
        simp only [List.mem_range]
        exact Nat.mul_pos (by omega) hpos
      exact hlt _ this
theorem cell_of_cells {W : World} {base : Nat} {q : Addr} {n : Nat} {es : List Value} (h : W.cells? base q n = some es) : es.length = n ∧ (∀ v, es[0]? = some v → W.cell? q = some v) ∧ (∀ j v, 0 < j → es[j]? = some v → W.cell? ⟨q.block, q.off + j, none⟩ = some v) := by
  obtain ⟨h0, h1, hg⟩ := World.cells?_some h
  have hl : es.length = n := by first | exact h0 | exact h0.symm | exact h1 | exact h1.symm | omega
  refine ⟨hl, fun v hv => ?_, fun j v hj hv => ?_⟩
  · have hi := (List.getElem?_eq_some_iff.1 hv).1
    have := hg 0 (by omega)
    rw [show q.add 0 = q from by unfold Addr.add; simp] at this
    rw [this]
    first | exact hv | simpa using hv
  · have hi := (List.getElem?_eq_some_iff.1 hv).1
    have := hg j (by omega)
    rw [show q.add j = ⟨q.block, q.off + j, none⟩ from by unfold Addr.add; rw [if_neg (by omega)]] at this
    rw [this]
    first | exact hv | simpa using hv
mutual
/-- Names that are no longer than a text may be. -/
def Short : Ty → Prop
  | .mk _ s _ us => s.size ≤ maxLen ∧ ShortL us
def ShortL : List Ty → Prop
  | [] => True
  | t :: ts => Short t ∧ ShortL ts
end
theorem shortL_iff {us : List Ty} : ShortL us ↔ ∀ t ∈ us, Short t := by
  induction us with
  | nil => simp [ShortL]
  | cons t ts ih => rw [ShortL, ih]; simp
def ShortD (d : Dc) : Prop := d.name.size ≤ maxLen ∧ ∀ k ∈ d.cons, ∀ t ∈ k.fields, Short t
def TyE (W : World) (B : Nat) (es : List Value) : Prop := ∃ t c0 c1 c2 c3, es = [c0, c1, c2, c3] ∧ TAt W (fun b => b < B) t (.agg #[c0, c1, c2, c3]) ∧ Short t
/-- A handed-in row of types. -/
def TysE (W : World) (B : Nat) (cs : List Value) : Prop := ∃ (us : List Ty) (A : Option Addr) (c : Nat), cs = [.slice A us.length c] ∧ us.length ≤ c ∧ c ≤ maxLen ∧ (A = none → us = [] ∧ c = 0) ∧ TRow W (fun b => b < B) us A 0 ∧ ∀ t ∈ us, Short t
set_option maxRecDepth 100000 in
theorem tys_of {H : Type} {enc : TypeId × Value → H} {W : World} {B base : Nat} {sp : Nat → Bool} {hd : Bool} {fuel : Nat} {cs : List Value} {x : DataW H × List MemPlace} (ih : ∀ m es y, m < fuel → DataW.trod enc Try.prog W base sp hd m 34 es = some y → (∀ p ∈ y.2, p.block < B) → TyE W B es)
    (h : DataW.trod enc Try.prog W base sp hd fuel 32 cs = some x) (hlt : ∀ p ∈ x.2, p.block < B) : TysE W B cs := by
  obtain ⟨A, len, c, h1, h2, h3, h4, h5⟩ := slice_of_trod (n := 4) (E := TyE W B) Try.underlying32 (by kernel_rfl) (by omega) ih h hlt
  have hf : ∀ i, i < len → ∃ t : Ty, ∃ ad c0 c1 c2 c3, A = some ad ∧ ad.block < B ∧ W.cell? (ad.add (i * 4)) = some c0 ∧ W.cell? ⟨(ad.add (i * 4)).block, (ad.add (i * 4)).off + 1, none⟩ = some c1 ∧ W.cell? ⟨(ad.add (i * 4)).block, (ad.add (i * 4)).off + 2, none⟩ = some c2 ∧ W.cell? ⟨(ad.add (i * 4)).block, (ad.add (i * 4)).off + 3, none⟩ = some c3 ∧ TAt W (fun b => b < B) t (.agg #[c0, c1, c2, c3]) ∧ Short t := by
    intro i hi
    obtain ⟨ad, es, g1, g2, g3, t, c0, c1, c2, c3, rfl, g4⟩ := h5 i hi
    obtain ⟨_, k0, k1⟩ := cell_of_cells g3
    exact ⟨t, ad, c0, c1, c2, c3, g1, g2, k0 _ rfl, k1 1 _ (by omega) rfl, k1 2 _ (by omega) rfl, k1 3 _ (by omega) rfl, g4⟩
  obtain ⟨f, hf2⟩ := Deep.choose_lt hf
  refine ⟨(List.range len).map f, A, c, by simpa using h1, by simpa using h2, h3, fun e => ?_, ?_, fun t ht => ?_⟩
  · obtain ⟨rfl, rfl⟩ := h4 e
    exact ⟨rfl, rfl⟩
  · by_cases hl : len = 0
    · subst hl
      simp only [List.range_zero, List.map_nil]
      rw [TRow]; trivial
    · obtain ⟨ad, _, _, _, _, rfl, hb, _⟩ := hf2 0 (by omega)
      refine TRow.mk hb _ 0 (fun k hk => ?_)
      have hk2 : k < len := by simpa using hk
      obtain ⟨ad', v0, v1, v2, v3, e, q⟩ := hf2 k hk2
      injection e with e
      subst e
      rw [Nat.zero_add]
      exact ⟨v0, v1, v2, v3, q.2.1, q.2.2.1, q.2.2.2.1, q.2.2.2.2.1, by simpa using q.2.2.2.2.2.1⟩
  · obtain ⟨k, hk, rfl⟩ := List.mem_map.1 ht
    obtain ⟨_, _, _, _, _, q⟩ := hf2 k (by simpa using hk)
    exact q.2.2.2.2.2.2.2
set_option maxRecDepth 100000 in
theorem tyS_of_trod {H : Type} {enc : TypeId × Value → H} {W : World} {B base : Nat} {sp : Nat → Bool} {hd : Bool} : ∀ {fuel : Nat} {cs : List Value} {x : DataW H × List MemPlace}
    (_ : DataW.trod enc Try.prog W base sp hd fuel 34 cs = some x) (_ : ∀ p ∈ x.2, p.block < B), TyE W B cs := by
  have hc : Try.prog.cellsOf 34 = 4 := by kernel_rfl
  have hci : Try.prog.cellsOf 3 = 1 := by kernel_rfl
  have hcb : Try.prog.cellsOf 9 = 1 := by kernel_rfl
  have hcs : Try.prog.cellsOf 32 = 1 := by kernel_rfl
  intro fuel
  induction fuel using Nat.strongRecOn with
  | _ fuel ih =>
  intro cs x h hlt
  obtain ⟨y0, y1, y2, y3, n, rfl, rfl, hl, h0, h1, h2, h3⟩ := trod_struct4F Try.underlying34 h
  rw [hc] at hl
  match cs, hl with
  | [c0, c1, c2, c3], _ =>
  simp only [hci, hcs, hcb, List.drop_zero, List.drop_succ_cons, List.take_succ_cons, List.take_zero] at h0 h1 h2 h3
  obtain ⟨q, e0, _, hq⟩ := DataW.trod_int Try.underlying3 h0
  obtain ⟨s, e1, _, hs⟩ := DataW.trod_string Try.underlying9 h1
  obtain ⟨k, e2, _, hk⟩ := DataW.trod_int Try.underlying3 h2
  obtain ⟨us, A, c, e3, g1, g2, g3, g4, g5⟩ := tys_of (fun m es y hm hy hp => ih m (by omega) hy hp) h3 (fun p hp => hlt p (by simp [hp]))
  simp only [List.cons.injEq, and_true] at e0 e1 e2 e3
  subst e0 e1 e2 e3
  exact ⟨.mk q s k us, _, _, _, _, rfl, TAt.make rfl g1 g2 g3 g4 hq hk, by rw [Short, shortL_iff]; exact ⟨hs, g5⟩⟩
theorem tys_of_trod {H : Type} {enc : TypeId × Value → H} {W : World} {B base : Nat} {sp : Nat → Bool} {hd : Bool} {fuel : Nat} {cs : List Value} {x : DataW H × List MemPlace} (h : DataW.trod enc Try.prog W base sp hd fuel 32 cs = some x) (hlt : ∀ p ∈ x.2, p.block < B) : TysE W B cs :=
  tys_of (fun _ _ _ _ hy hp => tyS_of_trod hy hp) h hlt
set_option maxRecDepth 100000 in
/-- A handed-in type, its names no longer than texts may be. -/
theorem open_typeS {H : Type} {enc : TypeId × Value → H} {W : World} {B b0 b1 : Nat} {sp : Nat → Bool} {hd : Bool} {v : Value} {d : DataW H} {ps : List MemPlace} (hval : Value.okWide Try.prog W .any b1 34 v) (h : DataW.Trod enc Try.prog W b0 sp hd 34 v d ps) (hlt : ∀ p ∈ ps, p.block < B) :
    ∃ t, TAt W (fun b => b < B) t v ∧ Short t := by
  obtain ⟨cs, rfl, hsz⟩ := okWide_struct Try.underlying34 hval
  obtain ⟨fuel, hf⟩ := h
  obtain ⟨t, c0, c1, c2, c3, e, ht⟩ := tyS_of_trod hf hlt
  dsimp only [Value.cells] at e
  refine ⟨t, ?_⟩
  have : cs = #[c0, c1, c2, c3] := by apply Array.ext'; simpa using e
  rw [this]
  exact ht
def StrsE (W : World) (B : Nat) (cs : List Value) : Prop := ∃ (ss : List ByteArray) (A : Option Addr) (c : Nat), cs = [.slice A ss.length c] ∧ ss.length ≤ c ∧ c ≤ maxLen ∧ (A = none → ss = [] ∧ c = 0) ∧ SRow W (fun b => b < B) ss A
set_option maxRecDepth 100000 in
theorem strs_of_trod {H : Type} {enc : TypeId × Value → H} {W : World} {B base : Nat} {sp : Nat → Bool} {hd : Bool} {fuel : Nat} {cs : List Value} {x : DataW H × List MemPlace} (h : DataW.trod enc Try.prog W base sp hd fuel 80 cs = some x) (hlt : ∀ p ∈ x.2, p.block < B) : StrsE W B cs := by
  obtain ⟨A, len, c, h1, h2, h3, h4, h5⟩ := slice_of_trod (n := 1) (E := fun es => ∃ s : ByteArray, es = [.string s]) Try.underlying80 (by kernel_rfl) (by omega) (fun m es y _ hy hp => by obtain ⟨s, e, _⟩ := DataW.trod_string Try.underlying9 hy; exact ⟨s, e⟩) h hlt
  have hf : ∀ i, i < len → ∃ s : ByteArray, ∃ ad, A = some ad ∧ ad.block < B ∧ W.cell? (ad.add i) = some (.string s) := by
    intro i hi
    obtain ⟨ad, es, g1, g2, g3, s, rfl⟩ := h5 i hi
    rw [Nat.mul_one] at g3
    obtain ⟨_, k0, _⟩ := cell_of_cells g3
    exact ⟨s, ad, g1, g2, k0 _ rfl⟩
  obtain ⟨f, hf2⟩ := Deep.choose_lt hf
  refine ⟨(List.range len).map f, A, c, by simpa using h1, by simpa using h2, h3, fun e => ?_, fun i hi => ?_⟩
  · obtain ⟨rfl, rfl⟩ := h4 e
    exact ⟨rfl, rfl⟩
  · obtain ⟨ad, e1, e2, e3⟩ := hf2 i (by simpa using hi)
    exact ⟨ad, e1, e2, by simpa using e3⟩
def CnE (W : World) (B : Nat) (cs : List Value) : Prop := ∃ (k : Cn) (A : Option Addr) (c : Nat), cs = [.string k.name, .slice A k.fields.length c] ∧ k.fields.length ≤ c ∧ c ≤ maxLen ∧ (A = none → k.fields = [] ∧ c = 0) ∧ TRow W (fun b => b < B) k.fields A 0 ∧ ∀ t ∈ k.fields, Short t
set_option maxRecDepth 100000 in
theorem cn_of_trod {H : Type} {enc : TypeId × Value → H} {W : World} {B base : Nat} {sp : Nat → Bool} {hd : Bool} {fuel : Nat} {cs : List Value} {x : DataW H × List MemPlace} (h : DataW.trod enc Try.prog W base sp hd fuel 85 cs = some x) (hlt : ∀ p ∈ x.2, p.block < B) : CnE W B cs := by
  have hc : Try.prog.cellsOf 85 = 2 := by kernel_rfl
  have hcb : Try.prog.cellsOf 9 = 1 := by kernel_rfl
  have hcs : Try.prog.cellsOf 32 = 1 := by kernel_rfl
  obtain ⟨y0, y1, n, rfl, rfl, hl, h0, h1⟩ := trod_struct2F Try.underlying85 h
  rw [hc] at hl
  match cs, hl with
  | [c0, c1], _ =>
  simp only [hcb, hcs, List.drop_zero, List.drop_succ_cons, List.take_succ_cons, List.take_zero] at h0 h1
  obtain ⟨s, e0, _⟩ := DataW.trod_string Try.underlying9 h0
  obtain ⟨us, A, c, e1, g⟩ := tys_of_trod h1 (fun p hp => hlt p (by simp [hp]))
  simp only [List.cons.injEq, and_true] at e0 e1
  subst e0 e1
  exact ⟨⟨s, us⟩, A, c, rfl, g⟩
def CnsE (W : World) (B : Nat) (cs : List Value) : Prop := ∃ (ks : List Cn) (A : Option Addr) (c : Nat), cs = [.slice A ks.length c] ∧ ks.length ≤ c ∧ c ≤ maxLen ∧ (A = none → ks = [] ∧ c = 0) ∧ CnRow W (fun b => b < B) ks A ∧ ∀ k ∈ ks, ∀ t ∈ k.fields, Short t
set_option maxRecDepth 100000 in
theorem cns_of_trod {H : Type} {enc : TypeId × Value → H} {W : World} {B base : Nat} {sp : Nat → Bool} {hd : Bool} {fuel : Nat} {cs : List Value} {x : DataW H × List MemPlace} (h : DataW.trod enc Try.prog W base sp hd fuel 81 cs = some x) (hlt : ∀ p ∈ x.2, p.block < B) : CnsE W B cs := by
  obtain ⟨A, len, c, h1, h2, h3, h4, h5⟩ := slice_of_trod (n := 2) (E := CnE W B) Try.underlying81 (by kernel_rfl) (by omega) (fun m es y _ hy hp => cn_of_trod hy hp) h hlt
  have hf : ∀ i, i < len → ∃ k : Cn, ∃ ad A' c', A = some ad ∧ ad.block < B ∧ W.cell? (ad.add (i * 2)) = some (.string k.name) ∧ W.cell? ⟨(ad.add (i * 2)).block, (ad.add (i * 2)).off + 1, none⟩ = some (.slice A' k.fields.length c') ∧ k.fields.length ≤ c' ∧ c' ≤ maxLen ∧ (A' = none → k.fields = [] ∧ c' = 0) ∧ TRow W (fun b => b < B) k.fields A' 0 ∧ ∀ t ∈ k.fields, Short t := by
    intro i hi
    obtain ⟨ad, es, g1, g2, g3, k, A', c', rfl, g⟩ := h5 i hi
    obtain ⟨_, k0, k1⟩ := cell_of_cells g3
    exact ⟨k, ad, A', c', g1, g2, k0 _ rfl, k1 1 _ (by omega) rfl, g⟩
  obtain ⟨f, hf2⟩ := Deep.choose_lt hf
  refine ⟨(List.range len).map f, A, c, by simpa using h1, by simpa using h2, h3, fun e => ?_, fun i hi => ?_, fun k hk => ?_⟩
  · obtain ⟨rfl, rfl⟩ := h4 e
    exact ⟨rfl, rfl⟩
  · obtain ⟨ad, A', c', q1, q2, q3, q4, q5, q6, q7, q8, _⟩ := hf2 i (by simpa using hi)
    exact ⟨ad, A', c', q1, q2, by simpa using q3, by simpa using q4, by simpa using q5, q6, by simpa using q7, by simpa using q8⟩
  · obtain ⟨i, hi, rfl⟩ := List.mem_map.1 hk
    obtain ⟨_, _, _, q⟩ := hf2 i (by simpa using hi)
    exact q.2.2.2.2.2.2.2.2
def DcE (W : World) (B : Nat) (cs : List Value) : Prop := ∃ (d : Dc) (P : Option Addr) (pc : Nat) (C : Option Addr) (cc : Nat), cs = [.string d.name, .slice P d.params.length pc, .slice C d.cons.length cc, .int .i64 d.place] ∧
    (d.params.length ≤ pc ∧ pc ≤ maxLen ∧ (P = none → d.params = [] ∧ pc = 0) ∧ SRow W (fun b => b < B) d.params P) ∧ (d.cons.length ≤ cc ∧ cc ≤ maxLen ∧ (C = none → d.cons = [] ∧ cc = 0) ∧ CnRow W (fun b => b < B) d.cons C) ∧ (Lit.int .i64 d.place).wf = true ∧ ShortD d
set_option maxRecDepth 100000 in
theorem dc_of_trod {H : Type} {enc : TypeId × Value → H} {W : World} {B base : Nat} {sp : Nat → Bool} {hd : Bool} {fuel : Nat} {cs : List Value} {x : DataW H × List MemPlace} (h : DataW.trod enc Try.prog W base sp hd fuel 83 cs = some x) (hlt : ∀ p ∈ x.2, p.block < B) : DcE W B cs := by
  have hc : Try.prog.cellsOf 83 = 4 := by kernel_rfl
  have hci : Try.prog.cellsOf 3 = 1 := by kernel_rfl
  have hcb : Try.prog.cellsOf 9 = 1 := by kernel_rfl
  have hcs : Try.prog.cellsOf 80 = 1 := by kernel_rfl
  have hcc : Try.prog.cellsOf 81 = 1 := by kernel_rfl
  obtain ⟨y0, y1, y2, y3, n, rfl, rfl, hl, h0, h1, h2, h3⟩ := trod_struct4F Try.underlying83 h
  rw [hc] at hl
  match cs, hl with
  | [c0, c1, c2, c3], _ =>
  simp only [hci, hcb, hcs, hcc, List.drop_zero, List.drop_succ_cons, List.take_succ_cons, List.take_zero] at h0 h1 h2 h3
  obtain ⟨s, e0, _, hs⟩ := DataW.trod_string Try.underlying9 h0
  obtain ⟨ss, P, pc, e1, g1⟩ := strs_of_trod h1 (fun p hp => hlt p (by simp [hp]))
  obtain ⟨ks, C, cc, e2, g2, g3, g4, g5, g6⟩ := cns_of_trod h2 (fun p hp => hlt p (by simp [hp]))
  obtain ⟨q, e3, _, hq⟩ := DataW.trod_int Try.underlying3 h3
  simp only [List.cons.injEq, and_true] at e0 e1 e2 e3
  subst e0 e1 e2 e3
  exact ⟨⟨s, ss, ks, q⟩, P, pc, C, cc, rfl, g1, ⟨g2, g3, g4, g5⟩, hq, hs, g6⟩
set_option maxRecDepth 100000 in
theorem open_decls {H : Type} {enc : TypeId × Value → H} {W : World} {B b0 b1 : Nat} {sp : Nat → Bool} {hd : Bool} {v : Value} {d : DataW H} {ps : List MemPlace} (hval : Value.okWide Try.prog W .any b1 51 v) (h : DataW.Trod enc Try.prog W b0 sp hd 51 v d ps) (hlt : ∀ p ∈ ps, p.block < B) :
    ∃ l, DcsAt W (fun b => b < B) l v ∧ ∀ d ∈ l, ShortD d := by
  obtain ⟨fuel, hf⟩ := h
  obtain ⟨A0, n0, c0, rfl⟩ := okWide_slice Try.underlying51 hval
  dsimp only [Value.cells] at hf
  obtain ⟨A, len, c, h1, h2, h3, h4, h5⟩ := slice_of_trod (n := 4) (E := DcE W B) Try.underlying51 (by kernel_rfl) (by omega) (fun m es y _ hy hp => dc_of_trod hy hp) hf hlt
  simp only [List.cons.injEq, and_true] at h1
  injection h1 with e1 e2 e3
  subst e1 e2 e3
  have hf : ∀ i, i < n0 → ∃ k : Dc, ∃ ad P pc C cc, A0 = some ad ∧ ad.block < B ∧ W.cell? (ad.add (i * 4)) = some (.string k.name) ∧ W.cell? ⟨(ad.add (i * 4)).block, (ad.add (i * 4)).off + 1, none⟩ = some (.slice P k.params.length pc) ∧ W.cell? ⟨(ad.add (i * 4)).block, (ad.add (i * 4)).off + 2, none⟩ = some (.slice C k.cons.length cc) ∧ W.cell? ⟨(ad.add (i * 4)).block, (ad.add (i * 4)).off + 3, none⟩ = some (.int .i64 k.place) ∧
      (k.params.length ≤ pc ∧ pc ≤ maxLen ∧ (P = none → k.params = [] ∧ pc = 0) ∧ SRow W (fun b => b < B) k.params P) ∧ (k.cons.length ≤ cc ∧ cc ≤ maxLen ∧ (C = none → k.cons = [] ∧ cc = 0) ∧ CnRow W (fun b => b < B) k.cons C) ∧ (Lit.int .i64 k.place).wf = true ∧ ShortD k := by
    intro i hi
    obtain ⟨ad, es, g1, g2, g3, k, P, pc, C, cc, rfl, g⟩ := h5 i hi
    obtain ⟨_, k0, k1⟩ := cell_of_cells g3
    exact ⟨k, ad, P, pc, C, cc, g1, g2, k0 _ rfl, k1 1 _ (by omega) rfl, k1 2 _ (by omega) rfl, k1 3 _ (by omega) rfl, g⟩
  obtain ⟨f, hf2⟩ := Deep.choose_lt hf
  refine ⟨(List.range n0).map f, ⟨A0, c0, by simp, by simpa using h2, h3, fun e => ?_, fun i hi => ?_⟩, fun k hk => ?_⟩
  · obtain ⟨rfl, rfl⟩ := h4 e
    exact ⟨rfl, rfl⟩
  · obtain ⟨ad, P, pc, C, cc, q1, q2, q3, q4, q5, q6, q7, q8, q9, _⟩ := hf2 i (by simpa using hi)
    exact ⟨ad, P, pc, C, cc, q1, q2, by simpa using q3, by simpa using q4, by simpa using q5, by simpa using q6, by simpa using q7, by simpa using q8, by simpa using q9⟩
  · obtain ⟨i, hi, rfl⟩ := List.mem_map.1 hk
    obtain ⟨_, _, _, _, _, q⟩ := hf2 i (by simpa using hi)
    exact q.2.2.2.2.2.2.2.2.2
end Go.Proofs.Ytnlifgcnmhakiaa
