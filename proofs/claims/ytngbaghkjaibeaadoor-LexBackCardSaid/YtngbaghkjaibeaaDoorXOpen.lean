/-
  TOKENS THAT ARE HANDED IN.
-/
import Derived.Test.YtngbaghkjaibeaaDoorXAppK
import Derived.Deep.Strs
import Derived.Laws.AppendOwnNone
namespace Go.Proofs.YtngbaghkjaibeaaDoor
set_option linter.all false
open Go.ChangeShapes Go.WideShapes Go.ChangeAt Go.RowKit

theorem add_block (ad : Addr) (k : Nat) : (ad.add k).block = ad.block := by unfold Addr.add; split <;> rfl
/-- A handed-in slice, element by element. -/
theorem slice_of_trod {H : Type} {enc : TypeId × Value → H} {P : Program} {W : World} {base : Nat} {sp : Nat → Bool} {hd : Bool} {t te : TypeId} {n B fuel : Nat} {E : List Value → Prop} (ht : P.underlying t = some (.slice te)) (hn : P.cellsOf te = n) (hpos : 0 < n)
    (hE : ∀ m es y, m < fuel → DataW.trod enc P W base sp hd m te es = some y → (∀ p ∈ y.2, p.block < B) → E es) {cs : List Value} {x : DataW H × List MemPlace} (h : DataW.trod enc P W base sp hd fuel t cs = some x) (hlt : ∀ p ∈ x.2, p.block < B) :
    ∃ A len c, cs = [.slice A len c] ∧ len ≤ c ∧ c ≤ maxLen ∧ (A = none → len = 0 ∧ c = 0) ∧ ∀ i, i < len → ∃ ad es, A = some ad ∧ ad.block < B ∧ W.cells? base (ad.add (i * n)) n = some es ∧ E es := by
  rcases DataW.trod_slice ht h with ⟨e2, _⟩ | ⟨a, len, cap, elems, rest, m, rfl, e2, hx, hb, hlc, hcm, hel, he, _, _⟩
  · exact ⟨none, 0, 0, e2, Nat.le_refl _, Nat.zero_le _, fun _ => ⟨rfl, rfl⟩, fun i hi => by omega⟩
  · refine ⟨some a, len, cap, e2, hlc, hcm, fun h => (by cases h), fun i hi => ?_⟩
    have h3 := he i hi
    rw [hn] at h3
    have hi2 : i < elems.length := by omega
    rw [List.getElem?_eq_getElem hi2] at h3
    cases hcell : W.cells? base (a.add (i * n)) n with
    | none => rw [hcell] at h3; simp at h3
    | some es =>
      rw [hcell] at h3
      simp only [Option.bind_some] at h3
      refine ⟨a, es, rfl, ?_, hcell, hE _ _ _ (by omega) h3 (fun p hp => hlt p (by rw [hx]; exact List.mem_append_right _ (List.mem_flatMap.2 ⟨_, List.mem_append_left _ (List.getElem_mem hi2), hp⟩)))⟩
      have : MemPlace.cell a.block (a.off + 0) ∈ x.2 := by
        rw [hx]
        refine List.mem_append_left _ (List.mem_map.2 ⟨0, ?_, rfl⟩)
        rw [hn]
        simp only [List.mem_range]
        exact Nat.mul_pos (by omega) hpos
      exact hlt _ this
theorem cell_of_cells {W : World} {base : Nat} {q : Addr} {n : Nat} {es : List Value} (h : W.cells? base q n = some es) : es.length = n ∧ (∀ v, es[0]? = some v → W.cell? q = some v) ∧ (∀ j v, 0 < j → es[j]? = some v → W.cell? ⟨q.block, q.off + j, none⟩ = some v) := by
  obtain ⟨h0, h1, hg⟩ := World.cells?_some h
  have hl : es.length = n := by first | exact h0 | exact h0.symm | exact h1 | exact h1.symm | omega
  refine ⟨hl, fun v hv => ?_, fun j v hj hv => ?_⟩
  · have hi := (List.getElem?_eq_some_iff.1 hv).1
    have := hg 0 (by omega)
    rw [show q.add 0 = q from by unfold Addr.add; simp] at this
    rw [this]
    first | exact hv | simpa using hv
  · have hi := (List.getElem?_eq_some_iff.1 hv).1
    have := hg j (by omega)
    rw [show q.add j = ⟨q.block, q.off + j, none⟩ from by unfold Addr.add; rw [if_neg (by omega)]] at this
    rw [this]
    first | exact hv | simpa using hv
theorem trod_struct4F {H : Type} {enc : TypeId × Value → H} {P : Program} {w : World} {base : Nat} {spare : Nat → Bool} {held : Bool} {t : TypeId} {f0 f1 f2 f3 : Field} {fuel : Nat} {cs : List Value} {x : DataW H × List MemPlace} (ht : P.underlying t = some (.struct #[f0, f1, f2, f3])) (h : DataW.trod enc P w base spare held fuel t cs = some x) :
    ∃ y0 y1 y2 y3 n, fuel = n + 1 ∧ x = (.agg [y0.1, y1.1, y2.1, y3.1], y0.2 ++ (y1.2 ++ (y2.2 ++ y3.2))) ∧ cs.length = P.cellsOf t ∧ DataW.trod enc P w base spare held n f0.type ((cs.drop f0.offset).take (P.cellsOf f0.type)) = some y0 ∧
      DataW.trod enc P w base spare held n f1.type ((cs.drop f1.offset).take (P.cellsOf f1.type)) = some y1 ∧ DataW.trod enc P w base spare held n f2.type ((cs.drop f2.offset).take (P.cellsOf f2.type)) = some y2 ∧ DataW.trod enc P w base spare held n f3.type ((cs.drop f3.offset).take (P.cellsOf f3.type)) = some y3 := by
  obtain ⟨xs, n, hn, rfl, hl, hlen, hf⟩ := DataW.trod_struct ht h
  match xs, hlen with
  | [y0, y1, y2, y3], _ => exact ⟨y0, y1, y2, y3, n, hn, by simp, hl, by simpa using hf 0 f0 rfl, by simpa using hf 1 f1 rfl, by simpa using hf 2 f2 rfl, by simpa using hf 3 f3 rfl⟩
theorem cell_ltX {w : World} {ad : Addr} {k : Nat} {v : Value} (h : w.cell? (ad.add k) = some v) : (ad.add k).block < w.heap.size := World.block_lt_of_cell? w _ h
theorem tcells_lenX (l : List Lx.Tok) : (tcells l).length = l.length * 4 := by
  induction l with
  | nil => rfl
  | cons t l ih =>
    unfold tcells at ih ⊢
    rw [List.flatMap_cons, List.length_append, ih]
    simp [tokC]; omega
/-- What every token that is handed in meets. -/
def TokOk (t : Lx.Tok) : Prop := (Lit.int .i64 t.kind).wf = true ∧ (Lit.int .i64 t.n).wf = true ∧ (Lit.int .i64 t.pos).wf = true ∧ t.text.length ≤ maxLen
theorem TokOk.n_in {t : Lx.Tok} (h : TokOk t) : -9223372036854775808 ≤ t.n ∧ t.n ≤ 9223372036854775807 := by
  have h1 := h.2.1
  simp [Lit.wf, IntKind.min, IntKind.max, IntKind.signed, IntKind.bits] at h1
  omega
/-- A handed-in slice of tokens. -/
def ToksAt (W : World) (B : Nat) (l : List Lx.Tok) (v : Value) : Prop := ∃ A c, v = .slice A l.length c ∧ l.length ≤ c ∧ c ≤ maxLen ∧ (A = none → l = [] ∧ c = 0) ∧ (∀ ad, A = some ad → l ≠ [] → ad.block < B) ∧ RdT W A l ∧ ∀ t ∈ l, TokOk t
def TokE (es : List Value) : Prop := ∃ t : Lx.Tok, es = [.int .i64 t.kind, .string ⟨t.text.toArray⟩, .int .i64 t.n, .int .i64 t.pos] ∧ TokOk t
set_option maxRecDepth 100000 in
theorem tok_of_trod {H : Type} {enc : TypeId × Value → H} {W : World} {base : Nat} {sp : Nat → Bool} {hd : Bool} {fuel : Nat} {cs : List Value} {x : DataW H × List MemPlace}
    (h : DataW.trod enc Tryd.prog W base sp hd fuel 32 cs = some x) : TokE cs := by
  have hc : Tryd.prog.cellsOf 32 = 4 := by kernel_rfl
  have hci : Tryd.prog.cellsOf 3 = 1 := by kernel_rfl
  have hcb : Tryd.prog.cellsOf 9 = 1 := by kernel_rfl
  obtain ⟨y0, y1, y2, y3, n, rfl, rfl, hl, h0, h1, h2, h3⟩ := trod_struct4F Tryd.underlying32 h
  rw [hc] at hl
  match cs, hl with
  | [c0, c1, c2, c3], _ =>
  simp only [hci, hcb, List.drop_zero, List.drop_succ_cons, List.take_succ_cons, List.take_zero] at h0 h1 h2 h3
  obtain ⟨q, e0, _, hq⟩ := DataW.trod_int Tryd.underlying3 h0
  obtain ⟨s, e1, _, hs⟩ := DataW.trod_string Tryd.underlying9 h1
  obtain ⟨k, e2, _, hk⟩ := DataW.trod_int Tryd.underlying3 h2
  obtain ⟨ps, e3, _, hps⟩ := DataW.trod_int Tryd.underlying3 h3
  simp only [List.cons.injEq, and_true] at e0 e1 e2 e3
  subst e0 e1 e2 e3
  exact ⟨⟨q, s.data.toList, k, ps⟩, rfl, hq, hk, hps, by rw [Array.length_toList]; exact hs⟩
instance : Inhabited Lx.Tok := ⟨⟨0, [], 0, 0⟩⟩
theorem toks_choose {W : World} {A0 : Option Addr} {B n0 : Nat} (hf : ∀ i, i < n0 → ∃ k : Lx.Tok, ∃ ad, A0 = some ad ∧ ad.block < B ∧ W.cell? (ad.add (i * 4)) = some (.int .i64 k.kind) ∧ W.cell? ⟨(ad.add (i * 4)).block, (ad.add (i * 4)).off + 1, none⟩ = some (.string ⟨k.text.toArray⟩) ∧ W.cell? ⟨(ad.add (i * 4)).block, (ad.add (i * 4)).off + 2, none⟩ = some (.int .i64 k.n) ∧ W.cell? ⟨(ad.add (i * 4)).block, (ad.add (i * 4)).off + 3, none⟩ = some (.int .i64 k.pos) ∧ TokOk k) :
    ∃ l : List Lx.Tok, l.length = n0 ∧ (∀ ad, A0 = some ad → l ≠ [] → ad.block < B) ∧ RdT W A0 l ∧ ∀ t ∈ l, TokOk t := by
  obtain ⟨f, hf2⟩ := Deep.choose_lt hf
  refine ⟨(List.range n0).map f, by simp, fun ad e hne => ?_, fun i hi => ?_, fun t ht => ?_⟩
  · have : 0 < n0 := by
      rcases Nat.eq_zero_or_pos n0 with h | h
      · subst h; simp at hne
      · exact h
    obtain ⟨ad2, q1, q2, _⟩ := hf2 0 this
    rw [e] at q1
    injection q1 with q1
    subst q1
    exact q2
  · obtain ⟨ad, q1, q2, q3, q4, q5, q6, q7⟩ := hf2 i (by simpa using hi)
    exact ⟨ad, q1, cell_ltX q3, by simpa using q3, by simpa using q4, by simpa using q5, by simpa using q6⟩
  · obtain ⟨k, hk, rfl⟩ := List.mem_map.1 ht
    obtain ⟨_, q⟩ := hf2 k (by simpa using hk)
    exact q.2.2.2.2.2.2
set_option maxRecDepth 100000 in
/-- A handed-in slice of tokens. -/
theorem open_toks {H : Type} {enc : TypeId × Value → H} {W : World} {B b0 b1 : Nat} {sp : Nat → Bool} {hd : Bool} {v : Value} {d : DataW H} {ps : List MemPlace} (hval : Value.okWide Tryd.prog W .any b1 23 v) (h : DataW.Trod enc Tryd.prog W b0 sp hd 23 v d ps) (hlt : ∀ p ∈ ps, p.block < B) :
    ∃ l, ToksAt W B l v := by
  obtain ⟨fuel, hf⟩ := h
  obtain ⟨A0, n0, c0, rfl⟩ := okWide_slice Tryd.underlying23 hval
  dsimp only [Value.cells] at hf
  obtain ⟨A, len, c, h1, h2, h3, h4, h5⟩ := slice_of_trod (n := 4) (E := TokE) Tryd.underlying23 (by kernel_rfl) (by omega) (fun m es y _ hy _ => tok_of_trod hy) hf hlt
  simp only [List.cons.injEq, and_true] at h1
  injection h1 with e1 e2 e3
  subst e1 e2 e3
  obtain ⟨l, g1, g2, g3, g4⟩ := toks_choose (W := W) (A0 := A0) (B := B) (n0 := n0) (fun i hi => by
    obtain ⟨ad, es, g1, g2, g3, t, rfl, g4⟩ := h5 i hi
    obtain ⟨_, k0, k1⟩ := cell_of_cells g3
    exact ⟨t, ad, g1, g2, k0 _ rfl, k1 1 _ (by omega) rfl, k1 2 _ (by omega) rfl, k1 3 _ (by omega) rfl, g4⟩)
  subst g1
  refine ⟨l, A0, c0, rfl, h2, h3, fun e => ?_, g2, g3, g4⟩
  obtain ⟨h, rfl⟩ := h4 e
  exact ⟨List.length_eq_zero_iff.1 h, rfl⟩
/-- A copy of a handed-in row: append onto an empty literal. -/
theorem toks_cells {W : World} {A : Option Addr} {l : List Lx.Tok} (h : RdT W A l) (hne : l ≠ []) : ∃ ad, A = some ad ∧ ∀ j u, (tcells l)[j]? = some u → W.cell? (ad.add j) = some u := by
  have h0 : 0 < l.length := List.length_pos_iff.2 hne
  obtain ⟨ad, rfl, _⟩ := h 0 h0
  refine ⟨ad, rfl, fun j u hj => ?_⟩
  have hl : j < (tcells l).length := (List.getElem?_eq_some_iff.1 hj).1
  rw [tcells_lenX] at hl
  have hi : j / 4 < l.length := by omega
  have hg := tcells_get l (j / 4) hi (j % 4) (by omega)
  rw [show j / 4 * 4 + j % 4 = j by omega, hj] at hg
  obtain ⟨ad2, e, q0, q1, q2, q3, q4⟩ := h (j / 4) hi
  injection e with e
  subst e
  have hadd : ∀ r, 0 < r → (⟨(ad.add (j / 4 * 4)).block, (ad.add (j / 4 * 4)).off + r, none⟩ : Addr) = ad.add (j / 4 * 4 + r) := fun r hr => by
    have h9 : ∀ k, (ad.add k).block = ad.block ∧ (0 < k → ad.add k = ⟨ad.block, ad.off + k, none⟩) ∧ (ad.add k).off = ad.off + k := fun k => by
      unfold Addr.add
      by_cases hk : k = 0
      · rw [if_pos hk]; exact ⟨rfl, fun h => by omega, by omega⟩
      · rw [if_neg hk]; exact ⟨rfl, fun _ => rfl, rfl⟩
    rw [(h9 _).1, (h9 _).2.2, (h9 (j / 4 * 4 + r)).2.1 (by omega)]
    congr 1
    omega
  have hr : j % 4 = 0 ∨ j % 4 = 1 ∨ j % 4 = 2 ∨ j % 4 = 3 := by omega
  rcases hr with hr | hr | hr | hr
  · rw [hr] at hg
    have : u = .int .i64 l[j / 4].kind := by simpa [tokC] using hg
    rw [this, ← q1]
    congr 2
    omega
  · rw [hr] at hg
    have : u = .string ⟨l[j / 4].text.toArray⟩ := by simpa [tokC] using hg
    rw [this, ← q2, hadd 1 (by omega)]
    congr 2
    omega
  · rw [hr] at hg
    have : u = .int .i64 l[j / 4].n := by simpa [tokC] using hg
    rw [this, ← q3, hadd 2 (by omega)]
    congr 2
    omega
  · rw [hr] at hg
    have : u = .int .i64 l[j / 4].pos := by simpa [tokC] using hg
    rw [this, ← q4, hadd 3 (by omega)]
    congr 2
    omega
end Go.Proofs.YtngbaghkjaibeaaDoor
