/-
  PAIRS OF TYPES, HANDED IN; athanorlaw15.large.
-/
import Derived.Test.YtnlifgcnmhakiaaDoorTWeigh
namespace Go.Proofs.YtnlifgcnmhakiaaDoor
open Go.ChangeShapes Go.WideShapes Go.ChangeAt Go.RowKit

/-- A value that reads as a pair of types. -/
def PAt (w : World) (S : Nat → Prop) (x : Ty × Ty) (v : Value) : Prop := ∃ a0 a1 a2 a3 b0 b1 b2 b3, v = .agg #[a0, a1, a2, a3, b0, b1, b2, b3] ∧ TAt w S x.1 (.agg #[a0, a1, a2, a3]) ∧ TAt w S x.2 (.agg #[b0, b1, b2, b3])
theorem PAt.up {w w' : World} {S : Nat → Prop} {x : Ty × Ty} {v : Value} (h : PAt w S x v) (hb : Below w.heap.size w w') : PAt w' S x v := by
  obtain ⟨a0, a1, a2, a3, b0, b1, b2, b3, h1, h2, h3⟩ := h
  exact ⟨a0, a1, a2, a3, b0, b1, b2, b3, h1, h2.up hb, h3.up hb⟩
/-- A row of pairs. -/
def PRow (w : World) (S : Nat → Prop) (ps : List (Ty × Ty)) (A : Option Addr) : Prop :=
  ∀ i, (h : i < ps.length) → ∃ ad a0 a1 a2 a3 b0 b1 b2 b3, A = some ad ∧ S ad.block ∧ w.cell? (ad.add (i * 8)) = some a0 ∧ w.cell? ⟨(ad.add (i * 8)).block, (ad.add (i * 8)).off + 1, none⟩ = some a1 ∧ w.cell? ⟨(ad.add (i * 8)).block, (ad.add (i * 8)).off + 2, none⟩ = some a2 ∧ w.cell? ⟨(ad.add (i * 8)).block, (ad.add (i * 8)).off + 3, none⟩ = some a3 ∧
    w.cell? ⟨(ad.add (i * 8)).block, (ad.add (i * 8)).off + 4, none⟩ = some b0 ∧ w.cell? ⟨(ad.add (i * 8)).block, (ad.add (i * 8)).off + 5, none⟩ = some b1 ∧ w.cell? ⟨(ad.add (i * 8)).block, (ad.add (i * 8)).off + 6, none⟩ = some b2 ∧ w.cell? ⟨(ad.add (i * 8)).block, (ad.add (i * 8)).off + 7, none⟩ = some b3 ∧
    TAt w S ps[i].1 (.agg #[a0, a1, a2, a3]) ∧ TAt w S ps[i].2 (.agg #[b0, b1, b2, b3])
theorem PRow.keep {w w' : World} {S T : Nat → Prop} {ps : List (Ty × Ty)} {A : Option Addr} (h : PRow w S ps A) (hk : ∀ k, S k → k < w.heap.size → w'.heap[k]? = w.heap[k]? ∧ T k) : PRow w' T ps A := by
  intro i hi
  obtain ⟨ad, a0, a1, a2, a3, b0, b1, b2, b3, e0, e1, y0, y1, y2, y3, z0, z1, z2, z3, ha, hb⟩ := h i hi
  have eb := add_block ad (i * 8)
  have hlt : ad.block < w.heap.size := by have := cell_lt y0; omega
  have e : ∀ a : Addr, a.block = ad.block → w'.cell? a = w.cell? a := fun a ha => World.cell?_of_block (w := w) (by rw [ha]; exact (hk _ e1 hlt).1)
  exact ⟨ad, a0, a1, a2, a3, b0, b1, b2, b3, e0, (hk _ e1 hlt).2, (e _ eb).trans y0, (e ⟨(ad.add (i * 8)).block, (ad.add (i * 8)).off + 1, none⟩ eb).trans y1, (e ⟨(ad.add (i * 8)).block, (ad.add (i * 8)).off + 2, none⟩ eb).trans y2, (e ⟨(ad.add (i * 8)).block, (ad.add (i * 8)).off + 3, none⟩ eb).trans y3,
    (e ⟨(ad.add (i * 8)).block, (ad.add (i * 8)).off + 4, none⟩ eb).trans z0, (e ⟨(ad.add (i * 8)).block, (ad.add (i * 8)).off + 5, none⟩ eb).trans z1, (e ⟨(ad.add (i * 8)).block, (ad.add (i * 8)).off + 6, none⟩ eb).trans z2, (e ⟨(ad.add (i * 8)).block, (ad.add (i * 8)).off + 7, none⟩ eb).trans z3, ha.keep hk, hb.keep hk⟩
theorem PRow.up {w w' : World} {S : Nat → Prop} {ps : List (Ty × Ty)} {A : Option Addr} (h : PRow w S ps A) (hb : Below w.heap.size w w') : PRow w' S ps A := h.keep (fun k hk hl => ⟨hb.block k hl, hk⟩)
theorem PRow.elem {w : World} {S : Nat → Prop} {ps : List (Ty × Ty)} {A : Option Addr} (h : PRow w S ps A) {i : Nat} (hi : i < ps.length) :
    ∃ ad q s n A' m c q' s' n' A'' m' c', A = some ad ∧ S ad.block ∧ (ad.add (i * 8)).block = ad.block ∧ w.cell? (ad.add (i * 8)) = some (.int .i64 q) ∧ w.cell? ⟨(ad.add (i * 8)).block, (ad.add (i * 8)).off + 1, none⟩ = some (.string s) ∧ w.cell? ⟨(ad.add (i * 8)).block, (ad.add (i * 8)).off + 2, none⟩ = some (.int .i64 n) ∧ w.cell? ⟨(ad.add (i * 8)).block, (ad.add (i * 8)).off + 3, none⟩ = some (.slice A' m c) ∧
    w.cell? ⟨(ad.add (i * 8)).block, (ad.add (i * 8)).off + 4, none⟩ = some (.int .i64 q') ∧ w.cell? ⟨(ad.add (i * 8)).block, (ad.add (i * 8)).off + 5, none⟩ = some (.string s') ∧ w.cell? ⟨(ad.add (i * 8)).block, (ad.add (i * 8)).off + 6, none⟩ = some (.int .i64 n') ∧ w.cell? ⟨(ad.add (i * 8)).block, (ad.add (i * 8)).off + 7, none⟩ = some (.slice A'' m' c') ∧
    TAt w S ps[i].1 (.agg #[.int .i64 q, .string s, .int .i64 n, .slice A' m c]) ∧ TAt w S ps[i].2 (.agg #[.int .i64 q', .string s', .int .i64 n', .slice A'' m' c']) := by
  obtain ⟨ad, a0, a1, a2, a3, b0, b1, b2, b3, e0, e1, y0, y1, y2, y3, z0, z1, z2, z3, ha, hb⟩ := h i hi
  obtain ⟨q, s, n, A', m, c, rfl, rfl, rfl, rfl⟩ := ha.agg4
  obtain ⟨q', s', n', A'', m', c', rfl, rfl, rfl, rfl⟩ := hb.agg4
  exact ⟨ad, q, s, n, A', m, c, q', s', n', A'', m', c', e0, e1, add_block _ _, y0, y1, y2, y3, z0, z1, z2, z3, ha, hb⟩
theorem trod_struct2F {H : Type} {enc : TypeId × Value → H} {P : Program} {w : World} {base : Nat} {spare : Nat → Bool} {held : Bool} {t : TypeId} {f0 f1 : Field} {fuel : Nat} {cs : List Value} {x : DataW H × List MemPlace} (ht : P.underlying t = some (.struct #[f0, f1])) (h : DataW.trod enc P w base spare held fuel t cs = some x) :
    ∃ y0 y1 n, fuel = n + 1 ∧ x = (.agg [y0.1, y1.1], y0.2 ++ y1.2) ∧ cs.length = P.cellsOf t ∧ DataW.trod enc P w base spare held n f0.type ((cs.drop f0.offset).take (P.cellsOf f0.type)) = some y0 ∧
      DataW.trod enc P w base spare held n f1.type ((cs.drop f1.offset).take (P.cellsOf f1.type)) = some y1 := by
  obtain ⟨xs, n, hn, rfl, hl, hlen, hf⟩ := DataW.trod_struct ht h
  match xs, hlen with
  | [y0, y1], _ => exact ⟨y0, y1, n, hn, by simp, hl, by simpa using hf 0 f0 rfl, by simpa using hf 1 f1 rfl⟩
set_option maxRecDepth 100000 in
/-- A handed-in pair is two trees. -/
theorem pair_of_trod {H : Type} {enc : TypeId × Value → H} {W : World} {B base : Nat} {sp : Nat → Bool} {hd : Bool} {fuel : Nat} {cs : List Value} {x : DataW H × List MemPlace}
    (h : DataW.trod enc Tryd.prog W base sp hd fuel 43 cs = some x) (hlt : ∀ p ∈ x.2, p.block < B) : ∃ (y : Ty × Ty) (a0 a1 a2 a3 b0 b1 b2 b3 : Value), cs = [a0, a1, a2, a3, b0, b1, b2, b3] ∧ TAt W (fun b => b < B) y.1 (.agg #[a0, a1, a2, a3]) ∧ TAt W (fun b => b < B) y.2 (.agg #[b0, b1, b2, b3]) := by
  have hc : Tryd.prog.cellsOf 24 = 4 := by kernel_rfl
  have hc2 : Tryd.prog.cellsOf 43 = 8 := by kernel_rfl
  obtain ⟨y0, y1, n, rfl, rfl, hl, h0, h1⟩ := trod_struct2F Tryd.underlying43 h
  rw [hc2] at hl
  match cs, hl with
  | [c0, c1, c2, c3, c4, c5, c6, c7], _ =>
  simp only [hc, List.drop_zero, List.drop_succ_cons, List.take_succ_cons, List.take_zero] at h0 h1
  obtain ⟨t, d0, d1, d2, d3, e, ht⟩ := ty_of_trod h0 (fun p hp => hlt p (by simp [hp]))
  obtain ⟨u, g0, g1, g2, g3, e2, hu⟩ := ty_of_trod h1 (fun p hp => hlt p (by simp [hp]))
  simp only [List.cons.injEq, and_true] at e e2
  obtain ⟨rfl, rfl, rfl, rfl⟩ := e
  obtain ⟨rfl, rfl, rfl, rfl⟩ := e2
  exact ⟨(t, u), _, _, _, _, _, _, _, _, rfl, ht, hu⟩
/-- A handed-in slice of pairs. -/
def PsAt (w : World) (S : Nat → Prop) (ps : List (Ty × Ty)) (v : Value) : Prop := ∃ A c, v = .slice A ps.length c ∧ ps.length ≤ c ∧ c ≤ maxLen ∧ PRow w S ps A
theorem PsAt.up {w w' : World} {S : Nat → Prop} {ps : List (Ty × Ty)} {v : Value} (h : PsAt w S ps v) (hb : Below w.heap.size w w') : PsAt w' S ps v := by
  obtain ⟨A, c, h1, h2, h3, h4⟩ := h
  exact ⟨A, c, h1, h2, h3, h4.up hb⟩
set_option maxRecDepth 100000 in
theorem open_pairs {H : Type} {enc : TypeId × Value → H} {W : World} {B b0 b1 : Nat} {sp : Nat → Bool} {hd : Bool} {v : Value} {d : DataW H} {ps : List MemPlace} (hval : Value.okWide Tryd.prog W .any b1 34 v) (h : DataW.Trod enc Tryd.prog W b0 sp hd 34 v d ps) (hlt : ∀ p ∈ ps, p.block < B) :
    ∃ l, PsAt W (fun b => b < B) l v := by
  have hc2 : Tryd.prog.cellsOf 43 = 8 := by kernel_rfl
  obtain ⟨fuel, hf⟩ := h
  obtain ⟨A0, n0, c0, rfl⟩ := okWide_slice Tryd.underlying34 hval
  dsimp only [Value.cells] at hf
  rcases DataW.trod_slice Tryd.underlying34 hf with ⟨e2, _⟩ | ⟨a, len, cap, elems, rest, m, rfl, e2, hx, hb, hlc, hcm, hel, he, _, _⟩
  · simp only [List.cons.injEq, and_true] at e2
    injection e2 with e3 e4 e5
    subst e3 e4 e5
    exact ⟨[], none, 0, rfl, Nat.le_refl _, Nat.zero_le _, fun i hi => by simp at hi⟩
  · simp only [List.cons.injEq, and_true] at e2
    injection e2 with e3 e4 e5
    subst e3 e4 e5
    injection hx with _ hx
    have hE : ∀ i, i < n0 → ∃ (y : Ty × Ty), ∃ a0 a1 a2 a3 b0 b1 b2 b3 : Value, W.cell? (a.add (i * 8)) = some a0 ∧ W.cell? ⟨(a.add (i * 8)).block, (a.add (i * 8)).off + 1, none⟩ = some a1 ∧ W.cell? ⟨(a.add (i * 8)).block, (a.add (i * 8)).off + 2, none⟩ = some a2 ∧ W.cell? ⟨(a.add (i * 8)).block, (a.add (i * 8)).off + 3, none⟩ = some a3 ∧
        W.cell? ⟨(a.add (i * 8)).block, (a.add (i * 8)).off + 4, none⟩ = some b0 ∧ W.cell? ⟨(a.add (i * 8)).block, (a.add (i * 8)).off + 5, none⟩ = some b1 ∧ W.cell? ⟨(a.add (i * 8)).block, (a.add (i * 8)).off + 6, none⟩ = some b2 ∧ W.cell? ⟨(a.add (i * 8)).block, (a.add (i * 8)).off + 7, none⟩ = some b3 ∧ TAt W (fun b => b < B) y.1 (.agg #[a0, a1, a2, a3]) ∧ TAt W (fun b => b < B) y.2 (.agg #[b0, b1, b2, b3]) := by
      intro i hi
      have h3 := he i hi
      rw [hc2] at h3
      have hi2 : i < elems.length := by omega
      rw [List.getElem?_eq_getElem hi2] at h3
      cases hcell : W.cells? b0 (a.add (i * 8)) 8 with
      | none => rw [hcell] at h3; simp at h3
      | some cs =>
        rw [hcell] at h3
        simp only [Option.bind_some] at h3
        obtain ⟨y, a0, a1, a2, a3, c0, c1, c2, c3, rfl, ha, hb⟩ := pair_of_trod h3 (fun p hp => hlt p (by rw [hx]; exact List.mem_append_right _ (List.mem_flatMap.2 ⟨_, List.mem_append_left _ (List.getElem_mem hi2), hp⟩)))
        obtain ⟨_, _, hg⟩ := World.cells?_some hcell
        have g0 := hg 0 (by omega)
        have g1 := hg 1 (by omega)
        have g2 := hg 2 (by omega)
        have g3 := hg 3 (by omega)
        have g4 := hg 4 (by omega)
        have g5 := hg 5 (by omega)
        have g6 := hg 6 (by omega)
        have g7 := hg 7 (by omega)
        have e0 : (a.add (i * 8)).add 0 = a.add (i * 8) := by unfold Addr.add; simp
        have ej : ∀ j, 0 < j → (a.add (i * 8)).add j = ⟨(a.add (i * 8)).block, (a.add (i * 8)).off + j, none⟩ := by intro j hj; generalize a.add (i * 8) = q; unfold Addr.add; rw [if_neg (by omega)]
        rw [e0] at g0
        rw [ej _ (by omega)] at g1 g2 g3 g4 g5 g6 g7
        exact ⟨y, a0, a1, a2, a3, c0, c1, c2, c3, g0, g1, g2, g3, g4, g5, g6, g7, ha, hb⟩
    obtain ⟨f, hf2⟩ := Deep.choose_lt hE
    refine ⟨(List.range n0).map f, some a, c0, by simp, by simpa using hlc, hcm, fun i hi => ?_⟩
    have hi2 : i < n0 := by simpa using hi
    obtain ⟨a0, a1, a2, a3, c0, c1, c2, c3, q⟩ := hf2 i hi2
    refine ⟨a, a0, a1, a2, a3, c0, c1, c2, c3, rfl, ?_, by simpa using q⟩
    have : MemPlace.cell a.block (a.off + 0) ∈ ps := by
      rw [hx]
      refine List.mem_append_left _ (List.mem_map.2 ⟨0, ?_, rfl⟩)
      rw [hc2]
      simp
      omega
    exact hlt _ this
set_option maxRecDepth 100000 in
theorem open_pair {H : Type} {enc : TypeId × Value → H} {W : World} {B b0 b1 : Nat} {sp : Nat → Bool} {hd : Bool} {v : Value} {d : DataW H} {ps : List MemPlace} (hval : Value.okWide Tryd.prog W .any b1 43 v) (h : DataW.Trod enc Tryd.prog W b0 sp hd 43 v d ps) (hlt : ∀ p ∈ ps, p.block < B) :
    ∃ x, PAt W (fun b => b < B) x v := by
  obtain ⟨cs, rfl, hsz⟩ := okWide_struct Tryd.underlying43 hval
  obtain ⟨fuel, hf⟩ := h
  obtain ⟨y, a0, a1, a2, a3, c0, c1, c2, c3, e, ha, hb⟩ := pair_of_trod hf hlt
  dsimp only [Value.cells] at e
  exact ⟨y, a0, a1, a2, a3, c0, c1, c2, c3, by congr 1; apply Array.ext'; simpa using e, ha, hb⟩
/-- One pair in a block. -/
theorem pair_row {w : World} {g : Nat} {x : Ty × Ty} {a0 a1 a2 a3 b0 b1 b2 b3 : Value} (h : Blk w g 43 #[a0, a1, a2, a3, b0, b1, b2, b3]) (ha : TAt w (fun _ => True) x.1 (.agg #[a0, a1, a2, a3])) (hb : TAt w (fun _ => True) x.2 (.agg #[b0, b1, b2, b3])) : PsAt w (fun _ => True) [x] (.slice (some ⟨g, 0, none⟩) 1 1) := by
  refine ⟨_, 1, rfl, Nat.le_refl _, by unfold maxLen; omega, fun i hi => ?_⟩
  obtain rfl : i = 0 := by simpa using hi
  exact ⟨_, a0, a1, a2, a3, b0, b1, b2, b3, rfl, trivial, h.cell 0, h.cell 1, h.cell 2, h.cell 3, h.cell 4, h.cell 5, h.cell 6, h.cell 7, ha, hb⟩
end Go.Proofs.YtnlifgcnmhakiaaDoor
