/-
  CORE EXPRESSIONS THAT ARE HANDED IN.
-/
import Derived.Test.YtohdaclbgedeiaaEWake
import Derived.Test.YtohdaclbgedeiaaEClosed
import Derived.Deep.Strs
namespace Go.Proofs.Ytohdaclbgedeiaa
set_option linter.all false
open Go.ChangeShapes Go.WideShapes Go.ChangeAt Go.RowKit
open Ev (Co)
instance : Inhabited Co := ⟨.mk 0 0 0 0 false [] []⟩
/-- No part weighs more than a process may hold. -/
def WtOk {H : Type} (P : Program) (t : TypeId) (d : DataW H) : Prop := ∀ n ∈ d.weights P t, n ≤ reachBytes
theorem weightsAll_mem {H : Type} {P : Program} {e : TypeId} : ∀ {ds : List (DataW H)} {d : DataW H}, d ∈ ds → ∀ n ∈ d.weights P e, n ∈ DataW.weightsAll P e ds
  | d0 :: ds, d, hd, n, hn => by
    rw [DataW.weightsAll, List.mem_append]
    rcases List.mem_cons.1 hd with rfl | hd
    · exact .inl hn
    · exact .inr (weightsAll_mem hd n hn)
theorem slice_of_trodW {H : Type} {enc : TypeId × Value → H} {P : Program} {W : World} {base : Nat} {sp : Nat → Bool} {hd : Bool} {t te : TypeId} {n bt B fuel : Nat} {E : List Value → Prop} (ht : P.underlying t = some (.slice te)) (hn : P.cellsOf te = n) (hbt : P.bytesOf te = bt) (hpos : 0 < n)
    (hE : ∀ m es y, m < fuel → DataW.trod enc P W base sp hd m te es = some y → (∀ p ∈ y.2, p.block < B) → WtOk P te y.1 → E es) {cs : List Value} {x : DataW H × List MemPlace} (h : DataW.trod enc P W base sp hd fuel t cs = some x) (hlt : ∀ p ∈ x.2, p.block < B) (hw : WtOk P t x.1) :
    ∃ A len c, cs = [.slice A len c] ∧ len ≤ c ∧ c ≤ maxLen ∧ len * bt ≤ reachBytes ∧ (A = none → len = 0 ∧ c = 0) ∧ ∀ i, i < len → ∃ ad es, A = some ad ∧ ad.block < B ∧ W.cells? base (ad.add (i * n)) n = some es ∧ E es := by
  rcases DataW.trod_slice ht h with ⟨e2, _⟩ | ⟨a, len, cap, elems, rest, m, rfl, e2, hx, hb, hlc, hcm, hel, he, _, _⟩
  · exact ⟨none, 0, 0, e2, Nat.le_refl _, Nat.zero_le _, by simp, fun _ => ⟨rfl, rfl⟩, fun i hi => by omega⟩
  · have hw1 : ∀ k ∈ (DataW.slice (elems.map (·.1)) (rest.map (·.1))).weights P t, k ≤ reachBytes := by rw [hx] at hw; exact hw
    simp only [DataW.weights, ht] at hw1
    refine ⟨some a, len, cap, e2, hlc, hcm, ?_, fun h => (by cases h), fun i hi => ?_⟩
    · have h9 := hw1 _ (List.mem_cons_self)
      rw [hbt] at h9
      simp only [List.length_map] at h9
      rw [hel, Nat.add_mul] at h9
      omega
    have h3 := he i hi
    rw [hn] at h3
    have hi2 : i < elems.length := by omega
    rw [List.getElem?_eq_getElem hi2] at h3
    cases hcell : W.cells? base (a.add (i * n)) n with
    | none => rw [hcell] at h3; simp at h3
    | some es =>
      rw [hcell] at h3
      simp only [Option.bind_some] at h3
      refine ⟨a, es, rfl, ?_, hcell, hE _ _ _ (by omega) h3 (fun p hp => hlt p (by rw [hx]; exact List.mem_append_right _ (List.mem_flatMap.2 ⟨_, List.mem_append_left _ (List.getElem_mem hi2), hp⟩))) (fun k hk => hw1 k (List.mem_cons_of_mem _ (List.mem_append_left _ (weightsAll_mem (List.mem_map.2 ⟨_, List.getElem_mem hi2, rfl⟩) k hk))))⟩
      have : MemPlace.cell a.block (a.off + 0) ∈ x.2 := by
        rw [hx]
        refine List.mem_append_left _ (List.mem_map.2 ⟨0, ?_, rfl⟩)
        rw [hn]
        simp only [List.mem_range]
        exact Nat.mul_pos (by omega) hpos
      exact hlt _ this
theorem cell_of_cells {W : World} {base : Nat} {q : Addr} {n : Nat} {es : List Value} (h : W.cells? base q n = some es) : es.length = n ∧ (∀ v, es[0]? = some v → W.cell? q = some v) ∧ (∀ j v, 0 < j → es[j]? = some v → W.cell? ⟨q.block, q.off + j, none⟩ = some v) := by
  obtain ⟨h0, h1, hg⟩ := World.cells?_some h
  have hl : es.length = n := by first | exact h0 | exact h0.symm | exact h1 | exact h1.symm | omega
  refine ⟨hl, fun v hv => ?_, fun j v hj hv => ?_⟩
  · have hi := (List.getElem?_eq_some_iff.1 hv).1
    have := hg 0 (by omega)
    rw [show q.add 0 = q from by unfold Addr.add; simp] at this
    rw [this]
    first | exact hv | simpa using hv
  · have hi := (List.getElem?_eq_some_iff.1 hv).1
    have := hg j (by omega)
    rw [show q.add j = ⟨q.block, q.off + j, none⟩ from by unfold Addr.add; rw [if_neg (by omega)]] at this
    rw [this]
    first | exact hv | simpa using hv
theorem trod_struct7F {H : Type} {enc : TypeId × Value → H} {P : Program} {w : World} {base : Nat} {spare : Nat → Bool} {held : Bool} {t : TypeId} {f0 f1 f2 f3 f4 f5 f6 : Field} {fuel : Nat} {cs : List Value} {x : DataW H × List MemPlace} (ht : P.underlying t = some (.struct #[f0, f1, f2, f3, f4, f5, f6])) (h : DataW.trod enc P w base spare held fuel t cs = some x) :
    ∃ y0 y1 y2 y3 y4 y5 y6 n, fuel = n + 1 ∧ x = (.agg [y0.1, y1.1, y2.1, y3.1, y4.1, y5.1, y6.1], y0.2 ++ (y1.2 ++ (y2.2 ++ (y3.2 ++ (y4.2 ++ (y5.2 ++ y6.2)))))) ∧ cs.length = P.cellsOf t ∧ DataW.trod enc P w base spare held n f0.type ((cs.drop f0.offset).take (P.cellsOf f0.type)) = some y0 ∧
      DataW.trod enc P w base spare held n f1.type ((cs.drop f1.offset).take (P.cellsOf f1.type)) = some y1 ∧ DataW.trod enc P w base spare held n f2.type ((cs.drop f2.offset).take (P.cellsOf f2.type)) = some y2 ∧ DataW.trod enc P w base spare held n f3.type ((cs.drop f3.offset).take (P.cellsOf f3.type)) = some y3 ∧
      DataW.trod enc P w base spare held n f4.type ((cs.drop f4.offset).take (P.cellsOf f4.type)) = some y4 ∧ DataW.trod enc P w base spare held n f5.type ((cs.drop f5.offset).take (P.cellsOf f5.type)) = some y5 ∧ DataW.trod enc P w base spare held n f6.type ((cs.drop f6.offset).take (P.cellsOf f6.type)) = some y6 := by
  obtain ⟨xs, n, hn, rfl, hl, hlen, hf⟩ := DataW.trod_struct ht h
  match xs, hlen with
  | [y0, y1, y2, y3, y4, y5, y6], _ => exact ⟨y0, y1, y2, y3, y4, y5, y6, n, hn, by simp, hl, by simpa using hf 0 f0 rfl, by simpa using hf 1 f1 rfl, by simpa using hf 2 f2 rfl, by simpa using hf 3 f3 rfl, by simpa using hf 4 f4 rfl, by simpa using hf 5 f5 rfl, by simpa using hf 6 f6 rfl⟩
/-- A handed-in row of integers. -/
theorem iat_of {H : Type} {enc : TypeId × Value → H} {W : World} {B base : Nat} {sp : Nat → Bool} {hd : Bool} {fuel : Nat} {cs : List Value} {x : DataW H × List MemPlace} (h : DataW.trod enc Try.prog W base sp hd fuel 22 cs = some x) (hlt : ∀ p ∈ x.2, p.block < B) (hw : WtOk Try.prog 22 x.1) :
    ∃ (ts : List Int) (A : Option Addr) (c : Nat), cs = [.slice A ts.length c] ∧ IAt W (fun b => b < B) ts A c := by
  obtain ⟨A, len, c, h1, h2, h3, h4, h5, h6⟩ := slice_of_trodW (n := 1) (bt := 8) (E := fun es => ∃ k : Int, es = [.int .i64 k] ∧ (Lit.int .i64 k).wf = true) Try.underlying22 (by kernel_rfl) (by kernel_rfl) (by omega) (fun m es y _ hy _ _ => by obtain ⟨k, e, _, hk⟩ := DataW.trod_int Try.underlying3 hy; exact ⟨k, e, hk⟩) h hlt hw
  have hf : ∀ i, i < len → ∃ k : Int, ∃ ad, A = some ad ∧ ad.block < B ∧ W.cell? (ad.add i) = some (.int .i64 k) ∧ (Lit.int .i64 k).wf = true := by
    intro i hi
    obtain ⟨ad, es, g1, g2, g3, k, rfl, g4⟩ := h6 i hi
    rw [Nat.mul_one] at g3
    obtain ⟨_, k0, _⟩ := cell_of_cells g3
    exact ⟨k, ad, g1, g2, k0 _ rfl, g4⟩
  obtain ⟨f, hf2⟩ := Deep.choose_lt hf
  have hl : len ≤ 17592186044416 := by unfold reachBytes at h4; omega
  refine ⟨(List.range len).map f, A, c, by simpa using h1, ⟨by simpa using h2, h3, fun e => ?_, by simpa using hl⟩, fun j hj => ?_⟩
  · obtain ⟨rfl, rfl⟩ := h5 e
    exact ⟨rfl, rfl⟩
  · obtain ⟨ad, e1, e2, e3, e4⟩ := hf2 j (by simpa using hj)
    exact ⟨ad, e1, e2, by simpa using e3, by simpa using e4⟩
def CoE (W : World) (B : Nat) (es : List Value) : Prop := ∃ t c0 c1 c2 c3 c4 c5 c6, es = [c0, c1, c2, c3, c4, c5, c6] ∧ CAt W (fun b => b < B) t (.agg #[c0, c1, c2, c3, c4, c5, c6])
set_option maxRecDepth 100000 in
theorem cos_of {H : Type} {enc : TypeId × Value → H} {W : World} {B base : Nat} {sp : Nat → Bool} {hd : Bool} {fuel : Nat} {cs : List Value} {x : DataW H × List MemPlace} (ih : ∀ m es y, m < fuel → DataW.trod enc Try.prog W base sp hd m 25 es = some y → (∀ p ∈ y.2, p.block < B) → WtOk Try.prog 25 y.1 → CoE W B es)
    (h : DataW.trod enc Try.prog W base sp hd fuel 23 cs = some x) (hlt : ∀ p ∈ x.2, p.block < B) (hw : WtOk Try.prog 23 x.1) : ∃ (us : List Co) (A : Option Addr) (c : Nat), cs = [.slice A us.length c] ∧ Sz us A c ∧ CRow W (fun b => b < B) us A 0 := by
  obtain ⟨A, len, c, h1, h2, h3, h4, h5, h6⟩ := slice_of_trodW (n := 7) (bt := 88) (E := CoE W B) Try.underlying23 (by kernel_rfl) (by kernel_rfl) (by omega) ih h hlt hw
  have hf : ∀ i, i < len → ∃ t : Co, ∃ ad v0 v1 v2 v3 v4 v5 v6, A = some ad ∧ ad.block < B ∧ ((W).cell? (ad.add (i * 7)) = some (v0) ∧ (W).cell? ⟨(ad.add (i * 7)).block, (ad.add (i * 7)).off + 1, none⟩ = some (v1) ∧ (W).cell? ⟨(ad.add (i * 7)).block, (ad.add (i * 7)).off + 2, none⟩ = some (v2) ∧ (W).cell? ⟨(ad.add (i * 7)).block, (ad.add (i * 7)).off + 3, none⟩ = some (v3) ∧ (W).cell? ⟨(ad.add (i * 7)).block, (ad.add (i * 7)).off + 4, none⟩ = some (v4) ∧ (W).cell? ⟨(ad.add (i * 7)).block, (ad.add (i * 7)).off + 5, none⟩ = some (v5) ∧ (W).cell? ⟨(ad.add (i * 7)).block, (ad.add (i * 7)).off + 6, none⟩ = some (v6)) ∧ CAt W (fun b => b < B) t (.agg #[v0, v1, v2, v3, v4, v5, v6]) := by
    intro i hi
    obtain ⟨ad, es, g1, g2, g3, t, c0, c1, c2, c3, c4, c5, c6, rfl, g4⟩ := h6 i hi
    obtain ⟨_, k0, k1⟩ := cell_of_cells g3
    exact ⟨t, ad, c0, c1, c2, c3, c4, c5, c6, g1, g2, ⟨k0 _ rfl, k1 1 _ (by omega) rfl, k1 2 _ (by omega) rfl, k1 3 _ (by omega) rfl, k1 4 _ (by omega) rfl, k1 5 _ (by omega) rfl, k1 6 _ (by omega) rfl⟩, g4⟩
  obtain ⟨f, hf2⟩ := Deep.choose_lt hf
  have hl : len ≤ 17592186044416 := by unfold reachBytes at h4; omega
  refine ⟨(List.range len).map f, A, c, by simpa using h1, ⟨by simpa using h2, h3, fun e => ?_, by simpa using hl⟩, ?_⟩
  · obtain ⟨rfl, rfl⟩ := h5 e
    exact ⟨rfl, rfl⟩
  · by_cases hl : len = 0
    · subst hl
      simp only [List.range_zero, List.map_nil]
      rw [CRow]; trivial
    · obtain ⟨ad, _, _, _, _, _, _, _, rfl, hb, _⟩ := hf2 0 (by omega)
      refine CRow.mk hb _ 0 (fun k hk => ?_)
      have hk2 : k < len := by simpa using hk
      obtain ⟨ad', v0, v1, v2, v3, v4, v5, v6, e, q⟩ := hf2 k hk2
      injection e with e
      subst e
      rw [Nat.zero_add]
      exact ⟨v0, v1, v2, v3, v4, v5, v6, q.2.1, by simpa using q.2.2⟩
set_option maxRecDepth 100000 in
theorem co_of_trod {H : Type} {enc : TypeId × Value → H} {W : World} {B base : Nat} {sp : Nat → Bool} {hd : Bool} : ∀ {fuel : Nat} {cs : List Value} {x : DataW H × List MemPlace}
    (_ : DataW.trod enc Try.prog W base sp hd fuel 25 cs = some x) (_ : ∀ p ∈ x.2, p.block < B) (_ : WtOk Try.prog 25 x.1), CoE W B cs := by
  have hc : Try.prog.cellsOf 25 = 7 := by kernel_rfl
  have hci : Try.prog.cellsOf 3 = 1 := by kernel_rfl
  have hcb : Try.prog.cellsOf 4 = 1 := by kernel_rfl
  have hcs : Try.prog.cellsOf 22 = 1 := by kernel_rfl
  have hcc : Try.prog.cellsOf 23 = 1 := by kernel_rfl
  intro fuel
  induction fuel using Nat.strongRecOn with
  | _ fuel ih =>
  intro cs x h hlt hw
  obtain ⟨y0, y1, y2, y3, y4, y5, y6, n, rfl, rfl, hl, h0, h1, h2, h3, h4, h5, h6⟩ := trod_struct7F Try.underlying25 h
  have hw5 : WtOk Try.prog 22 y5.1 := fun k hk => hw k (by simp only [DataW.weights, Try.underlying25]; exact DataW.weights_mem_each (j := 5) rfl rfl k hk)
  have hw6 : WtOk Try.prog 23 y6.1 := fun k hk => hw k (by simp only [DataW.weights, Try.underlying25]; exact DataW.weights_mem_each (j := 6) rfl rfl k hk)
  rw [hc] at hl
  match cs, hl with
  | [c0, c1, c2, c3, c4, c5, c6], _ =>
  simp only [hci, hcs, hcb, hcc, List.drop_zero, List.drop_succ_cons, List.take_succ_cons, List.take_zero] at h0 h1 h2 h3 h4 h5 h6
  obtain ⟨k, e0, _, hk⟩ := DataW.trod_int Try.underlying3 h0
  obtain ⟨a, e1, _, ha⟩ := DataW.trod_int Try.underlying3 h1
  obtain ⟨b, e2, _, hb⟩ := DataW.trod_int Try.underlying3 h2
  obtain ⟨m, e3, _, hm⟩ := DataW.trod_int Try.underlying3 h3
  obtain ⟨i, e4, _⟩ := DataW.trod_bool Try.underlying4 h4
  obtain ⟨ts, T5, tc, e5, g5⟩ := iat_of h5 (fun p hp => hlt p (by simp [hp])) hw5
  obtain ⟨us, A6, ac, e6, g6, g7⟩ := cos_of (fun m es y hm hy hp => ih m (by omega) hy hp) h6 (fun p hp => hlt p (by simp [hp])) hw6
  simp only [List.cons.injEq, and_true] at e0 e1 e2 e3 e4 e5 e6
  subst e0 e1 e2 e3 e4 e5 e6
  exact ⟨.mk k a b m i ts us, _, _, _, _, _, _, _, rfl, CAt.make rfl rfl g5 g6 g7 ⟨hk, ha, hb, hm⟩⟩
set_option maxRecDepth 100000 in
theorem open_core {H : Type} {enc : TypeId × Value → H} {W : World} {B b0 b1 : Nat} {sp : Nat → Bool} {hd : Bool} {v : Value} {d : DataW H} {ps : List MemPlace} (hval : Value.okWide Try.prog W .any b1 25 v) (h : DataW.Trod enc Try.prog W b0 sp hd 25 v d ps) (hlt : ∀ p ∈ ps, p.block < B) (hw : WtOk Try.prog 25 d) :
    ∃ t, CAt W (fun b => b < B) t v := by
  obtain ⟨cs, rfl, hsz⟩ := okWide_struct Try.underlying25 hval
  obtain ⟨fuel, hf⟩ := h
  obtain ⟨t, c0, c1, c2, c3, c4, c5, c6, e, ht⟩ := co_of_trod hf hlt hw
  dsimp only [Value.cells] at e
  refine ⟨t, ?_⟩
  have : cs = #[c0, c1, c2, c3, c4, c5, c6] := by apply Array.ext'; simpa using e
  rw [this]
  exact ht
set_option maxRecDepth 100000 in
theorem open_iat {H : Type} {enc : TypeId × Value → H} {W : World} {B b0 b1 : Nat} {sp : Nat → Bool} {hd : Bool} {v : Value} {d : DataW H} {ps : List MemPlace} (hval : Value.okWide Try.prog W .any b1 22 v) (h : DataW.Trod enc Try.prog W b0 sp hd 22 v d ps) (hlt : ∀ p ∈ ps, p.block < B) (hw : WtOk Try.prog 22 d) : ∃ xs A c, v = .slice A xs.length c ∧ IAt W (fun b => b < B) xs A c := by
  obtain ⟨a, l, c, rfl⟩ := okWide_slice Try.underlying22 hval
  obtain ⟨fuel, hf⟩ := h
  obtain ⟨ts, A, c', e, hi⟩ := iat_of hf hlt hw
  simp only [Value.cells, List.cons.injEq, and_true] at e
  exact ⟨ts, A, c', e, hi⟩
theorem wt_of {H : Type} {P : Program} {ts : List TypeId} {ds : List (DataW H)} (h : (DataW.weightsEach P ts ds).all (· ≤ reachBytes) = true) {j : Nat} {t : TypeId} {d : DataW H} (ht : ts[j]? = some t) (hd : ds[j]? = some d) : WtOk P t d := fun n hn => by
  have := List.all_eq_true.1 h n (DataW.weights_mem_each ht hd n hn)
  simpa using this
end Go.Proofs.Ytohdaclbgedeiaa
