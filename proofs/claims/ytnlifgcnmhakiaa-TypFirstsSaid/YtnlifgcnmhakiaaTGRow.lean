/-
  ROWS OF ONE'S OWN, OF WHATEVER ELEMENTS, ONE BY ONE; append OF WHATEVER ROW.
-/
import Derived.Test.YtnlifgcnmhakiaaTFresh
import Derived.Test.YtnlifgcnmhakiaaTLargeD
namespace Go.Proofs.Ytnlifgcnmhakiaa
open Go.ChangeShapes Go.WideShapes Go.ChangeAt Go.RowKit

set_option maxRecDepth 100000 in
/-- Whatever row behind a row of one's own. -/
theorem run_appM {TS TE : TypeId} {z : Value} {sz by_ : Nat} (hu : Try.prog.underlying TS = some (.slice TE)) (hinfo : InfoIs Try.prog TE z sz by_) (hzc : z.cells.size = sz) (hsz : 0 < sz) (hby : by_ ≤ 100)
    (w : World) (ty : TypeId) (B : Nat) {v : Value} {n : Nat} {xs : List Value} (hown : w.ownsRow B TE sz v n xs) {A : Option Addr} {m c : Nat} {news : List Value} (hA : A = none → m = 0 ∧ c = 0) (hl : news.length = m * sz) (hcell : ∀ ad, A = some ad → ∀ j u, news[j]? = some u → w.cell? (ad.add j) = some u) (h1 : ∀ u ∈ news, u.oneCell' = true) (hlen : n + m ≤ 1000000) (hB : B ≤ w.heap.size) :
    ∃ v' w', (Builtin.append_ #[TS, TS] ty #[v, .slice A m c]).run Try.prog w = .ok v' w' ∧ w'.ownsRow B TE sz v' (n + m) (xs ++ news) ∧ w.grownBy w' v.ownBlock ∧
      (∀ g, v'.ownBlock = some g → v.ownBlock = some g ∨ w.heap.size ≤ g) := by
  obtain ⟨i, hi1, hz, hs1, hs2⟩ := hinfo.parts
  have hbig : (n + m) * by_ ≤ 140737488355328 := Nat.le_trans (Nat.mul_le_mul hlen hby) (by omega)
  cases A with
  | none =>
    obtain ⟨rfl, rfl⟩ := hA rfl
    obtain rfl : news = [] := List.length_eq_zero_iff.1 (by rw [hl]; omega)
    exact ⟨v, w, run_append_owned_none (P := Try.prog) (w := w) B TS ty TE i sz hu hi1 v n xs hown, by simpa using hown, ⟨rfl, rfl, rfl, Nat.le_refl _, fun _ _ _ => rfl⟩, fun g hg => .inl hg⟩
  | some ad =>
    obtain ⟨v', w', hr, h2, h3, _, h4⟩ := run_append_own_at (P := Try.prog) w B TS ty TE i z sz by_ hu hi1 hz hs1 hs2 hzc hsz v n xs hown ad m c news hl (hcell ad rfl) h1 (by unfold maxLen; omega) hbig hB
    refine ⟨v', w', hr, h2, h3, fun g hg => ?_⟩
    rcases h4 with h4 | h4
    · exact .inl (h4 ▸ hg)
    · rw [h4] at hg; injection hg with hg; exact .inr (by omega)
set_option maxRecDepth 100000 in
theorem wpList_appM {TS TE : TypeId} {z : Value} {sz by_ : Nat} (hu : Try.prog.underlying TS = some (.slice TE)) (hinfo : InfoIs Try.prog TE z sz by_) (hzc : z.cells.size = sz) (hsz : 0 < sz) (hby : by_ ≤ 100)
    {w : World} {ops : Array Oper} {rest : List Oper} {o : Oper} {a : Act} {Q : Exit → Act → World → Prop} (hgd : o.guard = none) (s x : Operand)
    (ho : o.op = .call { callee := .builtin .append, args := #[s, x], argTypes := #[TS, TS] })
    (B : Nat) {v : Value} {n : Nat} {xs : List Value} (hs : a.eval s = v) (hown : w.ownsRow B TE sz v n xs) {A : Option Addr} {m c : Nat} {news : List Value} (hx : a.eval x = .slice A m c) (hA : A = none → m = 0 ∧ c = 0) (hl : news.length = m * sz) (hcell : ∀ ad, A = some ad → ∀ j u, news[j]? = some u → w.cell? (ad.add j) = some u) (h1 : ∀ u ∈ news, u.oneCell' = true)
    (hlen : n + m ≤ 1000000) (hB : B ≤ w.heap.size)
    (h : ∀ v' w', w'.ownsRow B TE sz v' (n + m) (xs ++ news) → w.grownBy w' v.ownBlock → (∀ g, v'.ownBlock = some g → v.ownBlock = some g ∨ w.heap.size ≤ g) → wpList Try.prog ops Q rest (a.put o.dst v') w') : wpList Try.prog ops Q (o :: rest) a w := by
  refine wpList_plain hgd fun _ hK => ?_
  obtain ⟨v', w', hr, r1, r2, r3⟩ := run_appM hu hinfo hzc hsz hby w o.type B hown hA hl hcell h1 hlen hB
  unfold Oper.wp execOp
  simp only [ho, resolve, invoke, builtin, Sem.run_bind, Sem.run_pure, Result.andThen_ok, List.map_toArray, List.map_cons, List.map_nil, hs, hx]
  rw [hr]
  exact hK _ _ (h v' w' r1 r2 r3)
theorem row_sliceG {w : World} {B n sz : Nat} {TE : TypeId} {v : Value} {xs : List Value} (h : w.ownsRow B TE sz v n xs) : ∃ A c, v = .slice A n c ∧ n ≤ c ∧ c ≤ maxLen ∧ (A = none → n = 0 ∧ c = 0) ∧ ∀ a, A = some a → a.spot = none ∧ a.off = 0 := by
  rcases h.2 with ⟨rfl, rfl⟩ | ⟨g, cap, cur, rfl, _, _, h1, h2, _⟩
  · exact ⟨none, 0, rfl, Nat.le_refl _, Nat.zero_le _, fun _ => ⟨rfl, rfl⟩, fun a ha => (by cases ha)⟩
  · exact ⟨_, cap, rfl, h1, h2, fun h => (by cases h), fun a ha => (by cases ha; exact ⟨rfl, rfl⟩)⟩
theorem row_cellsG {w : World} {R n c m sz : Nat} {TE : TypeId} {A : Option Addr} {xs : List Value} (h : w.ownsRow R TE sz (.slice A m c) n xs) : ∀ ad, A = some ad → (R ≤ ad.block ∧ ad.block < w.heap.size) ∧ ∀ j u, xs[j]? = some u → w.cell? (ad.add j) = some u := by
  intro ad hA
  subst hA
  obtain ⟨A5, c5, e5, l1, l2, l3, l4⟩ := row_sliceG h
  injection e5 with e6 e8 e7
  subst e6 e7 e8
  obtain ⟨h1, h2⟩ := l4 ad rfl
  have ha : ad = ⟨ad.block, 0, none⟩ := by obtain ⟨x, y, z⟩ := ad; simp_all
  have hb := h.lt ad.block rfl
  refine ⟨⟨by omega, by omega⟩, ?_⟩
  rw [ha]
  exact h.cells (g := ad.block) rfl
/-- A reading of elements that stays where their blocks stay. -/
def Keeps {α : Type} (E : World → (Nat → Prop) → α → List Value → Prop) : Prop := ∀ (w w' : World) (S T : Nat → Prop) (x : α) (vs : List Value), E w S x vs → Stays w w' S T → E w' T x vs
/-- A row of whatever elements that is being built. -/
structure GB {α : Type} (E : World → (Nat → Prop) → α → List Value → Prop) (TE : TypeId) (sz R : Nat) (us : List α) (i : Nat) (v : Value) (xs : List Value) (wr : World) : Prop where
  row : wr.ownsRow R TE sz v i xs
  kids : ∀ j, (hj : j < us.length) → j < i → ∃ vs : List Value, vs.length = sz ∧ (∀ k, k < sz → xs[j * sz + k]? = vs[k]?) ∧ E wr (fun b => R ≤ b ∧ v.ownBlock ≠ some b) us[j] vs
section
variable {α : Type} {E : World → (Nat → Prop) → α → List Value → Prop} {TE : TypeId} {sz R : Nat} {us : List α} {i : Nat} {v : Value} {xs : List Value} {wr w w' : World}
theorem GB.start (w : World) (R : Nat) (us : List α) : GB E TE sz R us 0 (.slice none 0 0) [] w := ⟨World.ownsRow_nil _ _ _ _, fun j hj h => by omega⟩
theorem GB.keep (hE : Keeps E) (h : GB E TE sz R us i v xs w) (hk : ∀ k, R ≤ k → k < w.heap.size → w'.heap[k]? = w.heap[k]?) : GB E TE sz R us i v xs w' := by
  refine ⟨row_keep h.row (fun g hg => hk g (h.row.lt g hg).1 (h.row.lt g hg).2), fun j hj hji => ?_⟩
  obtain ⟨vs, h1, h2, h3⟩ := h.kids j hj hji
  exact ⟨vs, h1, h2, hE _ _ _ _ _ _ h3 (fun k hk1 hk2 => ⟨hk k hk1.1 hk2, hk1⟩)⟩
theorem GB.up (hE : Keeps E) (h : GB E TE sz R us i v xs w) (hb : Below w.heap.size w w') : GB E TE sz R us i v xs w' := h.keep hE (fun k _ hk => hb.block k hk)
theorem GB.next (hE : Keeps E) (h : GB E TE sz R us i v xs wr) (hR : R ≤ wr.heap.size) (hi : i < us.length) {w3 w2 : World} {vs : List Value} {v' : Value} (hb : Below wr.heap.size wr w3) (hl : vs.length = sz)
    (hk : E w3 (fun b => wr.heap.size ≤ b) us[i] vs) (hr : w2.ownsRow R TE sz v' (i + 1) (xs ++ vs)) (hg : w3.grownBy w2 v.ownBlock) (hn : ∀ g, v'.ownBlock = some g → v.ownBlock = some g ∨ w3.heap.size ≤ g) :
    GB E TE sz R us (i + 1) v' (xs ++ vs) w2 ∧ Below R wr w2 := by
  have hs1 := hb.size
  have hlen : xs.length = i * sz := h.row.1
  have hgb : ∀ g, v.ownBlock = some g → g < wr.heap.size ∧ R ≤ g := fun g hg => by have := h.row.lt g hg; omega
  refine ⟨⟨hr, ?_⟩, ?_⟩
  · intro j hj hji
    by_cases hjj : j < i
    · obtain ⟨us', h1, h2, h3⟩ := h.kids j hj hjj
      refine ⟨us', h1, fun k hk9 => ?_, hE _ _ _ _ _ _ h3 (fun k hk1 hk2 => ⟨(hg.block k (by omega) (fun e => hk1.2 e.symm)).trans (hb.block k hk2), hk1.1, fun e => ?_⟩)⟩
      · have : j * sz + k < i * sz := by
          have : (j + 1) * sz ≤ i * sz := Nat.mul_le_mul_right _ hjj
          rw [Nat.succ_mul] at this
          omega
        rw [List.getElem?_append_left (by omega)]
        exact h2 k hk9
      · rcases hn k e with e | e
        · exact hk1.2 e
        · omega
    · obtain rfl : j = i := by omega
      refine ⟨vs, hl, fun k hk9 => ?_, hE _ _ _ _ _ _ hk (fun k hk1 hk2 => ⟨hg.block k hk2 (fun e => by have := hgb k e.symm; omega), by omega, fun e => ?_⟩)⟩
      · rw [List.getElem?_append_right (by omega), hlen, Nat.add_sub_cancel_left]
      · rcases hn k e with e | e
        · have := hgb k e; omega
        · omega
  · exact (hb.mono hR).grown hg (by omega) (fun k e => (hgb k e).2)
theorem GB.done {A : Option Addr} {c n m : Nat} (h : GB E TE sz R us n (.slice A m c) xs w) (hE : Keeps E) (hn : n = us.length) : m = us.length ∧ us.length ≤ c ∧ c ≤ maxLen ∧ (A = none → us = [] ∧ c = 0) ∧
    ∀ j, (hj : j < us.length) → ∃ ad vs, A = some ad ∧ (R ≤ ad.block ∧ ad.block < w.heap.size) ∧ vs.length = sz ∧ (∀ k u, k < sz → vs[k]? = some u → w.cell? (ad.add (j * sz + k)) = some u) ∧ E w (fun b => R ≤ b) us[j] vs := by
  subst hn
  have hc := row_cellsG h.row
  obtain ⟨A5, c5, e5, l1, l2, l3, l4⟩ := row_sliceG h.row
  injection e5 with e6 e8 e7
  subst e6 e7 e8
  refine ⟨rfl, l1, l2, fun h => ⟨List.length_eq_zero_iff.1 (l3 h).1, (l3 h).2⟩, fun j hj => ?_⟩
  obtain ⟨vs, h1, h2, h3⟩ := h.kids j hj hj
  cases hA : A with
  | none => have := (l3 hA).1; omega
  | some ad => exact ⟨ad, vs, rfl, (hc ad hA).1, h1, fun k u hk hu => (hc ad hA).2 _ _ ((h2 k hk).trans hu), hE _ _ _ _ _ _ h3 (fun k hk _ => ⟨rfl, hk.1⟩)⟩
end
theorem add_n (ad : Addr) (i n j : Nat) (hj : 0 < j) : ad.add (i * n + j) = ⟨(ad.add (i * n)).block, (ad.add (i * n)).off + j, none⟩ := by
  obtain ⟨b, o, s⟩ := ad
  unfold Addr.add
  rw [if_neg (show ¬ i * n + j = 0 by omega)]
  split <;> simp_all <;> omega
/-- A constructor's cells. -/
def CnV (w : World) (S : Nat → Prop) (k : Cn) (vs : List Value) : Prop := ∃ A c, vs = [.string k.name, .slice A k.fields.length c] ∧ k.fields.length ≤ c ∧ c ≤ maxLen ∧ (A = none → k.fields = [] ∧ c = 0) ∧ TRow w S k.fields A 0
theorem CnV.keeps : Keeps CnV := by
  rintro w w' S T x vs ⟨A, c, h1, h2, h3, h4, h5⟩ hk
  exact ⟨A, c, h1, h2, h3, h4, TRow.keep hk _ _ _ h5⟩
/-- A declared type's cells. -/
def DcV (w : World) (S : Nat → Prop) (d : Dc) (vs : List Value) : Prop := ∃ P pc C cc, vs = [.string d.name, .slice P d.params.length pc, .slice C d.cons.length cc, .int .i64 d.place] ∧
    (d.params.length ≤ pc ∧ pc ≤ maxLen ∧ (P = none → d.params = [] ∧ pc = 0) ∧ SRow w S d.params P) ∧ (d.cons.length ≤ cc ∧ cc ≤ maxLen ∧ (C = none → d.cons = [] ∧ cc = 0) ∧ CnRow w S d.cons C) ∧ (Lit.int .i64 d.place).wf = true
theorem DcV.keeps : Keeps DcV := by
  rintro w w' S T x vs ⟨P, pc, C, cc, h1, ⟨p1, p2, p3, p4⟩, ⟨q1, q2, q3, q4⟩, h9⟩ hk
  exact ⟨P, pc, C, cc, h1, ⟨p1, p2, p3, p4.keep hk⟩, ⟨q1, q2, q3, q4.keep hk⟩, h9⟩
theorem GB.cons {R n m c : Nat} {ks : List Cn} {A : Option Addr} {xs : List Value} {w : World} (h : GB CnV 85 2 R ks n (.slice A m c) xs w) (hn : n = ks.length) : m = ks.length ∧ ks.length ≤ c ∧ c ≤ maxLen ∧ (A = none → ks = [] ∧ c = 0) ∧ CnRow w (fun b => R ≤ b) ks A := by
  obtain ⟨h1, h2, h3, h4, h5⟩ := h.done CnV.keeps hn
  refine ⟨h1, h2, h3, h4, fun j hj => ?_⟩
  obtain ⟨ad, vs, g1, g2, _, g4, A', c', rfl, g6⟩ := h5 j hj
  refine ⟨ad, A', c', g1, g2.1, g4 0 _ (by omega) rfl, ?_, g6⟩
  rw [← add_n _ _ _ _ (by omega)]
  exact g4 1 _ (by omega) rfl
theorem GB.decls {R n m c : Nat} {ds : List Dc} {A : Option Addr} {xs : List Value} {w : World} (h : GB DcV 83 4 R ds n (.slice A m c) xs w) (hn : n = ds.length) : DcsAt w (fun b => R ≤ b) ds (.slice A m c) := by
  obtain ⟨rfl, h2, h3, h4, h5⟩ := h.done DcV.keeps hn
  refine ⟨A, c, rfl, h2, h3, h4, fun j hj => ?_⟩
  obtain ⟨ad, vs, g1, g2, _, g4, P, pc, C, cc, rfl, g6⟩ := h5 j hj
  refine ⟨ad, P, pc, C, cc, g1, g2.1, g4 0 _ (by omega) rfl, ?_, ?_, ?_, g6⟩
  · rw [← add_n _ _ _ _ (by omega)]; exact g4 1 _ (by omega) rfl
  · rw [← add_n _ _ _ _ (by omega)]; exact g4 2 _ (by omega) rfl
  · rw [← add_n _ _ _ _ (by omega)]; exact g4 3 _ (by omega) rfl
/-- A row of texts of one's own. -/
theorem strs_row {R n m c : Nat} {ss : List ByteArray} {A : Option Addr} {w : World} (h : w.ownsRow R 9 1 (.slice A m c) n (ss.map .string)) : m = ss.length ∧ ss.length ≤ c ∧ c ≤ maxLen ∧ (A = none → ss = [] ∧ c = 0) ∧ SRow w (fun b => R ≤ b) ss A := by
  have hc := row_cellsG h
  obtain ⟨A5, c5, e5, l1, l2, l3, l4⟩ := row_sliceG h
  injection e5 with e6 e8 e7
  subst e6 e7 e8
  have hn : ss.length = m := by have := h.1; simpa using this
  subst hn
  refine ⟨rfl, l1, l2, fun h => ⟨List.length_eq_zero_iff.1 (l3 h).1, (l3 h).2⟩, fun i hi => ?_⟩
  cases hA : A with
  | none => have := (l3 hA).1; omega
  | some ad => exact ⟨ad, rfl, (hc ad hA).1.1, (hc ad hA).2 i _ (by rw [List.getElem?_map, List.getElem?_eq_getElem hi]; rfl)⟩
theorem news_of_strs {w : World} {S : Nat → Prop} {ss : List ByteArray} {A : Option Addr} (h : SRow w S ss A) : ∀ ad, A = some ad → ∀ j u, (ss.map Value.string)[j]? = some u → w.cell? (ad.add j) = some u := by
  intro ad hA j u hu
  rw [List.getElem?_map] at hu
  have hj : j < ss.length := by
    rcases Nat.lt_or_ge j ss.length with h | h
    · exact h
    · rw [List.getElem?_eq_none h] at hu; cases hu
  obtain ⟨ad', h1, _, h3⟩ := h j hj
  rw [hA] at h1
  injection h1 with h1
  subst h1
  rw [List.getElem?_eq_getElem hj] at hu
  rw [h3]
  simpa using hu
theorem row_lit0 {w : World} {g B sz : Nat} {TE : TypeId} (hg : g = w.heap.size) (hB : B ≤ g) : (w.alloc (.cells #[] TE)).ownsRow B TE sz (.slice (some ⟨g, 0, none⟩) 0 0) 0 [] := by
  subst hg
  simpa using World.ownsRow_lit (e := TE) (size := sz) w #[] 0 hB (Nat.zero_le _) (by simp)
theorem len0 {α : Type} {A : Option Addr} {l : List α} {c : Nat} (h : A = none → l = [] ∧ c = 0) : A = none → l.length = 0 ∧ c = 0 := fun e => ⟨by rw [(h e).1]; rfl, (h e).2⟩
theorem info_con : InfoIs Try.prog 85 (.agg #[.string ⟨#[]⟩, .slice none 0 0]) 2 40 := by unfold InfoIs; kernel_rfl
theorem info_decl : InfoIs Try.prog 83 (.agg #[.string ⟨#[]⟩, .slice none 0 0, .slice none 0 0, .int .i64 0]) 4 72 := by unfold InfoIs; kernel_rfl
theorem info_str : InfoIs Try.prog 9 (.string ⟨#[]⟩) 1 16 := by unfold InfoIs; kernel_rfl
end Go.Proofs.Ytnlifgcnmhakiaa
