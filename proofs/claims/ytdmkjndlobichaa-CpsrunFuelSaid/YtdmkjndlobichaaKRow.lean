/-
  ROWS OF ONE'S OWN, OF ELEMENTS OF WHATEVER SIZE; ROWS OF TERMS, OF FUNCTIONS, OF ATOMS.
-/
import Derived.Test.YtdmkjndlobichaaKWeigh
import Derived.Laws.Rows
import Derived.Maps.AppendAt
namespace Go.Proofs.Ytdmkjndlobichaa
set_option linter.all false
open Go.ChangeShapes Go.WideShapes Go.ChangeAt Go.RowKit
open Tm (Te)

theorem info_term : InfoIs Try.prog 27 (.agg #[.int .i64 0, .int .i64 0, .int .i64 0, .bool false, .slice none 0 0, .slice none 0 0, .slice none 0 0, .slice none 0 0]) 8 128 := by unfold InfoIs; kernel_rfl
theorem info_fun : InfoIs Try.prog 59 (.agg #[.int .i64 0, .slice none 0 0, .int .i64 0, .int .i64 0, .int .i64 0, .bool false, .slice none 0 0, .slice none 0 0, .slice none 0 0, .slice none 0 0]) 10 160 := by unfold InfoIs; kernel_rfl
theorem info_atom : InfoIs Try.prog 73 (.agg #[.bool false, .int .i64 0]) 2 16 := by unfold InfoIs; kernel_rfl
section
variable {T TS : TypeId} {z : Value} {k nb : Nat}
/-- append onto a row of one's own: it lies where it lay, or in a new block. -/
theorem run_appX (hT : Program.underlying Try.prog TS = some (.slice T)) (hi : InfoIs Try.prog T z k nb) (hz : z.cells.size = k) (hk : 0 < k) (hnb : nb ≤ 1000) (w : World) (ty : TypeId) (B : Nat) {v : Value} {n : Nat} {xs : List Value} (hown : w.ownsRow B T k v n xs) {ad : Addr} {c m : Nat} {news : List Value} (hl : news.length = m * k) (hcell : ∀ j u, news[j]? = some u → w.cell? (ad.add j) = some u) (h1 : ∀ u ∈ news, u.oneCell' = true) (hlen : n + m ≤ 1000000) (hB : B ≤ w.heap.size) :
    ∃ v' w', (Builtin.append_ #[TS, TS] ty #[v, .slice (some ad) m c]).run Try.prog w = .ok v' w' ∧ w'.ownsRow B T k v' (n + m) (xs ++ news) ∧ w.grownBy w' v.ownBlock ∧ (∀ g, v'.ownBlock = some g → v.ownBlock = some g ∨ w.heap.size ≤ g) := by
  obtain ⟨i, hi1, hz1, hs1, hs2⟩ := hi.parts
  have hb : (n + m) * nb ≤ 140737488355328 := Nat.le_trans (Nat.mul_le_mul hlen hnb) (by omega)
  obtain ⟨v', w', hr, h2, h3, _, h5⟩ := run_append_own_at (P := Try.prog) w B TS ty T i _ k nb hT hi1 hz1 hs1 hs2 hz hk v n _ hown ad m c news hl hcell h1 (by unfold maxLen; omega) hb hB
  refine ⟨v', w', hr, h2, h3, fun g hg => ?_⟩
  rcases h5 with e | e
  · exact .inl (e ▸ hg)
  · right
    rw [e] at hg
    injection hg with hg
    omega
theorem wpList_appX (hT : Program.underlying Try.prog TS = some (.slice T)) (hi : InfoIs Try.prog T z k nb) (hz : z.cells.size = k) (hk : 0 < k) (hnb : nb ≤ 1000) {w : World} {ops : Array Oper} {rest : List Oper} {o : Oper} {a : Act} {Q : Exit → Act → World → Prop} (hgd : o.guard = none) (s x : Operand)
    (ho : o.op = .call { callee := .builtin .append, args := #[s, x], argTypes := #[TS, TS] })
    (B : Nat) {v : Value} {n : Nat} {xs : List Value} (hs : a.eval s = v) (hown : w.ownsRow B T k v n xs) {ad : Addr} {c m : Nat} {news : List Value} (hx : a.eval x = .slice (some ad) m c) (hl : news.length = m * k) (hcell : ∀ j u, news[j]? = some u → w.cell? (ad.add j) = some u) (h1 : ∀ u ∈ news, u.oneCell' = true)
    (hlen : n + m ≤ 1000000) (hB : B ≤ w.heap.size)
    (h : ∀ v' w', w'.ownsRow B T k v' (n + m) (xs ++ news) → w.grownBy w' v.ownBlock → (∀ g, v'.ownBlock = some g → v.ownBlock = some g ∨ w.heap.size ≤ g) → wpList Try.prog ops Q rest (a.put o.dst v') w') : wpList Try.prog ops Q (o :: rest) a w := by
  refine wpList_plain hgd fun _ hK => ?_
  obtain ⟨v', w', hr, r1, r2, r3⟩ := run_appX hT hi hz hk hnb w o.type B hown hl hcell h1 hlen hB
  unfold Oper.wp execOp
  simp only [ho, resolve, invoke, builtin, Sem.run_bind, Sem.run_pure, Result.andThen_ok, List.map_toArray, List.map_cons, List.map_nil, hs, hx]
  rw [hr]
  exact hK _ _ (h v' w' r1 r2 r3)
set_option maxRecDepth 100000 in
/-- .. in a drawn region. -/
theorem step_appX (hT : Program.underlying Try.prog TS = some (.slice T)) (hi : InfoIs Try.prog T z k nb) (hz : z.cells.size = k) (hk : 0 < k) (hnb : nb ≤ 1000) {w : World} {ops : Array Oper} {o : Oper} {a : Act} {K : Act → World → Prop} {Q : Exit → Act → World → Prop} {E : Prop} (hgd : o.guard = none) (s x : Operand)
    (ho : o.op = .call { callee := .builtin .append, args := #[s, x], argTypes := #[TS, TS] })
    (B : Nat) {v : Value} {n : Nat} {xs : List Value} (hs : a.eval s = v) (hown : w.ownsRow B T k v n xs) {A : Option Addr} {c m : Nat} {news : List Value} (hx : a.eval x = .slice A m c) (hl : news.length = m * k) (hnil : A = none → m = 0 ∧ c = 0) (hcell : ∀ j u, news[j]? = some u → ∃ ad, A = some ad ∧ w.cell? (ad.add j) = some u) (h1 : ∀ u ∈ news, u.oneCell' = true)
    (hlen : n + m ≤ 1000000) (hB : B ≤ w.heap.size)
    (h : ∀ v' w', w'.ownsRow B T k v' (n + m) (xs ++ news) → w.grownBy w' v.ownBlock → (∀ g, v'.ownBlock = some g → v.ownBlock = some g ∨ w.heap.size ≤ g) → K (a.put o.dst v') w') : if Region.wanted o (yielded ops a.tmps) = true then Oper.wp Try.prog o a w K Q else E := by
  have hw : Region.wanted o (yielded ops a.tmps) = true := by simp [Region.wanted, hgd]
  rw [if_pos hw]
  cases A with
  | none =>
    obtain ⟨rfl, rfl⟩ := hnil rfl
    obtain rfl : news = [] := List.length_eq_zero_iff.1 (by simpa using hl)
    obtain ⟨i, hi1, hz1, hs1, hs2⟩ := hi.parts
    have hrun := run_append_owned_none (P := Try.prog) (w := w) B TS o.type T i k hT hi1 _ n _ hown
    unfold Oper.wp execOp
    simp only [ho, resolve, invoke, builtin, Sem.run_bind, Sem.run_pure, Result.andThen_ok, List.map_toArray, List.map_cons, List.map_nil, hs, hx]
    rw [hrun]
    exact h v w (by simpa using hown) ⟨rfl, rfl, rfl, Nat.le_refl _, fun _ _ _ => rfl⟩ (fun g hg => .inl hg)
  | some ad =>
    obtain ⟨v', w', hr, r1, r2, r3⟩ := run_appX hT hi hz hk hnb w o.type B hown (c := c) hl (fun j u hj => by obtain ⟨ad2, e, h9⟩ := hcell j u hj; injection e with e; subst e; exact h9) h1 hlen hB
    unfold Oper.wp execOp
    simp only [ho, resolve, invoke, builtin, Sem.run_bind, Sem.run_pure, Result.andThen_ok, List.map_toArray, List.map_cons, List.map_nil, hs, hx]
    rw [hr]
    exact h v' w' r1 r2 r3
end
/-- A row's parts. -/
theorem rowX {w : World} {B n sz : Nat} {TE : TypeId} {v : Value} {xs : List Value} (h : w.ownsRow B TE sz v n xs) : ∃ A c, v = .slice A n c ∧ n ≤ c ∧ c ≤ maxLen ∧ (A = none → n = 0 ∧ c = 0) ∧ ∀ a, A = some a → a.spot = none ∧ a.off = 0 := by
  rcases h.2 with ⟨rfl, rfl⟩ | ⟨g, cap, cur, rfl, _, _, h1, h2, _⟩
  · exact ⟨none, 0, rfl, Nat.le_refl _, Nat.zero_le _, fun _ => ⟨rfl, rfl⟩, fun a ha => (by cases ha)⟩
  · exact ⟨_, cap, rfl, h1, h2, fun h => (by cases h), fun a ha => (by cases ha; exact ⟨rfl, rfl⟩)⟩
theorem row_keepX {w w' : World} {B n : Nat} {v : Value} {xs : List Value} {e : TypeId} {sz : Nat} (h : w.ownsRow B e sz v n xs) (hk : ∀ g, v.ownBlock = some g → w'.heap[g]? = w.heap[g]?) : w'.ownsRow B e sz v n xs := by
  refine ⟨h.1, ?_⟩
  rcases h.2 with h2 | ⟨g, cap, cur, rfl, hB, hg, rest⟩
  · exact .inl h2
  · exact .inr ⟨g, cap, cur, rfl, hB, (hk g rfl).trans hg, rest⟩
/-- The cells of one element. -/
def CutX (sz : Nat) (xs : List Value) (j : Nat) (cs : List Value) : Prop := cs.length = sz ∧ ∀ k, k < sz → xs[j * sz + k]? = cs[k]?
theorem CutX.app {sz : Nat} {xs ys cs : List Value} {j : Nat} (h : CutX sz xs j cs) : CutX sz (xs ++ ys) j cs := ⟨h.1, fun k hk => by
  have h2 := h.2 k hk
  have hu : cs[k]? = some (cs[k]'(by rw [h.1]; exact hk)) := List.getElem?_eq_getElem _
  rw [hu] at h2 ⊢
  have hl := (List.getElem?_eq_some_iff.1 h2).1
  rw [List.getElem?_append_left hl]
  exact h2⟩
theorem CutX.last {sz : Nat} {xs cs : List Value} {j : Nat} (hx : xs.length = j * sz) (hc : cs.length = sz) : CutX sz (xs ++ cs) j cs := ⟨hc, fun k hk => by rw [List.getElem?_append_right (by omega)]; congr 1; omega⟩
/-- What is said of one element, kept while its blocks are. -/
def Keepable (P : World → (Nat → Prop) → Nat → List Value → Prop) : Prop := ∀ (w w' : World) (S T : Nat → Prop) (j : Nat) (cs : List Value), (∀ k, S k → k < w.heap.size → w'.heap[k]? = w.heap[k]? ∧ T k) → P w S j cs → P w' T j cs
/-- A row that is being built. -/
structure GBld (e : TypeId) (sz R : Nat) (P : World → (Nat → Prop) → Nat → List Value → Prop) (i : Nat) (v : Value) (xs : List Value) (wr : World) : Prop where
  row : wr.ownsRow R e sz v i xs
  kids : ∀ j, j < i → ∃ cs, CutX sz xs j cs ∧ P wr (fun b => R ≤ b ∧ v.ownBlock ≠ some b) j cs
section
variable {e : TypeId} {sz R i n m c : Nat} {P : World → (Nat → Prop) → Nat → List Value → Prop} {v v' : Value} {xs cs : List Value} {w w' w1 w2 wr : World} {A : Option Addr}
theorem GBld.start (w : World) (e : TypeId) (sz R : Nat) (P : World → (Nat → Prop) → Nat → List Value → Prop) : GBld e sz R P 0 (.slice none 0 0) [] w := ⟨World.ownsRow_nil _ _ _ _, fun j h => by omega⟩
theorem GBld.keep (hP : Keepable P) (h : GBld e sz R P i v xs w) (hk : ∀ k, R ≤ k → k < w.heap.size → w'.heap[k]? = w.heap[k]?) : GBld e sz R P i v xs w' := by
  refine ⟨row_keepX h.row (fun g hg => hk g (h.row.lt g hg).1 (h.row.lt g hg).2), fun j hji => ?_⟩
  obtain ⟨cs, e, hv⟩ := h.kids j hji
  exact ⟨cs, e, hP _ _ _ _ _ _ (fun k hk1 hk2 => ⟨hk k hk1.1 hk2, hk1⟩) hv⟩
theorem GBld.up (hP : Keepable P) (h : GBld e sz R P i v xs w) (hb : Below w.heap.size w w') : GBld e sz R P i v xs w' := h.keep hP (fun k _ hk => hb.block k hk)
/-- One element more: wr, then what made it (w1), then the append's world (w2 out of w0). -/
theorem GBld.next (hP : Keepable P) (h : GBld e sz R P i v xs wr) {w0 : World} (hR : R ≤ wr.heap.size) (hcs : cs.length = sz) (hb1 : Below wr.heap.size wr w0)
    (hk : P w0 (fun b => wr.heap.size ≤ b ∧ b < w0.heap.size) i cs) (hr : w2.ownsRow R e sz v' (i + 1) (xs ++ cs)) (hg : w0.grownBy w2 v.ownBlock) (hn : ∀ g, v'.ownBlock = some g → v.ownBlock = some g ∨ w0.heap.size ≤ g) :
    GBld e sz R P (i + 1) v' (xs ++ cs) w2 ∧ Below R wr w2 := by
  have hs1 := hb1.size
  have hlen : xs.length = i * sz := h.row.1
  have hgb : ∀ g, v.ownBlock = some g → g < wr.heap.size ∧ R ≤ g := fun g hg => by have := h.row.lt g hg; omega
  have hall : ∀ k, k < w0.heap.size → v.ownBlock ≠ some k → w2.heap[k]? = w0.heap[k]? := fun k hk hne => hg.block k (by omega) (fun e => hne e.symm)
  refine ⟨⟨hr, ?_⟩, ?_⟩
  · intro j hji
    by_cases hjj : j < i
    · obtain ⟨us', e, hv⟩ := h.kids j hjj
      refine ⟨us', e.app, ?_⟩
      refine hP _ _ _ _ _ _ (fun k hk1 hk2 => ⟨(hall k (by omega) hk1.2).trans (hb1.block k hk2), hk1.1, fun e => ?_⟩) hv
      rcases hn k e with e | e
      · exact hk1.2 e
      · omega
    · obtain rfl : j = i := by omega
      refine ⟨cs, CutX.last hlen hcs, ?_⟩
      refine hP _ _ _ _ _ _ (fun k hk1 hk2 => ⟨hall k hk2 (fun e => by have := hgb k e; omega), by omega, fun e => ?_⟩) hk
      rcases hn k e with e | e
      · have := hgb k e; omega
      · omega
  · exact (hb1.mono hR).grown hg (by omega) (fun k e => (hgb k e).2)
theorem GBld.parts (h : GBld e sz R P n (.slice A m c) xs w) : m = n ∧ n ≤ c ∧ c ≤ maxLen ∧ (A = none → n = 0 ∧ c = 0) ∧ ∀ j, j < n → ∃ ad cs, A = some ad ∧ R ≤ ad.block ∧ cs.length = sz ∧ (∀ k u, cs[k]? = some u → w.cell? (ad.add (j * sz + k)) = some u) ∧ P w (fun b => R ≤ b ∧ (Value.slice A m c).ownBlock ≠ some b) j cs := by
  obtain ⟨A5, c5, e5, l1, l2, l3, l4⟩ := rowX h.row
  injection e5 with e6 e8 e7
  subst e6 e7 e8
  refine ⟨rfl, l1, l2, l3, fun j hj => ?_⟩
  cases hA : A with
  | none => have := (l3 hA).1; omega
  | some a =>
    subst hA
    have hab := h.row.lt a.block rfl
    obtain ⟨h1, h2⟩ := l4 a rfl
    have ha : a = ⟨a.block, 0, none⟩ := by obtain ⟨x, y, z⟩ := a; simp_all
    have hcell : ∀ j u, xs[j]? = some u → w.cell? (a.add j) = some u := by rw [ha]; exact h.row.cells (g := a.block) rfl
    obtain ⟨cs, ⟨e1, e2⟩, hv⟩ := h.kids j hj
    refine ⟨a, cs, rfl, hab.1, e1, fun k u hu => hcell _ _ ?_, hv⟩
    have hk : k < sz := by rw [← e1]; exact (List.getElem?_eq_some_iff.1 hu).1
    rw [e2 k hk]
    exact hu
end
/-- An element of a row of terms. -/
def PT (us : List Te) (w : World) (S : Nat → Prop) (j : Nat) (cs : List Value) : Prop := ∃ t, us[j]? = some t ∧ TAt w S t (.agg cs.toArray)
theorem PT.keepable (us : List Te) : Keepable (PT us) := fun w w' S T j cs h ⟨t, h1, h2⟩ => ⟨t, h1, h2.keep h⟩
/-- An element of a row of functions. -/
def PF (fh : List (Int × List Int)) (fb : List Te) (w : World) (S : Nat → Prop) (j : Nat) (cs : List Value) : Prop :=
  ∃ h b P pc v0 v1 v2 v3 v4 v5 v6 v7, fh[j]? = some h ∧ fb[j]? = some b ∧ cs = [.int .i64 h.1, .slice P h.2.length pc, v0, v1, v2, v3, v4, v5, v6, v7] ∧ IAt w S h.2 P pc ∧ (Lit.int .i64 h.1).wf = true ∧ TAt w S b (.agg #[v0, v1, v2, v3, v4, v5, v6, v7])
theorem PF.keepable (fh : List (Int × List Int)) (fb : List Te) : Keepable (PF fh fb) := fun w w' S T j cs h ⟨a, b, P, pc, v0, v1, v2, v3, v4, v5, v6, v7, h1, h2, h3, h4, h5, h6⟩ => ⟨a, b, P, pc, v0, v1, v2, v3, v4, v5, v6, v7, h1, h2, h3, h4.keep h, h5, h6.keep h⟩
theorem GBld.terms {R : Nat} {us : List Te} {A : Option Addr} {c n m : Nat} {xs : List Value} {w : World} (h : GBld 27 8 R (PT us) n (.slice A m c) xs w) (hn : n = us.length) (hl : us.length ≤ 17592186044416) : m = us.length ∧ Sz us A c ∧ TRow w (fun b => R ≤ b) us A 0 := by
  subst hn
  obtain ⟨rfl, l1, l2, l3, l4⟩ := h.parts
  refine ⟨rfl, ⟨l1, l2, fun h => ⟨List.length_eq_zero_iff.1 (l3 h).1, (l3 h).2⟩, hl⟩, ?_⟩
  cases us with
  | nil => rw [TRow]; trivial
  | cons u us =>
    obtain ⟨ad, _, rfl, hR, _⟩ := l4 0 (by simp)
    refine TRow.mk hR (u :: us) 0 (fun j hj => ?_)
    obtain ⟨ad2, cs, e2, _, hl8, hc, t, ht, hv⟩ := l4 j hj
    injection e2 with e2
    subst e2
    rw [Nat.zero_add]
    match cs, hl8 with
    | [u0, u1, u2, u3, u4, u5, u6, u7], _ =>
    have e9 : (u :: us)[j] = t := by rw [List.getElem?_eq_getElem hj] at ht; injection ht
    refine ⟨u0, u1, u2, u3, u4, u5, u6, u7, ⟨hc 0 _ rfl, ?_, ?_, ?_, ?_, ?_, ?_, ?_⟩, e9 ▸ hv.mono (fun k hk _ => hk.1)⟩
    · rw [add_mul _ _ _ _ (by omega)]; exact hc 1 _ rfl
    · rw [add_mul _ _ _ _ (by omega)]; exact hc 2 _ rfl
    · rw [add_mul _ _ _ _ (by omega)]; exact hc 3 _ rfl
    · rw [add_mul _ _ _ _ (by omega)]; exact hc 4 _ rfl
    · rw [add_mul _ _ _ _ (by omega)]; exact hc 5 _ rfl
    · rw [add_mul _ _ _ _ (by omega)]; exact hc 6 _ rfl
    · rw [add_mul _ _ _ _ (by omega)]; exact hc 7 _ rfl
theorem GBld.funs {R : Nat} {fh : List (Int × List Int)} {fb : List Te} {A : Option Addr} {c n m : Nat} {xs : List Value} {w : World} (h : GBld 59 10 R (PF fh fb) n (.slice A m c) xs w) (hn : n = fb.length) (hfl : fh.length = fb.length) (hl : fb.length ≤ 17592186044416) : m = fb.length ∧ Sz fb A c ∧ FRow w (fun b => R ≤ b) fh fb A 0 := by
  subst hn
  obtain ⟨rfl, l1, l2, l3, l4⟩ := h.parts
  refine ⟨rfl, ⟨l1, l2, fun h => ⟨List.length_eq_zero_iff.1 (l3 h).1, (l3 h).2⟩, hl⟩, ?_⟩
  cases fb with
  | nil => rw [FRow]; trivial
  | cons u us =>
    obtain ⟨ad, _, rfl, hR, _⟩ := l4 0 (by simp)
    refine FRow.mk hR (u :: us) fh 0 hfl (fun j hj hj2 => ?_)
    obtain ⟨ad2, cs, e2, _, hl8, hc, a, b, P, pc, v0, v1, v2, v3, v4, v5, v6, v7, h1, h2, rfl, h4, h5, h6⟩ := l4 j hj
    injection e2 with e2
    subst e2
    rw [Nat.zero_add]
    have e9 : (u :: us)[j] = b := by rw [List.getElem?_eq_getElem hj] at h2; injection h2
    have e8 : fh[j] = a := by rw [List.getElem?_eq_getElem hj2] at h1; injection h1
    rw [e9, e8]
    refine ⟨P, pc, v0, v1, v2, v3, v4, v5, v6, v7, ⟨hc 0 _ rfl, ?_, ?_, ?_, ?_, ?_, ?_, ?_, ?_, ?_⟩, h4.keep (fun k hk _ => ⟨rfl, hk.1⟩), h5, h6.mono (fun k hk _ => hk.1)⟩
    · rw [add_mul _ _ _ _ (by omega)]; exact hc 1 _ rfl
    · rw [add_mul _ _ _ _ (by omega)]; exact hc 2 _ rfl
    · rw [add_mul _ _ _ _ (by omega)]; exact hc 3 _ rfl
    · rw [add_mul _ _ _ _ (by omega)]; exact hc 4 _ rfl
    · rw [add_mul _ _ _ _ (by omega)]; exact hc 5 _ rfl
    · rw [add_mul _ _ _ _ (by omega)]; exact hc 6 _ rfl
    · rw [add_mul _ _ _ _ (by omega)]; exact hc 7 _ rfl
    · rw [add_mul _ _ _ _ (by omega)]; exact hc 8 _ rfl
    · rw [add_mul _ _ _ _ (by omega)]; exact hc 9 _ rfl
/-- A row of atoms, as its cells. -/
def flatA (ats : List (Bool × Int)) : List Value := ats.flatMap (fun a => [.bool a.1, .int .i64 a.2])
theorem flatA_length (ats : List (Bool × Int)) : (flatA ats).length = ats.length * 2 := by
  induction ats with
  | nil => rfl
  | cons a l ih => simp only [flatA, List.flatMap_cons, List.length_append, List.length_cons, List.length_nil] at ih ⊢; omega
theorem flatA_get : ∀ {ats : List (Bool × Int)} {j : Nat} (hj : j < ats.length), (flatA ats)[j * 2]? = some (.bool ats[j].1) ∧ (flatA ats)[j * 2 + 1]? = some (.int .i64 ats[j].2)
  | [], j, hj => by simp at hj
  | a :: l, 0, _ => by simp [flatA]
  | a :: l, j + 1, hj => by
    have ih := flatA_get (ats := l) (j := j) (by simpa using hj)
    have e : flatA (a :: l) = Value.bool a.1 :: .int .i64 a.2 :: flatA l := by simp [flatA]
    rw [e]
    rw [show (j + 1) * 2 = j * 2 + 1 + 1 from by omega]
    simpa using ih
theorem flatA_mem {ats : List (Bool × Int)} : ∀ u ∈ flatA ats, u.oneCell' = true := by
  intro u hu
  obtain ⟨a, _, h⟩ := List.mem_flatMap.1 hu
  simp at h
  rcases h with rfl | rfl <;> simp [Value.oneCell']
theorem atAt_cell {w : World} {S : Nat → Prop} {ats : List (Bool × Int)} {A : Option Addr} {c : Nat} (h : AtAt w S ats A c) : ∀ j u, (flatA ats)[j]? = some u → ∃ ad, A = some ad ∧ w.cell? (ad.add j) = some u := by
  intro j u hu
  have hl := (List.getElem?_eq_some_iff.1 hu).1
  rw [flatA_length] at hl
  have hj : j / 2 < ats.length := by omega
  obtain ⟨ad, h1, h2, h3, h4, h5⟩ := h.2 (j / 2) hj
  obtain ⟨g1, g2⟩ := flatA_get hj
  refine ⟨ad, h1, ?_⟩
  rcases Nat.mod_two_eq_zero_or_one j with h0 | h0
  · have e : j / 2 * 2 = j := by omega
    rw [e] at g1 h3
    rw [h3, ← g1, hu]
  · have e : j / 2 * 2 + 1 = j := by omega
    rw [add_mul _ _ _ _ (by omega)] at h4
    rw [e] at g2 h4
    rw [h4, ← g2, hu]
theorem own_atat {w : World} {B n c : Nat} {A : Option Addr} {ats : List (Bool × Int)} (h : w.ownsRow B 73 2 (.slice A n c) ats.length (flatA ats)) (hw : ∀ a ∈ ats, (Lit.int .i64 a.2).wf = true) (hl : ats.length ≤ 17592186044416) : n = ats.length ∧ AtAt w (fun b => B ≤ b) ats A c := by
  obtain ⟨A5, c5, e5, l1, l2, l3, l4⟩ := rowX h
  injection e5 with e6 e8 e7
  subst e6 e7 e8
  refine ⟨rfl, ⟨l1, l2, fun h => ⟨List.length_eq_zero_iff.1 (l3 h).1, (l3 h).2⟩, hl⟩, fun j hj => ?_⟩
  cases hA : A with
  | none => have := (l3 hA).1; omega
  | some a =>
    subst hA
    have hab := h.lt a.block rfl
    obtain ⟨h1, h2⟩ := l4 a rfl
    have ha : a = ⟨a.block, 0, none⟩ := by obtain ⟨x, y, z⟩ := a; simp_all
    have hcell : ∀ j u, (flatA ats)[j]? = some u → w.cell? (a.add j) = some u := by rw [ha]; exact h.cells (g := a.block) rfl
    obtain ⟨g1, g2⟩ := flatA_get hj
    refine ⟨a, rfl, hab.1, hcell _ _ g1, ?_, hw _ (List.getElem_mem hj)⟩
    rw [add_mul _ _ _ _ (by omega)]
    exact hcell _ _ g2
/-- A literal without elements. -/
theorem lit0X {w : World} {B sz : Nat} {T : TypeId} (hB : B ≤ w.heap.size) : (w.alloc (.cells #[] T)).ownsRow B T sz (.slice (some ⟨w.heap.size, 0, none⟩) 0 0) 0 [] :=
  ⟨by simp, .inr ⟨w.heap.size, 0, #[], rfl, hB, heap_alloc_new w _, by simp, by simp, by simp, by simp⟩⟩
theorem own_iatX {w : World} {B n c : Nat} {A : Option Addr} {ts : List Int} (h : w.ownsRow B 3 1 (.slice A n c) ts.length (ts.map (.int .i64))) (hw : ∀ a ∈ ts, (Lit.int .i64 a).wf = true) (hl : ts.length ≤ 17592186044416) : n = ts.length ∧ IAt w (fun b => B ≤ b) ts A c := by
  obtain ⟨A5, c5, e5, l1, l2, l3, l4⟩ := rowX h
  injection e5 with e6 e8 e7
  subst e6 e7 e8
  refine ⟨rfl, ⟨l1, l2, fun h => ⟨List.length_eq_zero_iff.1 (l3 h).1, (l3 h).2⟩, hl⟩, fun j hj => ?_⟩
  cases hA : A with
  | none => have := (l3 hA).1; omega
  | some a =>
    subst hA
    have hab := h.lt a.block rfl
    obtain ⟨h1, h2⟩ := l4 a rfl
    have ha : a = ⟨a.block, 0, none⟩ := by obtain ⟨x, y, z⟩ := a; simp_all
    have hcell : ∀ j u, (ts.map (Value.int .i64))[j]? = some u → w.cell? (a.add j) = some u := by rw [ha]; exact h.cells (g := a.block) rfl
    exact ⟨a, rfl, hab.1, hcell j _ (by simp [hj]), hw _ (List.getElem_mem hj)⟩
theorem iat_wf {w : World} {S : Nat → Prop} {ts : List Int} {A : Option Addr} {c : Nat} (h : IAt w S ts A c) : ∀ a ∈ ts, (Lit.int .i64 a).wf = true := by
  intro a ha
  obtain ⟨j, hj, rfl⟩ := List.getElem_of_mem ha
  obtain ⟨_, _, _, _, h5⟩ := h.2 j hj
  exact h5
theorem iat_cell {w : World} {S : Nat → Prop} {ts : List Int} {A : Option Addr} {c : Nat} (h : IAt w S ts A c) : ∀ j u, (ts.map (Value.int .i64))[j]? = some u → ∃ ad, A = some ad ∧ w.cell? (ad.add j) = some u := by
  intro j u hu
  have hl := (List.getElem?_eq_some_iff.1 hu).1
  simp at hl
  obtain ⟨ad, h1, h2, h3, h4⟩ := h.2 j hl
  refine ⟨ad, h1, ?_⟩
  rw [List.getElem?_map, List.getElem?_eq_getElem hl] at hu
  rw [h3]
  simpa using hu
theorem one_int {ts : List Int} : ∀ u ∈ ts.map (Value.int .i64), u.oneCell' = true := by
  intro u hu
  obtain ⟨a, _, rfl⟩ := List.mem_map.1 hu
  simp [Value.oneCell']
theorem cells_litX (w : World) {g : Nat} (hg : g = w.heap.size) (t : TypeId) (cs : List Value) (arr : Array Value) (ha : arr = cs.toArray) : ∀ j u, cs[j]? = some u → (w.alloc (.cells arr t)).cell? ((⟨g, 0, none⟩ : Addr).add j) = some u := by
  subst hg ha
  intro j u hj
  have hp : (⟨w.heap.size, 0, none⟩ : Addr).add j = ⟨w.heap.size, j, none⟩ := by unfold Addr.add; split <;> simp_all
  rw [hp, (Blk.new w t cs.toArray).cell j]
  simpa using hj
theorem atAt_wf {w : World} {S : Nat → Prop} {ats : List (Bool × Int)} {A : Option Addr} {c : Nat} (h : AtAt w S ats A c) : ∀ a ∈ ats, (Lit.int .i64 a.2).wf = true := by
  intro a ha
  obtain ⟨j, hj, rfl⟩ := List.getElem_of_mem ha
  obtain ⟨_, _, _, _, _, h5⟩ := h.2 j hj
  exact h5
end Go.Proofs.Ytdmkjndlobichaa
