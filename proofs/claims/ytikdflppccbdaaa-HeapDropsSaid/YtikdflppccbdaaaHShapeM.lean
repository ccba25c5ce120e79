/-
  MEMORY OF THE TWO Shape: a map of numbers; a row of one's own that grows.
-/
import Derived.Test.YtikdflppccbdaaaHShapeP
import Derived.Maps.OwnOps
import Derived.Maps.AppendAt
namespace Go.Proofs.Ytikdflppccbdaaa
open Go.ChangeShapes Go.WideShapes Go.ChangeAt Go.RowKit Go.ChangeMaps

/-- All blocks but two, and but a row's own, are as they were. -/
structure KB (a b : Nat) (o : Option Nat) (w w' : World) : Prop where
  os : w'.os = w.os
  tape : w'.tape = w.tape
  output : w'.output = w.output
  size : w.heap.size ≤ w'.heap.size
  block : ∀ j, j < w.heap.size → j ≠ a → j ≠ b → o ≠ some j → w'.heap[j]? = w.heap[j]?
section
variable {a b : Nat} {o : Option Nat} {w w' : World}
theorem KB.blk (h : KB a b o w w') {j : Nat} {t : TypeId} {cs : Array Value} (k : Blk w j t cs) (h1 : j ≠ a) (h2 : j ≠ b) (h3 : o ≠ some j) : Blk w' j t cs := (h.block j k.lt h1 h2 h3).trans k
theorem KB.below (h : KB a b o w w') {B : Nat} {w0 : World} (k : Below B w0 w) (h1 : B ≤ a) (h2 : B ≤ b) (h3 : ∀ j, o = some j → B ≤ j) (hB : B ≤ w.heap.size) : Below B w0 w' :=
  ⟨h.os.trans k.os, h.tape.trans k.tape, h.output.trans k.output, Nat.le_trans k.size h.size, fun j hj => (h.block j (by omega) (by omega) (by omega) (fun e => by have := h3 j e; omega)).trans (k.block j hj)⟩
theorem OwnI.lt {B : Nat} {v : Value} {xs : List Int} (h : OwnI w B v xs) {g : Nat} (hg : v.ownBlock = some g) : B ≤ g ∧ g < w.heap.size := by
  obtain ⟨⟨_, h2⟩, _⟩ := h
  rcases h2 with ⟨rfl, _⟩ | ⟨g', cap, cur, rfl, hB, hh, _⟩
  · cases hg
  · injection hg with hg
    subst hg
    exact ⟨hB, (Array.getElem?_eq_some_iff.1 hh).1⟩
theorem OwnI.of_block {B : Nat} {v : Value} {xs : List Int} (h : OwnI w B v xs) (k : ∀ g, v.ownBlock = some g → w'.heap[g]? = w.heap[g]?) : OwnI w' B v xs := by
  obtain ⟨⟨h1, h2⟩, h3⟩ := h
  refine ⟨⟨h1, ?_⟩, h3⟩
  rcases h2 with h2 | ⟨g, cap, cur, rfl, hB, hh, h4⟩
  · exact .inl h2
  · exact .inr ⟨g, cap, cur, rfl, hB, (k g rfl).trans hh, h4⟩
theorem KB.own (h : KB a b o w w') {B : Nat} {v : Value} {xs : List Int} (k : OwnI w B v xs) (h1 : v.ownBlock ≠ some a) (h2 : v.ownBlock ≠ some b) (h3 : ∀ g, o = some g → v.ownBlock ≠ some g) : OwnI w' B v xs :=
  k.of_block fun g hg => h.block g (k.lt hg).2 (fun e => h1 (e ▸ hg)) (fun e => h2 (e ▸ hg)) (fun e => h3 g e hg)
theorem KB.refl (a b : Nat) (o : Option Nat) (w : World) : KB a b o w w := ⟨rfl, rfl, rfl, Nat.le_refl _, fun _ _ _ _ _ => rfl⟩
end
theorem Row.grown {w w' : World} {g n cap : Nat} {xs : List Int} {row : Option Nat} (h : Row w g n cap xs) (hg : w.grownBy w' row) (hr : row ≠ some g) : Row w' g n cap xs := by
  obtain ⟨a, b, c, d, cur, hh, e⟩ := h
  exact ⟨a, b, c, d, cur, (hg.block g (Array.getElem?_eq_some_iff.1 hh).1 (fun k => hr k.symm)).trans hh, e⟩

/-- append onto a row of one's own; where the row lies behind it. -/
theorem wpList_appJ {w : World} {ops : Array Oper} {rest : List Oper} {o : Oper} {a : Act} {Q : Exit → Act → World → Prop} (hgd : o.guard = none) (s x : Operand)
    (ho : o.op = .call { callee := .builtin .append, args := #[s, x], argTypes := #[22, 22] })
    (B : Nat) {v : Value} {xs : List Int} (hs : a.eval s = v) (hown : OwnI w B v xs) {ad : Addr} {n c Bi : Nat} {ys : List Int} (hx : a.eval x = .slice (some ad) n c) (hi : Ints w Bi (some ad) n c ys)
    (hlen : xs.length + n ≤ 1000000) (hB : B ≤ w.heap.size)
    (h : ∀ v' w', OwnI w' B v' (xs ++ ys) → w.grownBy w' v.ownBlock → (v'.ownBlock = v.ownBlock ∨ v'.ownBlock = some w.heap.size) → wpList Try.prog ops Q rest (a.put o.dst v') w') : wpList Try.prog ops Q (o :: rest) a w := by
  obtain ⟨i, hi1, hz, hs1, hs2⟩ := info_int.parts
  have hwf : ∀ z ∈ xs ++ ys, (Lit.int .i64 z).wf = true := by
    intro z hz
    rcases List.mem_append.1 hz with hz | hz
    · exact hown.wf z hz
    · exact hi.wf z hz
  have hrow : w.ownsRow B 3 1 v xs.length (xs.map (.int .i64)) := by have := hown.own; unfold Own at this; rwa [List.length_map] at this
  refine wpList_append_own_at (P := Try.prog) w hgd s x 22 ho B 3 i (.int .i64 0) 1 8 Try.underlying22 hi1 hz hs1 hs2 rfl (by omega) v xs.length _ hs hrow ad n c (ys.map (.int .i64)) hx (by simp [hi.len]) (news_of_ints hi) (by simp [Value.oneCell']) (by unfold maxLen; omega) (by omega) hB ?_
  intro v' w' h1 h2 _ h4
  have hO : OwnI w' B v' (xs ++ ys) := ⟨by unfold Own; have := h1; rwa [← List.map_append, show xs.length + n = ((xs ++ ys).map (Value.int .i64)).length from by simp [hi.len]] at this, hwf⟩
  exact h v' w' hO h2 h4

/-- The map in block r holds F. -/
def MapN (w : World) (r c : Nat) (F : Nat → Option Int) : Prop :=
  ∃ (cnt : Nat) (D : DataW Unit), cnt ≤ c ∧ w.ownsMap Try.prog 3 (plainElem Try.prog 3) r cnt D ∧ ∀ p : Nat, p < 1000000 → Maps.has D (.int .i64 p) = (F p).isSome ∧ D.atKey (.int .i64 p) (.lit (.int .i64 0)) = .lit (.int .i64 ((F p).getD 0))
theorem MapN.made (w : World) : MapN (w.alloc (.map #[] 0)) w.heap.size 0 (fun _ => none) :=
  ⟨0, .map [], Nat.le_refl _, World.ownsMap_made w _ _ _, fun _ _ => ⟨rfl, rfl⟩⟩
section
variable {w w' : World} {r c : Nat} {F : Nat → Option Int}
theorem MapN.grown (h : MapN w r c F) {row : Option Nat} (hg : w.grownBy w' row) (hr : row ≠ some r) : MapN w' r c F := by
  obtain ⟨cnt, D, h1, h2, h3⟩ := h
  exact ⟨cnt, D, h1, h2.kept (row := row) hg (fun e => hr e.symm), h3⟩
theorem MapN.only {g : Nat} (h : MapN w r c F) (ho : Only g w w') (hg : r ≠ g) : MapN w' r c F :=
  h.grown (row := some g) ⟨ho.os, ho.tape, ho.output, Nat.le_of_eq ho.size.symm, fun k _ hk => ho.block k (fun e => hk (by rw [e]))⟩ (fun e => hg (by injection e with e; exact e.symm))
theorem MapN.block (h : MapN w r c F) (k : w'.heap[r]? = w.heap[r]?) : MapN w' r c F := by
  obtain ⟨cnt, D, h1, ⟨es, clock, hh, h2⟩, h3⟩ := h
  exact ⟨cnt, D, h1, ⟨es, clock, k.trans hh, h2⟩, h3⟩
theorem MapN.alloc (h : MapN w r c F) (o : Obj) : MapN (w.alloc o) r c F := by
  obtain ⟨cnt, D, h1, h2, h3⟩ := h
  exact ⟨cnt, D, h1, h2.alloc o, h3⟩
theorem MapN.drew (h : MapN w r c F) : MapN w.drew r c F := h
theorem MapN.lt (h : MapN w r c F) : r < w.heap.size := by obtain ⟨_, _, _, h2, _⟩ := h; exact h2.lt
end
theorem wpList_lookN {w : World} {ops : Array Oper} {rest : List Oper} {o : Oper} {a : Act} {Q : Exit → Act → World → Prop} (hgd : o.guard = none) (m x : Operand) (hop : o.op = Op.lookup 71 m x true)
    {r c p : Nat} {F : Nat → Option Int} (hM : MapN w r c F) (hp : p < 1000000) (hm : a.eval m = .map (some r)) (hx : a.eval x = .int .i64 p)
    (h : wpList Try.prog ops Q rest (a.put o.dst (.tuple #[.int .i64 ((F p).getD 0), .bool (F p).isSome])) w) : wpList Try.prog ops Q (o :: rest) a w := by
  obtain ⟨cnt, D, h1, h2, h3⟩ := hM
  obtain ⟨e1, e2⟩ := h3 p hp
  refine wpList_lookup_own_ok_int (P := Try.prog) w hgd m x 71 hop 3 3 .i64 (Maps.int_keyed Try.underlying3) Try.underlying71 Try.underlying3 (Try.zeroValue3 _) r cnt D hm h2 _ (.int .i64 p) hx (Maps.keyOf_int_mk Try.underlying3 (wf_nat hp)) ?_
  intro v hv _
  rw [e2] at hv
  have : v = (F p).getD 0 := by injection hv with hv; injection hv with _ hv; exact hv.symm
  rw [this, e1]
  exact h
theorem wpList_lookM {w : World} {ops : Array Oper} {rest : List Oper} {o : Oper} {a : Act} {Q : Exit → Act → World → Prop} (hgd : o.guard = none) (m x : Operand) (hop : o.op = Op.lookup 71 m x false)
    {r c p : Nat} {F : Nat → Option Int} (hM : MapN w r c F) (hp : p < 1000000) (hm : a.eval m = .map (some r)) (hx : a.eval x = .int .i64 p)
    (h : wpList Try.prog ops Q rest (a.put o.dst (.int .i64 ((F p).getD 0))) w) : wpList Try.prog ops Q (o :: rest) a w := by
  obtain ⟨cnt, D, h1, h2, h3⟩ := hM
  obtain ⟨e1, e2⟩ := h3 p hp
  refine wpList_lookup_own_int (P := Try.prog) w hgd m x 71 hop 3 3 .i64 (Maps.int_keyed Try.underlying3) Try.underlying71 Try.underlying3 (Try.zeroValue3 _) r cnt D hm h2 _ (.int .i64 p) hx (Maps.keyOf_int_mk Try.underlying3 (wf_nat hp)) ?_
  intro v hv _
  rw [e2] at hv
  have : v = (F p).getD 0 := by injection hv with hv; injection hv with _ hv; exact hv.symm
  rw [this]
  exact h
theorem wpList_updN {w : World} {ops : Array Oper} {rest : List Oper} {o : Oper} {a : Act} {Q : Exit → Act → World → Prop} (hgd : o.guard = none) (m x v : Operand) (hop : o.op = Op.mapUpdate 71 m x v)
    {r c p : Nat} {F : Nat → Option Int} {u : Int} (hM : MapN w r c F) (hp : p < 1000000) (hc : c < 1000000) (hu : (Lit.int .i64 u).wf = true) (hm : a.eval m = .map (some r)) (hx : a.eval x = .int .i64 p) (hv : a.eval v = .int .i64 u)
    (h : ∀ w', Only r w w' → MapN w' r (c + 1) (fun q => if q = p then some u else F q) → wpList Try.prog ops Q rest (a.put o.dst undef) w') : wpList Try.prog ops Q (o :: rest) a w := by
  obtain ⟨cnt, D, h1, h2, h3⟩ := hM
  refine wpList_mapUpdate_in (P := Try.prog) w hgd m x v 71 hop 3 3 (Maps.int_keyed Try.underlying3) Try.underlying71 (plainElem Try.prog 3) r cnt D hm h2 (by unfold maxLen; omega) _ _ (.int .i64 p) hx hv (Maps.keyOf_int_mk Try.underlying3 (wf_nat hp)) (.lit (.int .i64 u)) [] (plainElem_int Try.underlying3 hu) ?_
  intro w' h4 h5
  have hk : WideAt.IsKeyLit (.int .i64 (p : Int)) := by trivial
  refine h w' ?_ ⟨cnt + 1, _, by omega, h4, ?_⟩
  · obtain ⟨es, clock, es', clock', h6, rfl⟩ := h5
    exact ⟨rfl, rfl, rfl, by simp [setBlock], fun j hj => by simp only [setBlock]; rw [Array.getElem?_setIfInBounds_ne (fun e => hj e.symm)]⟩
  · intro q hq
    by_cases e : q = p
    · subst e
      rw [Maps.has_put_same h2.isMap hk, Maps.atKey_put_same h2.isMap hk]
      dsimp only
      rw [if_pos rfl]
      exact ⟨rfl, rfl⟩
    · have hne : (Lit.int .i64 (q : Int)) ≠ .int .i64 (p : Int) := by simp; omega
      rw [Maps.has_put_other hne, Maps.atKey_put_other hne]
      dsimp only
      rw [if_neg e]
      exact h3 q hq
/-- The order's row. -/
def ordI (l : List Nat) : List Int := l.map (fun (p : Nat) => Int.ofNat p)
theorem ordI_snoc (l : List Nat) (p : Nat) : ordI (l ++ [p]) = ordI l ++ [(p : Int)] := by simp [ordI]
theorem ordI_length (l : List Nat) : (ordI l).length = l.length := by simp [ordI]
theorem gw_ordI {l : List Nat} {i : Nat} (h : i < l.length) : gw (ordI l) i = (l.getD i 0 : Int) := by simp [gw, ordI, List.getD, h]
end Go.Proofs.Ytikdflppccbdaaa
