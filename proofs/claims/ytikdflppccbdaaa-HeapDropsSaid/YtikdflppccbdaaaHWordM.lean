/-
  THE MAP OF A COLLECTION; THE WALK OF (*heap.mover).word.
-/
import Derived.Test.YtikdflppccbdaaaHRefWord
import Derived.Maps.OwnSet
import Derived.Maps.Views
namespace Go.Proofs.Ytikdflppccbdaaa
open Go.ChangeShapes Go.WideShapes Go.ChangeAt Go.RowKit Go.ChangeMaps

/-- The map in block r holds f: of each place where f is not nought. -/
def MapIs (w : World) (r c : Nat) (f : Nat → Int) : Prop :=
  ∃ (cnt : Nat) (D : DataW Unit), cnt ≤ c ∧ w.ownsMap Try.prog 3 (plainElem Try.prog 3) r cnt D ∧ ∀ p : Nat, p < 1000000 → Maps.has D (.int .i64 p) = decide (f p ≠ 0) ∧ D.atKey (.int .i64 p) (.lit (.int .i64 0)) = .lit (.int .i64 (f p))
theorem MapIs.made (w : World) : MapIs (w.alloc (.map #[] 0)) w.heap.size 0 (fun _ => 0) :=
  ⟨0, .map [], Nat.le_refl _, World.ownsMap_made w _ _ _, fun _ _ => ⟨rfl, rfl⟩⟩
theorem MapIs.only {w w' : World} {r c g : Nat} {f : Nat → Int} (h : MapIs w r c f) (ho : Only g w w') (hg : r ≠ g) : MapIs w' r c f := by
  obtain ⟨cnt, D, h1, h2, h3⟩ := h
  exact ⟨cnt, D, h1, h2.kept (row := some g) ⟨ho.os, ho.tape, ho.output, Nat.le_of_eq ho.size.symm, fun k _ hk => ho.block k (fun e => hk (by rw [e]))⟩ (fun e => hg (by injection e)), h3⟩
theorem MapIs.below {w w' : World} {r c B : Nat} {f : Nat → Int} (h : MapIs w r c f) (hb : Below B w w') (hr : r < B) : MapIs w' r c f := by
  obtain ⟨cnt, D, h1, ⟨es, clock, hh, h2⟩, h3⟩ := h
  exact ⟨cnt, D, h1, ⟨es, clock, (hb.block r hr).trans hh, h2⟩, h3⟩
theorem MapIs.drew {w : World} {r c : Nat} {f : Nat → Int} (h : MapIs w r c f) : MapIs w.drew r c f := h
theorem MapIs.alloc {w : World} {r c : Nat} {f : Nat → Int} (h : MapIs w r c f) (o : Obj) : MapIs (w.alloc o) r c f := by
  obtain ⟨cnt, D, h1, h2, h3⟩ := h
  exact ⟨cnt, D, h1, h2.alloc o, h3⟩
theorem MapIs.mono {w : World} {r c c' : Nat} {f : Nat → Int} (h : MapIs w r c f) (hc : c ≤ c') : MapIs w r c' f := by
  obtain ⟨cnt, D, h1, h2, h3⟩ := h
  exact ⟨cnt, D, by omega, h2, h3⟩
theorem MapIs.lt {w : World} {r c : Nat} {f : Nat → Int} (h : MapIs w r c f) : r < w.heap.size := by obtain ⟨_, _, _, h2, _⟩ := h; exact h2.lt
theorem wf_nat {p : Nat} (h : p < 1000000) : (Lit.int .i64 (p : Int)).wf = true := by rw [← wrap_small (z := (p : Int)) (by omega)]; exact wrap64_wf _

theorem wpList_lookI {w : World} {ops : Array Oper} {rest : List Oper} {o : Oper} {a : Act} {Q : Exit → Act → World → Prop} (hgd : o.guard = none) (m x : Operand) (hop : o.op = Op.lookup 71 m x true)
    {r c p : Nat} {f : Nat → Int} (hM : MapIs w r c f) (hp : p < 1000000) (hm : a.eval m = .map (some r)) (hx : a.eval x = .int .i64 p)
    (h : wpList Try.prog ops Q rest (a.put o.dst (.tuple #[.int .i64 (f p), .bool (decide (f p ≠ 0))])) w) : wpList Try.prog ops Q (o :: rest) a w := by
  obtain ⟨cnt, D, h1, h2, h3⟩ := hM
  obtain ⟨e1, e2⟩ := h3 p hp
  refine wpList_lookup_own_ok_int (P := Try.prog) w hgd m x 71 hop 3 3 .i64 (Maps.int_keyed Try.underlying3) Try.underlying71 Try.underlying3 (Try.zeroValue3 _) r cnt D hm h2 _ (.int .i64 p) hx (Maps.keyOf_int_mk Try.underlying3 (wf_nat hp)) ?_
  intro v hv _
  rw [e2] at hv
  have : v = f p := by injection hv with hv; injection hv with _ hv; exact hv.symm
  rw [this, e1]
  exact h

theorem wpList_updI {w : World} {ops : Array Oper} {rest : List Oper} {o : Oper} {a : Act} {Q : Exit → Act → World → Prop} (hgd : o.guard = none) (m x v : Operand) (hop : o.op = Op.mapUpdate 71 m x v)
    {r c p : Nat} {f : Nat → Int} {u : Int} (hM : MapIs w r c f) (hp : p < 1000000) (hc : c < 1000000) (hu : (Lit.int .i64 u).wf = true) (hu0 : u ≠ 0) (hm : a.eval m = .map (some r)) (hx : a.eval x = .int .i64 p) (hv : a.eval v = .int .i64 u)
    (h : ∀ w', Only r w w' → MapIs w' r (c + 1) (upd f p u) → wpList Try.prog ops Q rest (a.put o.dst undef) w') : wpList Try.prog ops Q (o :: rest) a w := by
  obtain ⟨cnt, D, h1, h2, h3⟩ := hM
  refine wpList_mapUpdate_in (P := Try.prog) w hgd m x v 71 hop 3 3 (Maps.int_keyed Try.underlying3) Try.underlying71 (plainElem Try.prog 3) r cnt D hm h2 (by unfold maxLen; omega) _ _ (.int .i64 p) hx hv (Maps.keyOf_int_mk Try.underlying3 (wf_nat hp)) (.lit (.int .i64 u)) [] (plainElem_int Try.underlying3 hu) ?_
  intro w' h4 h5
  have hk : WideAt.IsKeyLit (.int .i64 (p : Int)) := by trivial
  refine h w' ?_ ⟨cnt + 1, _, by omega, h4, ?_⟩
  · obtain ⟨es, clock, es', clock', h6, rfl⟩ := h5
    exact ⟨rfl, rfl, rfl, by simp [setBlock], fun j hj => by simp only [setBlock]; rw [Array.getElem?_setIfInBounds_ne (fun e => hj e.symm)]⟩
  · intro q hq
    by_cases e : q = p
    · subst e
      rw [Maps.has_put_same h2.isMap hk, Maps.atKey_put_same h2.isMap hk]
      unfold upd
      rw [if_pos rfl]
      simp [hu0]
    · have hne : (Lit.int .i64 (q : Int)) ≠ .int .i64 (p : Int) := by simp; omega
      rw [Maps.has_put_other hne, Maps.atKey_put_other hne]
      unfold upd
      rw [if_neg e]
      exact h3 q hq
end Go.Proofs.Ytikdflppccbdaaa
