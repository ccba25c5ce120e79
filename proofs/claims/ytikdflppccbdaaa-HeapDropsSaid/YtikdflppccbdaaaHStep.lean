/-
  append ONTO A ROW OF THE CALL's OWN, AS ONE STEP (for a region that draws its order).
-/
import Derived.Test.YtikdflppccbdaaaHOpen
import Derived.Maps.AppendAt
namespace Go.Proofs.Ytikdflppccbdaaa
open Go.ChangeShapes Go.WideShapes Go.ChangeAt Go.RowKit

theorem step_appI {w : World} {ops : Array Oper} {o : Oper} {a : Act} {K : Act → World → Prop} {Q : Exit → Act → World → Prop} {E : Prop} (hgd : o.guard = none) (s x : Operand)
    (ho : o.op = .call { callee := .builtin .append, args := #[s, x], argTypes := #[22, 22] })
    (B : Nat) {v : Value} {xs : List Int} (hs : a.eval s = v) (hown : OwnI w B v xs) {A : Option Addr} {n c Bi : Nat} {ys : List Int} (hx : a.eval x = .slice A n c) (hi : Ints w Bi A n c ys)
    (hlen : xs.length + n ≤ 1000000) (hB : B ≤ w.heap.size)
    (h : ∀ A' c' w', OwnI w' B (.slice A' (xs.length + n) c') (xs ++ ys) → w.grownBy w' v.ownBlock → (∀ B0 w0, B0 ≤ B → Below B0 w0 w → Below B0 w0 w') → K (a.put o.dst (.slice A' (xs.length + n) c')) w') : if Region.wanted o (yielded ops a.tmps) = true then Oper.wp Try.prog o a w K Q else E := by
  have hw : Region.wanted o (yielded ops a.tmps) = true := by simp [Region.wanted, hgd]
  rw [if_pos hw]
  obtain ⟨i, hi1, hz, hs1, hs2⟩ := info_int.parts
  have hwf : ∀ z ∈ xs ++ ys, (Lit.int .i64 z).wf = true := by
    intro z hz
    rcases List.mem_append.1 hz with hz | hz
    · exact hown.wf z hz
    · exact hi.wf z hz
  have hrow : w.ownsRow B 3 1 v xs.length (xs.map (.int .i64)) := by have := hown.own; unfold Own at this; rwa [List.length_map] at this
  cases A with
  | none =>
    obtain ⟨rfl, rfl⟩ := hi.nil rfl
    obtain rfl : ys = [] := List.length_eq_zero_iff.1 hi.len.symm
    obtain ⟨A', c', hv, _⟩ := hown.slice
    subst hv
    have hrun := run_append_owned_none (P := Try.prog) (w := w) B 22 o.type 3 i 1 Try.underlying22 hi1 _ xs.length _ hrow
    unfold Oper.wp
    simp [execOp, ho, resolve, invoke, builtin, hs, hx, hrun, Result.andThen]
    have := h A' c' w (by simpa using hown) ⟨rfl, rfl, rfl, Nat.le_refl _, fun _ _ _ => rfl⟩ (fun _ _ _ hb => hb)
    have h8 : K (a.put o.dst (.slice A' xs.length c')) w := by simpa using this
    exact h8
  | some ad =>
    obtain ⟨v', w', hr, h1, h2, _, _⟩ := run_append_own_at (P := Try.prog) w B 22 o.type 3 i (.int .i64 0) 1 8 Try.underlying22 hi1 hz hs1 hs2 rfl (by omega) v xs.length _ hrow ad n c (ys.map (.int .i64)) (by simp [hi.len]) (news_of_ints hi) (by simp [Value.oneCell']) (by unfold maxLen; omega) (by omega) hB
    have hO : OwnI w' B v' (xs ++ ys) := ⟨by unfold Own; have := h1; rwa [← List.map_append, show xs.length + n = ((xs ++ ys).map (Value.int .i64)).length from by simp [hi.len]] at this, hwf⟩
    unfold Oper.wp execOp
    simp only [ho, resolve, invoke, builtin, Sem.run_bind, Sem.run_pure, Result.andThen_ok, List.map_toArray, List.map_cons, List.map_nil, hs, hx, hr]
    obtain ⟨A', c', hv, _⟩ := hO.slice
    subst hv
    have e : (xs ++ ys).length = xs.length + n := by simp [hi.len]
    rw [e] at hO ⊢
    exact h A' c' w' hO h2 (fun B0 w0 hle hb => hb.grown h2 (Nat.le_trans hle hB) fun k hk => Nat.le_trans hle (hrow.lt k hk).1)
end Go.Proofs.Ytikdflppccbdaaa
