/-
  VALUES AND FRAMES OF A RUN IN MEMORY.
-/
import Derived.Test.YtdmkjndlobichaaKRow
import Derived.Test.YtdmkjndlobichaaKMach
import Derived.Test.YtdmkjndlobichaaKMap
import Derived.Maps.OwnSet
namespace Go.Proofs.Ytdmkjndlobichaa
set_option linter.all false
open Go.ChangeShapes Go.WideShapes Go.ChangeAt Go.RowKit Go.Maps
open Tm (Te Pv Fr lookV look setV atomV)

/-- How a pointer to a value reads, as an element of a map. -/
def ptrElem : Value → Option (DataW Unit × List MemPlace)
  | .pointer none => some (.lit (.int .i64 (-1)), [])
  | .pointer (some ⟨g, 0, none⟩) => some (.lit (.int .i64 g), [])
  | _ => none
theorem ptrElem_inv {v : Value} {z : DataW Unit × List MemPlace} (h : ptrElem v = some z) : (v = .pointer none ∧ z = (.lit (.int .i64 (-1)), [])) ∨ ∃ g : Nat, v = .pointer (some ⟨g, 0, none⟩) ∧ z = (.lit (.int .i64 g), []) := by
  unfold ptrElem at h
  split at h
  · injection h with h; exact .inl ⟨rfl, h.symm⟩
  · rename_i g; injection h with h; exact .inr ⟨g, rfl, h.symm⟩
  · cases h
theorem ptrElem_mk (g : Nat) : ptrElem (.pointer (some ⟨g, 0, none⟩)) = some (.lit (.int .i64 g), []) := rfl
mutual
/-- A value at a block. φ: where the frames and their maps lie. -/
def PAt (w : World) (S : Nat → Prop) (φ : List (Nat × Nat)) : Pv → Nat → Prop
  | .zero, p => S p ∧ Blk w p 106 #[.int .i64 0, .int .i64 0, .slice none 0 0, .pointer none, .pointer none]
  | .num n, p => S p ∧ Blk w p 106 #[.int .i64 1, .int .i64 n, .slice none 0 0, .pointer none, .pointer none] ∧ (Lit.int .i64 n).wf = true
  | .con n us, p => S p ∧ (∃ A c, Blk w p 106 #[.int .i64 2, .int .i64 n, .slice A us.length c, .pointer none, .pointer none] ∧ us.length ≤ c ∧ c ≤ maxLen ∧ (A = none → us = [] ∧ c = 0) ∧ PRow w S φ us A 0) ∧ (Lit.int .i64 n).wf = true ∧ us.length ≤ 17592186044416
  | .fn ps b e, p => S p ∧ ∃ fa ep mp P pc, Blk w p 106 #[.int .i64 3, .int .i64 0, .slice none 0 0, .pointer (some fa), .pointer (some ⟨ep, 0, none⟩)] ∧ φ[e]? = some (ep, mp) ∧ S fa.block ∧ w.cell? ⟨fa.block, fa.off + 1, none⟩ = some (.slice P ps.length pc) ∧ IAt w S ps P pc ∧ TPt w S ⟨fa.block, fa.off + 2, none⟩ b
def PRow (w : World) (S : Nat → Prop) (φ : List (Nat × Nat)) : List Pv → Option Addr → Nat → Prop
  | [], _, _ => True
  | u :: us, A, j => (∃ ad p, A = some ad ∧ S ad.block ∧ w.cell? (ad.add j) = some (.pointer (some ⟨p, 0, none⟩)) ∧ PAt w S φ u p) ∧ PRow w S φ us A (j + 1)
end
theorem blk_keepP {w w' : World} {g : Nat} {t : TypeId} {cs : Array Value} (h : Blk w g t cs) (hk : g < w.heap.size → w'.heap[g]? = w.heap[g]?) : Blk w' g t cs := (hk h.lt).trans h
def Ext (φ ψ : List (Nat × Nat)) : Prop := ∃ l, ψ = φ ++ l
theorem Ext.refl (φ : List (Nat × Nat)) : Ext φ φ := ⟨[], by simp⟩
theorem Ext.get {φ ψ : List (Nat × Nat)} (h : Ext φ ψ) {e : Nat} {x : Nat × Nat} (he : φ[e]? = some x) : ψ[e]? = some x := by
  obtain ⟨l, rfl⟩ := h
  have hl := (List.getElem?_eq_some_iff.1 he).1
  rw [List.getElem?_append_left hl]
  exact he
theorem Ext.trans {φ ψ χ : List (Nat × Nat)} (h : Ext φ ψ) (k : Ext ψ χ) : Ext φ χ := by
  obtain ⟨l, rfl⟩ := h
  obtain ⟨m, rfl⟩ := k
  exact ⟨l ++ m, by simp⟩
mutual
theorem PAt.keep {w w' : World} {S T : Nat → Prop} {φ ψ : List (Nat × Nat)} (hx : Ext φ ψ) (h : ∀ k, S k → k < w.heap.size → w'.heap[k]? = w.heap[k]? ∧ T k) : ∀ (u : Pv) (p : Nat), PAt w S φ u p → PAt w' T ψ u p
  | .zero, p, hv => by
    rw [PAt] at hv ⊢
    exact ⟨(h p hv.1 hv.2.lt).2, blk_keepP hv.2 (fun hl => (h p hv.1 hl).1)⟩
  | .num n, p, hv => by
    rw [PAt] at hv ⊢
    exact ⟨(h p hv.1 hv.2.1.lt).2, blk_keepP hv.2.1 (fun hl => (h p hv.1 hl).1), hv.2.2⟩
  | .con n us, p, hv => by
    rw [PAt] at hv ⊢
    obtain ⟨h1, ⟨A, c, h2, h3, h4, h5, h6⟩, h7⟩ := hv
    exact ⟨(h p h1 h2.lt).2, ⟨A, c, blk_keepP h2 (fun hl => (h p h1 hl).1), h3, h4, h5, PRow.keep hx h us A 0 h6⟩, h7⟩
  | .fn ps b e, p, hv => by
    rw [PAt] at hv ⊢
    obtain ⟨h1, fa, ep, mp, P, pc, h2, h3, h4, h5, h6, h7⟩ := hv
    have hl : fa.block < w.heap.size := cell_lt (a := ⟨fa.block, fa.off + 1, none⟩) h5
    exact ⟨(h p h1 h2.lt).2, fa, ep, mp, P, pc, blk_keepP h2 (fun hl => (h p h1 hl).1), hx.get h3, (h _ h4 hl).2, cell_of (p := ⟨fa.block, fa.off + 1, none⟩) (h _ h4 hl).1 rfl h5, h6.keep h, h7.keep h⟩
theorem PRow.keep {w w' : World} {S T : Nat → Prop} {φ ψ : List (Nat × Nat)} (hx : Ext φ ψ) (h : ∀ k, S k → k < w.heap.size → w'.heap[k]? = w.heap[k]? ∧ T k) : ∀ (us : List Pv) (A : Option Addr) (j : Nat), PRow w S φ us A j → PRow w' T ψ us A j
  | [], _, _, _ => by rw [PRow]; trivial
  | u :: us, A, j, hv => by
    rw [PRow] at hv ⊢
    obtain ⟨⟨ad, p, h1, h2, h3, h4⟩, h5⟩ := hv
    have eb := add_block ad j
    have hlt : ad.block < w.heap.size := by have := cell_lt h3; omega
    exact ⟨⟨ad, p, h1, (h _ h2 hlt).2, cell_of (h _ h2 hlt).1 eb h3, PAt.keep hx h u p h4⟩, PRow.keep hx h us A (j + 1) h5⟩
end
theorem PAt.up {w w' : World} {S : Nat → Prop} {φ : List (Nat × Nat)} {u : Pv} {p : Nat} (h : PAt w S φ u p) (hb : Below w.heap.size w w') : PAt w' S φ u p := PAt.keep (Ext.refl _) (fun k hk hl => ⟨hb.block k hl, hk⟩) u p h
theorem PRow.get {w : World} {S : Nat → Prop} {φ : List (Nat × Nat)} : ∀ {us : List Pv} {A : Option Addr} {i k : Nat} (_ : PRow w S φ us A i) (hk : k < us.length), ∃ ad p, A = some ad ∧ S ad.block ∧ w.cell? (ad.add (i + k)) = some (.pointer (some ⟨p, 0, none⟩)) ∧ PAt w S φ us[k] p
  | [], _, _, _, _, hk => by simp at hk
  | u :: us, A, i, 0, h, _ => by rw [PRow] at h; exact h.1
  | u :: us, A, i, k + 1, h, hk => by
    rw [PRow] at h
    have := PRow.get (i := i + 1) (k := k) h.2 (by simpa using hk)
    rw [show i + 1 + k = i + (k + 1) from by omega] at this
    simpa using this
theorem PRow.mk {w : World} {S : Nat → Prop} {φ : List (Nat × Nat)} {ad : Addr} (hS : S ad.block) : ∀ (us : List Pv) (i : Nat) (_ : ∀ k, (hk : k < us.length) → ∃ p, w.cell? (ad.add (i + k)) = some (.pointer (some ⟨p, 0, none⟩)) ∧ PAt w S φ us[k] p), PRow w S φ us (some ad) i
  | [], _, _ => by rw [PRow]; trivial
  | u :: us, i, h => by
    rw [PRow]
    refine ⟨?_, PRow.mk hS us (i + 1) (fun k hk => ?_)⟩
    · obtain ⟨p, h1⟩ := h 0 (by simp)
      exact ⟨ad, p, rfl, hS, h1⟩
    · have := h (k + 1) (by simpa using hk)
      rw [show i + (k + 1) = i + 1 + k from by omega] at this
      simpa using this
/-- A value's kind and number. -/
def knd : Pv → Int | .zero => 0 | .num _ => 1 | .con _ _ => 2 | .fn _ _ _ => 3
def nmb : Pv → Int | .zero => 0 | .num n => n | .con n _ => n | .fn _ _ _ => 0
def kids : Pv → List Pv | .con _ us => us | _ => []
/-- The five cells of a value. -/
theorem PAt.cells {w : World} {S : Nat → Prop} {φ : List (Nat × Nat)} {u : Pv} {p : Nat} (h : PAt w S φ u p) :
    ∃ A c f e, Blk w p 106 #[.int .i64 (knd u), .int .i64 (nmb u), .slice A (kids u).length c, .pointer f, .pointer e] ∧ S p ∧ (kids u).length ≤ c ∧ c ≤ maxLen ∧ PRow w S φ (kids u) A 0 ∧ (Lit.int .i64 (nmb u)).wf = true ∧ (kids u).length ≤ 17592186044416 := by
  cases u with
  | zero => rw [PAt] at h; exact ⟨none, 0, none, none, h.2, h.1, Nat.le_refl _, by decide, by simp [kids, PRow], by decide, by simp [kids]⟩
  | num n => rw [PAt] at h; exact ⟨none, 0, none, none, h.2.1, h.1, Nat.le_refl _, by decide, by simp [kids, PRow], h.2.2, by simp [kids]⟩
  | con n us =>
    rw [PAt] at h
    obtain ⟨h1, ⟨A, c, h2, h3, h4, h5, h6⟩, h7, h8⟩ := h
    exact ⟨A, c, none, none, h2, h1, h3, h4, h6, h7, h8⟩
  | fn ps b e =>
    rw [PAt] at h
    obtain ⟨h1, fa, ep, mp, P, pc, h2, h3, h4, h5, h6, h7⟩ := h
    exact ⟨none, 0, some fa, some ⟨ep, 0, none⟩, h2, h1, Nat.le_refl _, by decide, by simp [kids, PRow], (show (Lit.int .i64 0).wf = true by decide), by simp [kids]⟩
/-- A map of variables to values. -/
def MapV (w : World) (S : Nat → Prop) (φ : List (Nat × Nat)) (m : Nat) (vars : List (Int × Pv)) : Prop :=
  ∃ D : DataW Unit, w.ownsMap Try.prog 3 ptrElem m vars.length D ∧ ∀ s : Int, (Lit.int .i64 s).wf = true → match lookV vars s with
    | none => Maps.has D (.int .i64 s) = false
    | some u => Maps.has D (.int .i64 s) = true ∧ ∃ g : Nat, D.atKey (.int .i64 s) (.lit (.int .i64 (-1))) = .lit (.int .i64 g) ∧ PAt w S φ u g
theorem MapV.lt {w : World} {S : Nat → Prop} {φ : List (Nat × Nat)} {m : Nat} {vars : List (Int × Pv)} (h : MapV w S φ m vars) : m < w.heap.size := by
  obtain ⟨D, h1, _⟩ := h
  exact h1.lt
theorem MapV.keep {w w' : World} {S T : Nat → Prop} {φ ψ : List (Nat × Nat)} {m : Nat} {vars : List (Int × Pv)} (h : MapV w S φ m vars) (hx : Ext φ ψ) (hm : w'.heap[m]? = w.heap[m]?) (hk : ∀ k, S k → k < w.heap.size → w'.heap[k]? = w.heap[k]? ∧ T k) : MapV w' T ψ m vars := by
  obtain ⟨D, ⟨es, cl, h1, h2⟩, h3⟩ := h
  refine ⟨D, ⟨es, cl, hm.trans h1, h2⟩, fun s hs => ?_⟩
  have h4 := h3 s hs
  split at h4
  · exact h4
  · obtain ⟨h5, g, h6, h7⟩ := h4
    exact ⟨h5, g, h6, PAt.keep hx hk _ _ h7⟩
theorem MapV.made (w : World) (S : Nat → Prop) (φ : List (Nat × Nat)) : MapV (w.alloc (.map #[] 0)) S φ w.heap.size [] := ⟨.map [], World.ownsMap_made _ _ _ _, fun s _ => by rw [lookV]; rfl⟩
theorem zero_ptr (w : World) : (zeroValue 101).run Try.prog w = .ok (.pointer none) w := by kernel_rfl
theorem int_lawV : Keyed Try.prog 3 := int_keyed Try.underlying3
/-- v, ok := m[s]. -/
theorem wpList_lookV {w : World} {ops : Array Oper} {rest : List Oper} {o : Oper} {a : Act} {Q : Exit → Act → World → Prop} (hg : o.guard = none) (m x : Operand) (hop : o.op = Op.lookup 117 m x true) {S : Nat → Prop} {φ : List (Nat × Nat)} {B : Nat} {vars : List (Int × Pv)} (h : MapV w S φ B vars) {s : Int} (hs : (Lit.int .i64 s).wf = true)
    (hm : a.eval m = .map (some B)) (hx : a.eval x = .int .i64 s)
    (hK : ∀ v b, ((lookV vars s = none ∧ b = false) ∨ ∃ u g, lookV vars s = some u ∧ b = true ∧ v = .pointer (some ⟨g, 0, none⟩) ∧ PAt w S φ u g) → wpList Try.prog ops Q rest (a.put o.dst (.tuple #[v, .bool b])) w) : wpList Try.prog ops Q (o :: rest) a w := by
  obtain ⟨D, h1, h2⟩ := h
  refine wpList_lookup_own_ok w hg m x 117 hop 3 101 int_lawV Try.underlying117 ptrElem (zero_ptr w) (.lit (.int .i64 (-1))) [] rfl B _ D hm h1 (.int .i64 s) _ hx (keyOf_int_mk Try.underlying3 hs) (fun v ps hv => hK v _ ?_)
  have h3 := h2 s hs
  cases hl : lookV vars s with
  | none =>
    rw [hl] at h3
    exact .inl ⟨rfl, h3⟩
  | some u =>
    rw [hl] at h3
    obtain ⟨h4, g, h5, h6⟩ := h3
    rw [h5] at hv
    rcases ptrElem_inv hv with ⟨rfl, e⟩ | ⟨g2, rfl, e⟩
    · injection e with e _
      injection e with e
      injection e with _ e
      omega
    · injection e with e _
      injection e with e
      injection e with _ e
      obtain rfl : g = g2 := by omega
      exact .inr ⟨u, g, rfl, h4, rfl, h6⟩
theorem MapV.put {w w' : World} {S T : Nat → Prop} {φ : List (Nat × Nat)} {B : Nat} {vars : List (Int × Pv)} {D : DataW Unit} {k : Nat} {s : Int} {g : Nat} {u : Pv} (hmap : IsMap D)
    (h2 : ∀ s : Int, (Lit.int .i64 s).wf = true → match lookV vars s with
      | none => Maps.has D (.int .i64 s) = false
      | some u => Maps.has D (.int .i64 s) = true ∧ ∃ g : Nat, D.atKey (.int .i64 s) (.lit (.int .i64 (-1))) = .lit (.int .i64 g) ∧ PAt w S φ u g)
    (h3 : w'.ownsMap Try.prog 3 ptrElem B (vars.length + 1) (D.put (.int .i64 s) (.lit (.int .i64 g)))) (hk : ∀ k, S k → k < w.heap.size → w'.heap[k]? = w.heap[k]? ∧ T k) (hu : PAt w S φ u g) : MapV w' T φ B ((s, u) :: vars) := by
  refine ⟨_, h3, fun s' hs' => ?_⟩
  rw [lookV]
  by_cases e : s = s'
  · subst e
    rw [if_pos rfl]
    refine ⟨Maps.has_put_same (k := .int .i64 s) hmap (by trivial) _, g, ?_, PAt.keep (Ext.refl _) hk _ _ hu⟩
    exact atKey_put_same (k := .int .i64 s) hmap (by trivial) _ _
  · rw [if_neg e]
    have hne : (Lit.int .i64 s' : Lit) ≠ .int .i64 s := fun h => e (int_inj9 h).symm
    have h4 := h2 s' hs'
    split at h4
    · rw [Maps.has_put_other hne]; exact h4
    · obtain ⟨h5, g5, h6, h7⟩ := h4
      exact ⟨by rw [Maps.has_put_other hne]; exact h5, g5, by rw [atKey_put_other hne]; exact h6, PAt.keep (Ext.refl _) hk _ _ h7⟩
end Go.Proofs.Ytdmkjndlobichaa
