/-
  PLAIN: what roots show.
-/
import Derived.Test.YtikdflppccbdaaaHDropP
namespace Go.Proofs.Ytikdflppccbdaaa
open Go.RowKit

/-- The number of an object in a list. -/
def idx : List Nat → Nat → Nat
  | [], _ => 0
  | q :: r, p => if q = p then 0 else idx r p + 1
theorem idx_append {p : Nat} {r : List Nat} : ∀ {l : List Nat}, p ∈ l → idx (l ++ r) p = idx l p
  | q :: l, h => by
    show (if q = p then 0 else idx (l ++ r) p + 1) = if q = p then 0 else idx l p + 1
    by_cases e : q = p
    · rw [if_pos e, if_pos e]
    · rw [if_neg e, if_neg e]
      rcases List.mem_cons.1 h with h | h
      · exact absurd h.symm e
      · rw [show idx (l ++ r) p = idx l p from idx_append h]
theorem idx_new {p : Nat} {r : List Nat} : ∀ {l : List Nat}, p ∉ l → idx (l ++ p :: r) p = l.length
  | [], _ => by simp [idx]
  | q :: l, h => by
    have e : ¬ q = p := fun e => h (by simp [e])
    show (if q = p then 0 else idx (l ++ p :: r) p + 1) = _
    rw [if_neg e, idx_new (fun hp => h (by simp [hp])), List.length_cons]
theorem idx_lt {p : Nat} : ∀ {l : List Nat}, p ∈ l → idx l p < l.length
  | q :: l, h => by
    show (if q = p then 0 else idx l p + 1) < l.length + 1
    by_cases e : q = p
    · rw [if_pos e]; omega
    · rw [if_neg e]
      rcases List.mem_cons.1 h with h | h
      · exact absurd h.symm e
      · have := idx_lt h; omega
/-- What a word shows. -/
def wnum (l : List Nat) (x : Int) : Int := if PlOk x then (idx l (plN x) : Int) - 1099511627776 else x
theorem wnum_append {l r : List Nat} {x : Int} (h : PlOk x → plN x ∈ l) : wnum (l ++ r) x = wnum l x := by
  unfold wnum
  by_cases hx : PlOk x
  · rw [if_pos hx, if_pos hx, idx_append (h hx)]
  · rw [if_neg hx, if_neg hx]
/-- What roots show, the objects being come to in an order. -/
def shapeL (f : Nat → Int) (L : List Nat) (roots : List Int) : List Int := roots.map (wnum L) ++ L.flatMap fun p => f p :: (oth f p).map (wnum L)
/-- The order's bounds. -/
theorem bfs_facts {h : Hp} {roots : List Int} (hg : GoodP h roots) : ∃ L sts, stl (gw h.ws) h.top.toNat h.base.toNat = some sts ∧ Bfs (gw h.ws) (encs [] roots) 0 L ∧ L.Nodup ∧ (∀ p ∈ L, p ∈ sts) ∧ colB h + szs (gw h.ws) L ≤ colB h + h.room.toNat ∧ collectP h roots = (colOf h L, roots.map (tr (gw h.ws) (colB h) L), 0) := by
  obtain ⟨sts, hst⟩ : ∃ sts, stl (gw h.ws) h.top.toNat h.base.toNat = some sts := by obtain ⟨_, _, s, h, _⟩ := hg; exact ⟨s, h⟩
  obtain ⟨L, q⟩ := col_bfs hg hst
  exact ⟨L, sts, hst, q⟩
noncomputable def ordP (h : Hp) (roots : List Int) (hg : GoodP h roots) : List Nat := (bfs_facts hg).choose
noncomputable def shapeP (h : Hp) (roots : List Int) : List Int := if hg : GoodP h roots then shapeL (gw h.ws) (ordP h roots hg) roots else []
theorem shapeP_no {h : Hp} {roots : List Int} (hg : ¬ GoodP h roots) : shapeP h roots = [] := dif_neg hg
theorem shapeP_yes {h : Hp} {roots : List Int} (hg : GoodP h roots) {L : List Nat} (hb : Bfs (gw h.ws) (encs [] roots) 0 L) : shapeP h roots = shapeL (gw h.ws) L roots := by
  unfold shapeP
  rw [dif_pos hg]
  obtain ⟨_, _, h2, _⟩ := (bfs_facts hg).choose_spec
  have : ordP h roots hg = L := h2.det hb
  rw [this]
/-- How much is reached. -/
theorem live_of {h : Hp} {roots : List Int} (hg : GoodP h roots) {L : List Nat} (hb : Bfs (gw h.ws) (encs [] roots) 0 L) : (collectP h roots).1.top - (collectP h roots).1.base = (szs (gw h.ws) L : Int) := by
  obtain ⟨L', sts, _, b, _, _, _, c⟩ := bfs_facts hg
  obtain rfl := b.det hb
  rw [c]
  obtain ⟨hs, _⟩ := hg
  unfold ShapedP at hs
  unfold colOf colB
  dsimp only
  omega
theorem szs_ge (f : Nat → Int) : ∀ L : List Nat, L.length ≤ szs f L
  | [] => by simp [szs_nil]
  | p :: L => by rw [szs_cons, List.length_cons]; have := szs_ge f L; omega
/-- The objects' numbers, as a row; nought: it was not come to. -/
def numR (l : List Nat) (p : Nat) : Int := if p ∈ l then (idx l p : Int) + 1 else 0
def numM (l : List Nat) (p : Nat) : Option Int := if p ∈ l then some (idx l p : Int) else none
theorem numR_new {l : List Nat} {p : Nat} (h : p ∉ l) : numR (l ++ [p]) = upd (numR l) p ((l.length : Int) + 1) := by
  funext q
  show (if q ∈ l ++ [p] then (idx (l ++ [p]) q : Int) + 1 else 0) = if q = p then (l.length : Int) + 1 else if q ∈ l then (idx l q : Int) + 1 else 0
  by_cases e : q = p
  · subst e; rw [if_pos (by simp), if_pos rfl, idx_new h]
  · rw [if_neg e]
    by_cases hq : q ∈ l
    · rw [if_pos (by simp [hq]), if_pos hq, idx_append hq]
    · rw [if_neg (by simp [hq, e]), if_neg hq]
theorem numM_new {l : List Nat} {p : Nat} (h : p ∉ l) : numM (l ++ [p]) = fun q => if q = p then some (l.length : Int) else numM l q := by
  funext q
  unfold numM
  by_cases e : q = p
  · subst e; rw [if_pos (by simp), if_pos rfl, idx_new h]
  · rw [if_neg e]
    by_cases hq : q ∈ l
    · rw [if_pos (by simp [hq]), if_pos hq, idx_append hq]
    · rw [if_neg (by simp [hq, e]), if_neg hq]
end Go.Proofs.Ytikdflppccbdaaa
