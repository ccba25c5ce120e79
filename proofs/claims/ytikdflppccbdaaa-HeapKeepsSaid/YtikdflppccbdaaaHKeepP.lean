/-
  PLAIN: a collection keeps what the roots show.
-/
import Derived.Test.YtikdflppccbdaaaHShapeP
namespace Go.Proofs.Ytikdflppccbdaaa
open Go.RowKit

theorem posL_ge (f : Nat → Int) (p : Nat) : ∀ (l : List Nat) (b : Nat), b ≤ posL f b l p
  | [], b => Nat.le_refl _
  | q :: l, b => by
    show b ≤ if q = p then b else posL f (b + ofS (f q) + 1) l p
    split
    · exact Nat.le_refl _
    · have := posL_ge f p l (b + ofS (f q) + 1); omega
theorem posL_lt {f : Nat → Int} {p : Nat} : ∀ {l : List Nat} {b : Nat}, p ∈ l → posL f b l p + ofS (f p) < b + szs f l
  | q :: l, b, h => by
    show (if q = p then b else posL f (b + ofS (f q) + 1) l p) + _ < _
    rw [szs_cons]
    by_cases e : q = p
    · subst e; rw [if_pos rfl]; omega
    · rw [if_neg e]
      rcases List.mem_cons.1 h with h | h
      · exact absurd h.symm e
      · have := posL_lt (f := f) (b := b + ofS (f q) + 1) h; omega
theorem posL_inj {f : Nat → Int} {p r : Nat} : ∀ {l : List Nat} {b : Nat}, p ∈ l → r ∈ l → posL f b l p = posL f b l r → p = r
  | q :: l, b, hp, hr, h => by
    have h' : (if q = p then b else posL f (b + ofS (f q) + 1) l p) = if q = r then b else posL f (b + ofS (f q) + 1) l r := h
    have g1 := posL_ge f p l (b + ofS (f q) + 1)
    have g2 := posL_ge f r l (b + ofS (f q) + 1)
    by_cases e1 : q = p
    · by_cases e2 : q = r
      · exact e1.symm.trans e2
      · rw [if_pos e1, if_neg e2] at h'; omega
    · by_cases e2 : q = r
      · rw [if_neg e1, if_pos e2] at h'; omega
      · rw [if_neg e1, if_neg e2] at h'
        rcases List.mem_cons.1 hp with hp | hp
        · exact absurd hp.symm e1
        · rcases List.mem_cons.1 hr with hr | hr
          · exact absurd hr.symm e2
          · exact posL_inj hp hr h'
/-- Where an object's image stands. -/
theorem at_pos {f to : Nat → Int} {g : Nat → List Int} (hg : ∀ p, (g p).length = ofS (f p) + 1) {p : Nat} : ∀ {l : List Nat} {b : Nat}, At to b (l.flatMap g) → p ∈ l → At to (posL f b l p) (g p)
  | q :: l, b, h, hp => by
    rw [List.flatMap_cons] at h
    show At to (if q = p then b else posL f (b + ofS (f q) + 1) l p) (g p)
    by_cases e : q = p
    · subst e; rw [if_pos rfl]; exact h.left
    · rw [if_neg e]
      rcases List.mem_cons.1 hp with hp | hp
      · exact absurd hp.symm e
      · refine at_pos hg ?_ hp
        have := h.right
        rwa [hg q, show b + (ofS (f q) + 1) = b + ofS (f q) + 1 from by omega] at this
theorem lay_at (f : Nat → Int) (b : Nat) (L : List Nat) : At (lay f b L) b (L.flatMap (img f b L)) := by
  intro k hk
  have hl := imgs_length f b L L
  unfold lay
  rw [if_pos ⟨by omega, by omega⟩, show b + k - b = k from by omega]
  simp [List.getD, List.getElem?_eq_getElem hk]
section
variable {f : Nat → Int} {b : Nat} {L : List Nat}
theorem lay_head {p : Nat} (hp : p ∈ L) : lay f b L (posL f b L p) = f p := (at_pos (img_length f b L) (lay_at f b L) hp).head
theorem lay_oth {p : Nat} (hp : p ∈ L) : oth (lay f b L) (posL f b L p) = (oth f p).map (tr f b L) := by
  have h := (at_pos (img_length f b L) (lay_at f b L) hp).tail
  apply List.ext_getElem
  · rw [oth_length, lay_head hp, List.length_map, oth_length]
  · intro i h1 h2
    rw [← h i h2]
    simp [oth]
theorem tr_pl {x : Int} (hlim : b + szs f L ≤ 262144) (h : PlOk x → plN x ∈ L) : (PlOk (tr f b L x) ↔ PlOk x) ∧ (PlOk x → plN (tr f b L x) = posL f b L (plN x)) := by
  by_cases hx : PlOk x
  · have e : tr f b L x = 1024 + 4 * (posL f b L (plN x) : Int) := if_pos hx
    have := posL_lt (f := f) (b := b) (h hx)
    have h1 : PlOk (tr f b L x) := by rw [e]; unfold PlOk; omega
    exact ⟨⟨fun _ => hx, fun _ => h1⟩, fun _ => by rw [e]; unfold plN; omega⟩
  · have e : tr f b L x = x := if_neg hx
    exact ⟨by rw [e], fun h => absurd h hx⟩
theorem mem_pos {l : List Nat} (hl : ∀ p ∈ l, p ∈ L) {p : Nat} (hp : p ∈ L) : posL f b L p ∈ l.map (posL f b L) ↔ p ∈ l := by
  constructor
  · intro h
    obtain ⟨q, hq, e⟩ := List.mem_map.1 h
    rw [← posL_inj (hl q hq) hp e]; exact hq
  · intro h; exact List.mem_map.2 ⟨p, h, rfl⟩
theorem enc_pos (hlim : b + szs f L ≤ 262144) {l : List Nat} (hl : ∀ p ∈ l, p ∈ L) {x : Int} (hx : PlOk x → plN x ∈ L) : enc (l.map (posL f b L)) (tr f b L x) = (enc l x).map (posL f b L) := by
  obtain ⟨t1, t2⟩ := tr_pl (f := f) (b := b) hlim hx
  unfold enc
  by_cases hp : PlOk x
  · rw [t2 hp]
    by_cases hm : plN x ∈ l
    · rw [if_neg (fun h => h.2 ((mem_pos hl (hx hp)).2 hm)), if_neg (fun h => h.2 hm)]
    · rw [if_pos ⟨t1.2 hp, fun h => hm ((mem_pos hl (hx hp)).1 h)⟩, if_pos ⟨hp, hm⟩, List.map_append]; rfl
  · rw [if_neg (fun h => hp (t1.1 h.1)), if_neg (fun h => hp h.1)]
theorem encs_pos (hlim : b + szs f L ≤ 262144) : ∀ {xs : List Int} {l : List Nat}, (∀ p ∈ l, p ∈ L) → (∀ x ∈ xs, PlOk x → plN x ∈ L) → encs (l.map (posL f b L)) (xs.map (tr f b L)) = (encs l xs).map (posL f b L)
  | [], _, _, _ => rfl
  | x :: xs, l, hl, hx => by
    rw [List.map_cons, encs_cons, encs_cons, enc_pos hlim hl (hx x (by simp))]
    exact encs_pos hlim (enc_sub hl (hx x (by simp))) (fun y hy => hx y (by simp [hy]))
theorem bfsO_pos (hlim : b + szs f L ≤ 262144) (hw : ∀ p ∈ L, ∀ x ∈ oth f p, PlOk x → plN x ∈ L) : ∀ (g : Nat) {l M : List Nat} {i : Nat}, (∀ p ∈ l, p ∈ L) → bfsO f g l i = some M → bfsO (lay f b L) g (l.map (posL f b L)) i = some (M.map (posL f b L))
  | 0, l, M, i, _, h => by
    unfold bfsO at h ⊢
    rw [List.length_map]
    by_cases hi : i < l.length
    · rw [if_pos hi] at h; cases h
    · rw [if_neg hi] at h ⊢
      injection h with h; rw [h]
  | g + 1, l, M, i, hl, h => by
    unfold bfsO at h ⊢
    rw [List.length_map]
    by_cases hi : i < l.length
    · rw [if_pos hi] at h ⊢
      have hp : l.getD i 0 ∈ L := hl _ (by simp [List.getD, hi])
      have e : (l.map (posL f b L)).getD i 0 = posL f b L (l.getD i 0) := by simp [List.getD, hi]
      rw [e, lay_oth hp, encs_pos hlim hl (hw _ hp)]
      exact bfsO_pos hlim hw g (encs_sub _ hl (hw _ hp)) h
    · rw [if_neg hi] at h ⊢
      injection h with h; rw [h]
theorem idx_pos : ∀ {l : List Nat} {p : Nat}, (∀ q ∈ l, q ∈ L) → p ∈ L → idx (l.map (posL f b L)) (posL f b L p) = idx l p
  | [], _, _, _ => rfl
  | q :: l, p, hl, hp => by
    show (if posL f b L q = posL f b L p then 0 else idx (l.map (posL f b L)) (posL f b L p) + 1) = if q = p then 0 else idx l p + 1
    by_cases e : q = p
    · rw [if_pos e, if_pos (by rw [e])]
    · rw [if_neg e, if_neg (fun h => e (posL_inj (hl q (by simp)) hp h)), idx_pos (fun r hr => hl r (by simp [hr])) hp]
theorem wnum_pos (hlim : b + szs f L ≤ 262144) {x : Int} (hx : PlOk x → plN x ∈ L) : wnum (L.map (posL f b L)) (tr f b L x) = wnum L x := by
  obtain ⟨t1, t2⟩ := tr_pl (f := f) (b := b) hlim hx
  unfold wnum
  by_cases hp : PlOk x
  · rw [if_pos (t1.2 hp), if_pos hp, t2 hp, idx_pos (fun _ h => h) (hx hp)]
  · rw [if_neg (fun h => hp (t1.1 h)), if_neg hp]; exact if_neg hp
theorem szs_pos : ∀ {l : List Nat}, (∀ q ∈ l, q ∈ L) → szs (lay f b L) (l.map (posL f b L)) = szs f l
  | [], _ => rfl
  | q :: l, hl => by rw [List.map_cons, szs_cons, szs_cons, lay_head (hl q (by simp)), szs_pos fun r hr => hl r (by simp [hr])]
theorem shapeL_pos (hlim : b + szs f L ≤ 262144) (hw : ∀ p ∈ L, ∀ x ∈ oth f p, PlOk x → plN x ∈ L) {roots : List Int} (hr : ∀ x ∈ roots, PlOk x → plN x ∈ L) : shapeL (lay f b L) (L.map (posL f b L)) (roots.map (tr f b L)) = shapeL f L roots := by
  unfold shapeL
  congr 1
  · rw [List.map_map]
    exact List.map_congr_left fun x hx => wnum_pos hlim (hr x hx)
  · simp only [List.flatMap_def, List.map_map]
    congr 1
    apply List.map_congr_left
    intro p hp
    show lay f b L (posL f b L p) :: (oth (lay f b L) (posL f b L p)).map _ = _
    rw [lay_head hp, lay_oth hp, List.map_map]
    congr 1
    exact List.map_congr_left fun x hx => wnum_pos hlim (hw p hp x hx)
end
/-- What was come to is closed. -/
theorem bfsO_closed {f : Nat → Int} : ∀ (g : Nat) {l M : List Nat} {i : Nat}, (∀ k, k < i → ∀ x ∈ oth f (l.getD k 0), PlOk x → plN x ∈ l) → i ≤ l.length → bfsO f g l i = some M → ∀ p ∈ M, ∀ x ∈ oth f p, PlOk x → plN x ∈ M
  | 0, l, M, i, hc, hi, h => by
    unfold bfsO at h
    by_cases hlt : i < l.length
    · rw [if_pos hlt] at h; cases h
    · rw [if_neg hlt] at h
      injection h with h; subst h
      intro p hp x hx hpl
      obtain ⟨k, hk, rfl⟩ := List.getElem_of_mem hp
      exact hc k (by omega) x (by simpa [List.getD, hk] using hx) hpl
  | g + 1, l, M, i, hc, hi, h => by
    unfold bfsO at h
    by_cases hlt : i < l.length
    · rw [if_pos hlt] at h
      obtain ⟨r, hr⟩ := encs_ext (oth f (l.getD i 0)) l
      refine bfsO_closed g ?_ (by rw [hr, List.length_append]; omega) h
      intro k hk x hx hpl
      have e : (encs l (oth f (l.getD i 0))).getD k 0 = l.getD k 0 := by rw [hr]; simp [List.getD, List.getElem?_append, show k < l.length by omega]
      rw [e] at hx
      by_cases hki : k = i
      · subst hki; exact encs_in hx hpl
      · rw [hr]; exact List.mem_append_left _ (hc k (by omega) x hx hpl)
    · rw [if_neg hlt] at h
      injection h with h; subst h
      intro p hp x hx hpl
      obtain ⟨k, hk, rfl⟩ := List.getElem_of_mem hp
      exact hc k (by omega) x (by simpa [List.getD, hk] using hx) hpl
end Go.Proofs.Ytikdflppccbdaaa
