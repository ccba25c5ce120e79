/-
  PLAIN: a collection goes through the objects in breadth; what it answers, said by the order in which objects are come to.
-/
import Derived.Test.YtikdflppccbdaaaHColM
namespace Go.Proofs.Ytikdflppccbdaaa
open Go.RowKit

/-- An object's words. -/
def oth (f : Nat → Int) (p : Nat) : List Int := (List.range (ofS (f p))).map fun j => f (p + 1 + j)
theorem oth_length (f : Nat → Int) (p : Nat) : (oth f p).length = ofS (f p) := by simp [oth]
theorem oth_mem {f : Nat → Int} {p : Nat} {x : Int} : x ∈ oth f p ↔ ∃ j, j < ofS (f p) ∧ x = f (p + 1 + j) := by
  unfold oth
  rw [List.mem_map]
  constructor
  · rintro ⟨j, hj, rfl⟩; exact ⟨j, by simpa using hj, rfl⟩
  · rintro ⟨j, hj, rfl⟩; exact ⟨j, by simpa using hj, rfl⟩
/-- One word: the object that it points to is come to, if it was not. -/
def enc (l : List Nat) (x : Int) : List Nat := if PlOk x ∧ plN x ∉ l then l ++ [plN x] else l
def encs (l : List Nat) (xs : List Int) : List Nat := xs.foldl enc l
theorem encs_nil (l : List Nat) : encs l [] = l := rfl
theorem encs_cons (l : List Nat) (x : Int) (xs : List Int) : encs l (x :: xs) = encs (enc l x) xs := rfl
theorem encs_append (l : List Nat) (xs ys : List Int) : encs l (xs ++ ys) = encs (encs l xs) ys := by simp [encs]
theorem enc_new {l : List Nat} {x : Int} (h : PlOk x ∧ plN x ∉ l) : enc l x = l ++ [plN x] := if_pos h
theorem enc_old {l : List Nat} {x : Int} (h : PlOk x → plN x ∈ l) : enc l x = l := if_neg fun k => k.2 (h k.1)
theorem enc_ext (l : List Nat) (x : Int) : ∃ r, enc l x = l ++ r := by
  by_cases h : PlOk x ∧ plN x ∉ l
  · exact ⟨_, enc_new h⟩
  · exact ⟨[], by rw [List.append_nil]; exact if_neg h⟩
theorem encs_ext : ∀ (xs : List Int) (l : List Nat), ∃ r, encs l xs = l ++ r
  | [], l => ⟨[], by rw [encs_nil, List.append_nil]⟩
  | x :: xs, l => by
    obtain ⟨r1, h1⟩ := enc_ext l x
    obtain ⟨r2, h2⟩ := encs_ext xs (enc l x)
    exact ⟨r1 ++ r2, by rw [encs_cons, h2, h1, List.append_assoc]⟩
theorem enc_nodup {l : List Nat} (h : l.Nodup) (x : Int) : (enc l x).Nodup := by
  by_cases hx : PlOk x ∧ plN x ∉ l
  · rw [enc_new hx, List.nodup_append]
    refine ⟨h, by simp, ?_⟩
    intro a ha c hc e
    obtain rfl : c = plN x := by simpa using hc
    exact hx.2 (e ▸ ha)
  · rw [show enc l x = l from if_neg hx]; exact h
theorem encs_nodup : ∀ (xs : List Int) {l : List Nat}, l.Nodup → (encs l xs).Nodup
  | [], _, h => h
  | x :: xs, _, h => encs_nodup xs (enc_nodup h x)
theorem enc_sub {sts l : List Nat} {x : Int} (hl : ∀ p ∈ l, p ∈ sts) (hx : PlOk x → plN x ∈ sts) : ∀ p ∈ enc l x, p ∈ sts := by
  intro p hp
  by_cases h : PlOk x ∧ plN x ∉ l
  · rw [enc_new h] at hp
    rcases List.mem_append.1 hp with hp | hp
    · exact hl p hp
    · obtain rfl : p = plN x := by simpa using hp
      exact hx h.1
  · rw [show enc l x = l from if_neg h] at hp; exact hl p hp
theorem encs_sub {sts : List Nat} : ∀ (xs : List Int) {l : List Nat}, (∀ p ∈ l, p ∈ sts) → (∀ x ∈ xs, PlOk x → plN x ∈ sts) → ∀ p ∈ encs l xs, p ∈ sts
  | [], _, hl, _ => hl
  | x :: xs, _, hl, hx => encs_sub xs (enc_sub hl (hx x (by simp))) (fun y hy => hx y (by simp [hy]))
theorem enc_in {l : List Nat} {x : Int} (h : PlOk x) : plN x ∈ enc l x := by
  by_cases hx : plN x ∈ l
  · rw [enc_old fun _ => hx]; exact hx
  · rw [enc_new ⟨h, hx⟩]; simp
theorem encs_in : ∀ {xs : List Int} {l : List Nat} {x : Int}, x ∈ xs → PlOk x → plN x ∈ encs l xs
  | y :: ys, l, x, hx, hp => by
    rw [encs_cons]
    rcases List.mem_cons.1 hx with rfl | hx
    · obtain ⟨r, hr⟩ := encs_ext ys (enc l x)
      rw [hr]
      exact List.mem_append_left _ (enc_in hp)
    · exact encs_in hx hp
theorem encs_old : ∀ {xs : List Int} {l : List Nat}, (∀ x ∈ xs, PlOk x → plN x ∈ l) → encs l xs = l
  | [], _, _ => rfl
  | x :: xs, l, h => by
    rw [encs_cons, enc_old (h x (by simp))]
    exact encs_old fun y hy => h y (by simp [hy])

/-- Where an object stands, the objects of a list being laid one behind the other from b on. -/
def posL (f : Nat → Int) : Nat → List Nat → Nat → Nat
  | b, [], _ => b
  | b, q :: r, p => if q = p then b else posL f (b + ofS (f q) + 1) r p
theorem posL_append {f : Nat → Int} {p : Nat} {r : List Nat} : ∀ {l : List Nat} {b : Nat}, p ∈ l → posL f b (l ++ r) p = posL f b l p
  | q :: l, b, h => by
    show (if q = p then b else _) = if q = p then b else _
    by_cases e : q = p
    · rw [if_pos e, if_pos e]
    · rw [if_neg e, if_neg e]
      rcases List.mem_cons.1 h with h | h
      · exact absurd h.symm e
      · exact posL_append h
theorem posL_new {f : Nat → Int} {p : Nat} {r : List Nat} : ∀ {l : List Nat} {b : Nat}, p ∉ l → posL f b (l ++ p :: r) p = b + szs f l
  | [], b, _ => by simp [posL, szs_nil]
  | q :: l, b, h => by
    have e : ¬ q = p := fun e => h (by simp [e])
    show (if q = p then b else posL f (b + ofS (f q) + 1) (l ++ p :: r) p) = _
    rw [if_neg e, posL_new (fun hp => h (by simp [hp])), szs_cons]
    omega
def tr (f : Nat → Int) (b : Nat) (l : List Nat) (x : Int) : Int := if PlOk x then 1024 + 4 * (posL f b l (plN x) : Int) else x
theorem tr_append {f : Nat → Int} {b : Nat} {l r : List Nat} {x : Int} (h : PlOk x → plN x ∈ l) : tr f b (l ++ r) x = tr f b l x := by
  unfold tr
  by_cases hx : PlOk x
  · rw [if_pos hx, if_pos hx, posL_append (h hx)]
  · rw [if_neg hx, if_neg hx]

/-- A collection's state, by the order in which objects were come to. -/
structure SI (f : Nat → Int) (b : Nat) (st : St) (l : List Nat) : Prop where
  nd : l.Nodup
  top : st.top = b + szs f l
  mv : ∀ p, st.mv p = if p ∈ l then 1024 + 4 * (posL f b l p : Int) else 0
theorem SI.start (f : Nat → Int) (b : Nat) (to : Nat → Int) : SI f b ⟨to, b, fun _ => 0⟩ [] := ⟨by simp, by simp [szs_nil], by simp⟩
theorem SI.val {f : Nat → Int} {b : Nat} {st : St} {l : List Nat} (h : SI f b st l) {x : Int} (hx : PlOk x → plN x ∈ l) : mvv st x = tr f b l x := by
  unfold mvv tr
  by_cases hp : PlOk x
  · rw [if_pos hp, if_pos hp, h.mv, if_pos (hx hp)]
  · rw [if_neg hp, if_neg hp]
theorem SI.step {f : Nat → Int} {b : Nat} {st : St} {l : List Nat} (h : SI f b st l) (x : Int) : SI f b (mvw f st x) (enc l x) := by
  by_cases hx : PlOk x ∧ plN x ∉ l
  · have h0 : st.mv (plN x) = 0 := by rw [h.mv, if_neg hx.2]
    refine ⟨enc_nodup h.nd x, ?_, ?_⟩
    · rw [mvw_new ⟨hx.1, h0⟩, enc_new hx, szs_append, szs_cons, szs_nil]
      show st.top + _ + 1 = _
      rw [h.top]; omega
    · intro p
      rw [mvw_new ⟨hx.1, h0⟩, enc_new hx]
      show upd st.mv (plN x) (1024 + 4 * st.top) p = _
      unfold upd
      by_cases e : p = plN x
      · subst e
        rw [if_pos rfl, if_pos (by simp), posL_new hx.2, h.top]
      · rw [if_neg e, h.mv p]
        by_cases hp : p ∈ l
        · rw [if_pos hp, if_pos (by simp [hp]), posL_append hp]
        · rw [if_neg hp, if_neg (by simp [hp, e])]
  · have h0 : ¬ (PlOk x ∧ st.mv (plN x) = 0) := by
      rintro ⟨h1, h2⟩
      have h3 : plN x ∈ l := Classical.byContradiction fun h3 => hx ⟨h1, h3⟩
      rw [h.mv, if_pos h3] at h2
      omega
    rw [mvw_same h0, show enc l x = l from if_neg hx]
    exact h

def raw (f : Nat → Int) (p : Nat) : List Int := f p :: oth f p
def img (f : Nat → Int) (b : Nat) (L : List Nat) (p : Nat) : List Int := f p :: (oth f p).map (tr f b L)
theorem raw_length (f : Nat → Int) (p : Nat) : (raw f p).length = ofS (f p) + 1 := by simp [raw, oth_length]
theorem img_length (f : Nat → Int) (b : Nat) (L : List Nat) (p : Nat) : (img f b L p).length = ofS (f p) + 1 := by simp [img, oth_length]
theorem raws_length (f : Nat → Int) : ∀ l : List Nat, (l.flatMap (raw f)).length = szs f l
  | [] => rfl
  | p :: l => by rw [List.flatMap_cons, List.length_append, raw_length, raws_length f l, szs_cons]
theorem imgs_length (f : Nat → Int) (b : Nat) (L : List Nat) : ∀ l : List Nat, (l.flatMap (img f b L)).length = szs f l
  | [] => rfl
  | p :: l => by rw [List.flatMap_cons, List.length_append, img_length, imgs_length f b L l, szs_cons]
/-- What stands from a place on. -/
def At (to : Nat → Int) (a : Nat) (xs : List Int) : Prop := ∀ k (h : k < xs.length), to (a + k) = xs[k]
theorem At.nil (to : Nat → Int) (a : Nat) : At to a [] := fun k h => absurd h (by simp)
theorem At.congr {to to' : Nat → Int} {a : Nat} {xs : List Int} (h : At to a xs) (hc : ∀ i, a ≤ i → i < a + xs.length → to' i = to i) : At to' a xs := fun k hk => by
  rw [hc (a + k) (by omega) (by omega)]; exact h k hk
theorem At.append {to : Nat → Int} {a : Nat} {xs ys : List Int} (h1 : At to a xs) (h2 : At to (a + xs.length) ys) : At to a (xs ++ ys) := by
  intro k hk
  by_cases hx : k < xs.length
  · rw [List.getElem_append_left hx]; exact h1 k hx
  · rw [List.getElem_append_right (by omega)]
    have := h2 (k - xs.length) (by simp only [List.length_append] at hk; omega)
    rw [← this]; congr 1; omega
theorem At.left {to : Nat → Int} {a : Nat} {xs ys : List Int} (h : At to a (xs ++ ys)) : At to a xs := by
  intro k hk
  have := h k (by simp only [List.length_append]; omega)
  rwa [List.getElem_append_left hk] at this
theorem At.right {to : Nat → Int} {a : Nat} {xs ys : List Int} (h : At to a (xs ++ ys)) : At to (a + xs.length) ys := by
  intro k hk
  have := h (xs.length + k) (by simp only [List.length_append]; omega)
  rw [List.getElem_append_right (by omega)] at this
  rw [show a + xs.length + k = a + (xs.length + k) from by omega, this]
  congr 1; omega
theorem At.cons {to : Nat → Int} {a : Nat} {x : Int} {xs : List Int} (h1 : to a = x) (h2 : At to (a + 1) xs) : At to a (x :: xs) := by
  intro k hk
  cases k with
  | zero => exact h1
  | succ k =>
    have := h2 k (by simpa using hk)
    rw [show a + (k + 1) = a + 1 + k from by omega, this]; rfl
theorem At.head {to : Nat → Int} {a : Nat} {x : Int} {xs : List Int} (h : At to a (x :: xs)) : to a = x := h 0 (by simp)
theorem At.tail {to : Nat → Int} {a : Nat} {x : Int} {xs : List Int} (h : At to a (x :: xs)) : At to (a + 1) xs := by
  intro k hk
  have := h (k + 1) (by simpa using hk)
  rw [show a + 1 + k = a + (k + 1) from by omega, this]; rfl

theorem raw_get {f : Nat → Int} {p k : Nat} (h : k < (raw f p).length) : (raw f p)[k] = f (p + k) := by
  cases k with
  | zero => rfl
  | succ k =>
    show (oth f p)[k]'(by simpa [raw] using h) = _
    simp only [oth, List.getElem_map, List.getElem_range]
    congr 1; omega
theorem mvw_to {f : Nat → Int} {b : Nat} {st : St} {l : List Nat} (h : SI f b st l) (x : Int) :
    ∃ r, enc l x = l ++ r ∧ At (mvw f st x).to st.top (r.flatMap (raw f)) ∧ (∀ i, i < st.top → (mvw f st x).to i = st.to i) ∧ (∀ i, (mvw f st x).top ≤ i → (mvw f st x).to i = st.to i) := by
  by_cases hx : PlOk x ∧ plN x ∉ l
  · have h0 : st.mv (plN x) = 0 := by rw [h.mv, if_neg hx.2]
    rw [mvw_new ⟨hx.1, h0⟩]
    refine ⟨[plN x], enc_new hx, ?_, fun i hi => if_neg (by omega), fun i hi => if_neg (by have : st.top + ofS (f (plN x)) + 1 ≤ i := hi; omega)⟩
    intro k hk
    have e : [plN x].flatMap (raw f) = raw f (plN x) := by simp
    simp only [e] at hk ⊢
    rw [raw_get hk]
    rw [raw_length] at hk
    show (if _ then _ else _) = _
    rw [if_pos (by omega)]
    congr 1; omega
  · have h0 : ¬ (PlOk x ∧ st.mv (plN x) = 0) := by
      rintro ⟨h1, h2⟩
      have h3 : plN x ∈ l := Classical.byContradiction fun h3 => hx ⟨h1, h3⟩
      rw [h.mv, if_pos h3] at h2
      omega
    rw [mvw_same h0]
    exact ⟨[], by rw [List.append_nil]; exact if_neg hx, At.nil _ _, fun _ _ => rfl, fun _ _ => rfl⟩

/-- The words of one object. -/
theorem scanO_spec {f : Nat → Int} {b : Nat} : ∀ (ws : List Int) (st : St) (l : List Nat) (a : Nat) (rest : List Int), SI f b st l → At st.to a (ws ++ rest) → a + (ws ++ rest).length = st.top →
    ∃ r, encs l ws = l ++ r ∧ SI f b (scanO f ws.length st a) (encs l ws) ∧ At (scanO f ws.length st a).to a (ws.map (tr f b (encs l ws)) ++ (rest ++ r.flatMap (raw f))) ∧
      (∀ i, i < a → (scanO f ws.length st a).to i = st.to i) ∧ (∀ i, (scanO f ws.length st a).top ≤ i → (scanO f ws.length st a).to i = st.to i)
  | [], st, l, a, rest, hs, ha, _ => ⟨[], by rw [encs_nil, List.append_nil], hs, by simpa [scanO] using ha, fun _ _ => rfl, fun _ _ => rfl⟩
  | x :: xs, st, l, a, rest, hs, ha, hl => by
    have hx : st.to a = x := ha.head
    have hlen : a + 1 + (xs ++ rest).length = st.top := by simp only [List.cons_append, List.length_cons] at hl; omega
    obtain ⟨r1, e1, t1, t2, t3⟩ := mvw_to hs x
    have hs1 := hs.step x
    have hto : ∀ i, i ≠ a → (mvo f st a).to i = (mvw f st x).to i := fun i hi => by
      show upd (mvw f st (st.to a)).to a _ i = _
      rw [hx]; exact if_neg hi
    have hs2 : SI f b (mvo f st a) (enc l x) := by
      refine ⟨hs1.nd, ?_, ?_⟩
      · show (mvw f st (st.to a)).top = _
        rw [hx]; exact hs1.top
      · show ∀ p, (mvw f st (st.to a)).mv p = _
        rw [hx]; exact hs1.mv
    have htop : (mvo f st a).top = st.top + (r1.flatMap (raw f)).length := by
      rw [hs2.top, hs.top, e1, szs_append, raws_length]; omega
    have hA : At (mvo f st a).to (a + 1) (xs ++ (rest ++ r1.flatMap (raw f))) := by
      rw [← List.append_assoc]
      refine At.append (At.congr ha.tail fun i h1 h2 => ?_) ?_
      · rw [hto i (by omega)]
        exact t2 i (by omega)
      · rw [hlen]
        exact At.congr t1 fun i h1 h2 => hto i (by omega)
    obtain ⟨r2, e2, s2, a2, b2, c2⟩ := scanO_spec xs (mvo f st a) (enc l x) (a + 1) (rest ++ r1.flatMap (raw f)) hs2 hA (by
      rw [← List.append_assoc, List.length_append, htop]; omega)
    refine ⟨r1 ++ r2, by rw [encs_cons, e2, e1, List.append_assoc], s2, ?_, ?_, ?_⟩
    · rw [encs_cons, List.map_cons, List.cons_append]
      refine At.cons ?_ ?_
      · show (scanO f xs.length (mvo f st a) (a + 1)).to a = _
        rw [b2 a (by omega), e2, tr_append (fun h => enc_in h), ← hs1.val (fun h => enc_in h)]
        show upd (mvw f st (st.to a)).to a (mvv (mvw f st (st.to a)) (st.to a)) a = _
        rw [hx]; exact if_pos rfl
      · rw [List.flatMap_append, ← List.append_assoc rest]
        exact a2
    · intro i hi
      show (scanO f xs.length (mvo f st a) (a + 1)).to i = _
      rw [b2 i (by omega), hto i (by omega)]
      exact t2 i (by omega)
    · intro i hi
      have hi' : (scanO f xs.length (mvo f st a) (a + 1)).top ≤ i := hi
      have hge : (mvo f st a).top ≤ i := by
        have e3 := s2.top
        rw [e2, szs_append] at e3
        have := hs2.top
        omega
      show (scanO f xs.length (mvo f st a) (a + 1)).to i = _
      rw [c2 i hi', hto i (by omega)]
      refine t3 i ?_
      have := hs1.top
      have := hs2.top
      omega

/-- The objects in the order in which they are come to: from a list on, the first i of which are gone through. -/
def bfsO (f : Nat → Int) : Nat → List Nat → Nat → Option (List Nat)
  | 0, l, i => if i < l.length then none else some l
  | g + 1, l, i => if i < l.length then bfsO f g (encs l (oth f (l.getD i 0))) (i + 1) else some l
def Bfs (f : Nat → Int) (l : List Nat) (i : Nat) (L : List Nat) : Prop := ∃ g, bfsO f g l i = some L
theorem Bfs.done {f : Nat → Int} {l : List Nat} {i : Nat} (h : ¬ i < l.length) : Bfs f l i l := ⟨0, if_neg h⟩
theorem Bfs.step {f : Nat → Int} {l L : List Nat} {i : Nat} (h : i < l.length) (k : Bfs f (encs l (oth f (l.getD i 0))) (i + 1) L) : Bfs f l i L := by
  obtain ⟨g, hg⟩ := k
  exact ⟨g + 1, by rw [bfsO, if_pos h]; exact hg⟩
theorem bfsO_ext {f : Nat → Int} : ∀ (g : Nat) {l L : List Nat} {i : Nat}, bfsO f g l i = some L → ∃ r, L = l ++ r
  | 0, l, L, i, h => by
    unfold bfsO at h
    split at h
    · cases h
    · injection h with h; exact ⟨[], by rw [List.append_nil, h]⟩
  | g + 1, l, L, i, h => by
    unfold bfsO at h
    split at h
    · obtain ⟨r, hr⟩ := bfsO_ext g h
      obtain ⟨r2, h2⟩ := encs_ext (oth f (l.getD i 0)) l
      exact ⟨r2 ++ r, by rw [hr, h2, List.append_assoc]⟩
    · injection h with h; exact ⟨[], by rw [List.append_nil, h]⟩
theorem Bfs.ext {f : Nat → Int} {l L : List Nat} {i : Nat} (h : Bfs f l i L) : ∃ r, L = l ++ r := bfsO_ext _ h.choose_spec
theorem bfsO_det {f : Nat → Int} : ∀ (g g' : Nat) {l L L' : List Nat} {i : Nat}, bfsO f g l i = some L → bfsO f g' l i = some L' → L = L'
  | 0, 0, l, L, L', i, h, k => by rw [h] at k; injection k
  | 0, g' + 1, l, L, L', i, h, k => by
    unfold bfsO at h k
    split at h
    · cases h
    · rw [if_neg (by assumption)] at k; rw [h] at k; injection k
  | g + 1, 0, l, L, L', i, h, k => by
    unfold bfsO at h k
    split at k
    · cases k
    · rw [if_neg (by assumption)] at h; rw [h] at k; injection k
  | g + 1, g' + 1, l, L, L', i, h, k => by
    unfold bfsO at h k
    by_cases hi : i < l.length
    · rw [if_pos hi] at h k; exact bfsO_det g g' h k
    · rw [if_neg hi] at h k; rw [h] at k; injection k
theorem Bfs.det {f : Nat → Int} {l L L' : List Nat} {i : Nat} (h : Bfs f l i L) (k : Bfs f l i L') : L = L' := bfsO_det _ _ h.choose_spec k.choose_spec

theorem drop_getD {l : List Nat} {i : Nat} (h : i < l.length) : l.drop i = l.getD i 0 :: l.drop (i + 1) := by
  rw [List.drop_eq_getElem_cons h]; simp [List.getD, h]
theorem take_succ' {l : List Nat} {i : Nat} (h : i < l.length) : l.take (i + 1) = l.take i ++ [l.getD i 0] := by
  rw [List.take_add_one]; simp [List.getD, h]
theorem scan_spec {f : Nat → Int} {b lim : Nat} {sts : List Nat} (hw : ∀ p ∈ sts, ∀ x ∈ oth f p, PlOk x → plN x ∈ sts) (hlim : ∀ l : List Nat, l.Nodup → (∀ p ∈ l, p ∈ sts) → b + szs f l ≤ lim) :
    ∀ (g : Nat) (st : St) (l : List Nat) (i a : Nat), SI f b st l → (∀ p ∈ l, p ∈ sts) → a = b + szs f (l.take i) → i ≤ l.length → At st.to a ((l.drop i).flatMap (raw f)) → lim ≤ a + g →
      ∃ L, Bfs f l i L ∧ SI f b (scan f g st a) L ∧ (∀ p ∈ L, p ∈ sts) ∧ At (scan f g st a).to a ((L.drop i).flatMap (img f b L)) ∧ (∀ j, j < a → (scan f g st a).to j = st.to j) ∧ (∀ j, (scan f g st a).top ≤ j → (scan f g st a).to j = st.to j) := by
  intro g
  induction g with
  | zero =>
    intro st l i a hs hsub ha hi hA hg
    have h1 := hlim l hs.nd hsub
    have hd : ¬ i < l.length := by
      intro h
      have : szs f l = szs f (l.take i) + szs f (l.drop i) := by rw [← szs_append, List.take_append_drop]
      rw [drop_getD h, szs_cons] at this
      omega
    obtain rfl : i = l.length := by omega
    refine ⟨l, Bfs.done hd, hs, hsub, ?_, fun _ _ => rfl, fun _ _ => rfl⟩
    rw [List.drop_length]
    exact At.nil _ _
  | succ g ih =>
    intro st l i a hs hsub ha hi hA hg
    have hsum : szs f l = szs f (l.take i) + szs f (l.drop i) := by rw [← szs_append, List.take_append_drop]
    by_cases h : i < l.length
    · rw [drop_getD h, List.flatMap_cons] at hA
      rw [drop_getD h, szs_cons] at hsum
      have hp : l.getD i 0 ∈ sts := hsub _ (by simp [List.getD, h])
      obtain ⟨p, hpe⟩ : ∃ p, p = l.getD i 0 := ⟨_, rfl⟩
      have htop := hs.top
      have hat : a < st.top := by rw [ha, htop]; omega
      rw [scan_step hat]
      rw [← hpe] at hA hp hsum
      have h0 : st.to a = f p := hA.left.head
      rw [h0]
      have hol := oth_length f p
      have hrl := raws_length f (l.drop (i + 1))
      obtain ⟨r, e1, s1, a1, b1, c1⟩ := scanO_spec (oth f p) st l (a + 1) ((l.drop (i + 1)).flatMap (raw f)) hs (show At st.to a (f p :: (oth f p ++ _)) from hA).tail (by
        rw [List.length_append, hol, hrl, htop, hsum, ha]; omega)
      rw [hol] at s1 a1 b1 c1
      have hel : i + 1 ≤ (encs l (oth f p)).length := by rw [e1, List.length_append]; omega
      have het : (encs l (oth f p)).take (i + 1) = l.take (i + 1) := by rw [e1, List.take_append_of_le_length (by omega)]
      obtain ⟨L, k1, k2, k3, k4, k5, k6⟩ := ih (scanO f (ofS (f p)) st (a + 1)) (encs l (oth f p)) (i + 1) (a + ofS (f p) + 1) s1 (encs_sub _ hsub (hw p hp)) (by
          rw [het, take_succ' h, ← hpe, szs_append, szs_cons, szs_nil, ha]; omega) hel (by
          rw [e1, List.drop_append_of_le_length (by omega), List.flatMap_append]
          have := a1.right
          rw [List.length_map, hol] at this
          rwa [show a + 1 + ofS (f p) = a + ofS (f p) + 1 from by omega] at this) (by omega)
      refine ⟨L, Bfs.step h (by rw [← hpe]; exact k1), k2, k3, ?_, ?_, ?_⟩
      · obtain ⟨r2, e2⟩ := k1.ext
        have hLi : L.getD i 0 = p := by
          rw [hpe, e2, e1, List.append_assoc]
          simp [List.getD, List.getElem?_append, h]
        have hLl : i < L.length := by rw [e2, List.length_append]; omega
        rw [drop_getD hLl, hLi, List.flatMap_cons]
        refine At.append (At.cons ?_ ?_) ?_
        · rw [k5 a (by omega), b1 a (by omega), h0]
        · have h8 : (oth f p).map (tr f b L) = (oth f p).map (tr f b (encs l (oth f p))) := by
            apply List.map_congr_left
            intro x hx
            rw [e2]
            exact tr_append fun hpl => encs_in hx hpl
          rw [h8]
          exact At.congr a1.left fun j h1 h2 => k5 j (by rw [List.length_map, hol] at h2; omega)
        · rw [img_length]
          exact k4
      · intro j hj
        rw [k5 j (by omega), b1 j (by omega)]
      · intro j hj
        rw [k6 j hj]
        refine c1 j ?_
        have h7 := k2.top
        have h8 := s1.top
        obtain ⟨r2, e2⟩ := k1.ext
        rw [e2, szs_append] at h7
        omega
    · obtain rfl : i = l.length := by omega
      rw [List.drop_length, szs_nil] at hsum
      have htop := hs.top
      rw [scan_done (by rw [ha, htop]; omega)]
      refine ⟨l, Bfs.done h, hs, hsub, ?_, fun _ _ => rfl, fun _ _ => rfl⟩
      rw [List.drop_length]
      exact At.nil _ _
end Go.Proofs.Ytikdflppccbdaaa
