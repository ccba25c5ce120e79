/-
  PLAIN: a collection: objects are copied behind one another, then gone through.
-/
import Derived.Test.YtikdflppccbdaaaHGoodP
namespace Go.Proofs.Ytikdflppccbdaaa
open Go.RowKit

/-- The state of a collection: the new words, their top, and where objects were moved to (nought: they were not). -/
structure St where
  to : Nat → Int
  top : Nat
  mv : Nat → Int
def cpy (to f : Nat → Int) (k p len : Nat) : Nat → Int := fun i => if k ≤ i ∧ i < k + len then f (p + (i - k)) else to i
def upd (m : Nat → Int) (p : Nat) (v : Int) : Nat → Int := fun i => if i = p then v else m i
/-- One word: the object that it points to is moved, if it was not. -/
def mvw (f : Nat → Int) (st : St) (x : Int) : St :=
  if PlOk x ∧ st.mv (plN x) = 0 then ⟨cpy st.to f st.top (plN x) (ofS (f (plN x)) + 1), st.top + ofS (f (plN x)) + 1, upd st.mv (plN x) (1024 + 4 * st.top)⟩ else st
/-- The word behind that. -/
def mvv (st : St) (x : Int) : Int := if PlOk x then st.mv (plN x) else x
/-- One word of an object that was moved. -/
def mvo (f : Nat → Int) (st : St) (i : Nat) : St := ⟨upd (mvw f st (st.to i)).to i (mvv (mvw f st (st.to i)) (st.to i)), (mvw f st (st.to i)).top, (mvw f st (st.to i)).mv⟩
def scanO (f : Nat → Int) : Nat → St → Nat → St
  | 0, st, _ => st
  | k + 1, st, i => scanO f k (mvo f st i) (i + 1)
def scan (f : Nat → Int) : Nat → St → Nat → St
  | 0, st, _ => st
  | g + 1, st, i => if i < st.top then scan f g (scanO f (ofS (st.to i)) st (i + 1)) (i + ofS (st.to i) + 1) else st
def stR (f : Nat → Int) (st0 : St) (g : Nat → Int) : Nat → St
  | 0 => st0
  | k + 1 => mvw f (stR f st0 g k) (g k)
def outR (f : Nat → Int) (st0 : St) (g : Nat → Int) : Nat → List Int
  | 0 => []
  | k + 1 => outR f st0 g k ++ [mvv (stR f st0 g (k + 1)) (g k)]

theorem outR_length (f : Nat → Int) (st0 : St) (g : Nat → Int) : ∀ k, (outR f st0 g k).length = k
  | 0 => rfl
  | k + 1 => by rw [outR, List.length_append, outR_length f st0 g k]; rfl

def szs (f : Nat → Int) (l : List Nat) : Nat := (l.map fun p => ofS (f p) + 1).sum
theorem szs_nil (f : Nat → Int) : szs f [] = 0 := rfl
theorem szs_cons (f : Nat → Int) (p : Nat) (l : List Nat) : szs f (p :: l) = ofS (f p) + 1 + szs f l := by simp [szs]
theorem szs_append (f : Nat → Int) (l r : List Nat) : szs f (l ++ r) = szs f l + szs f r := by simp [szs]
theorem szs_le (f : Nat → Int) : ∀ (l s : List Nat), l.Nodup → (∀ p ∈ l, p ∈ s) → szs f l ≤ szs f s
  | [], s, _, _ => by rw [szs_nil]; exact Nat.zero_le _
  | p :: r, s, hn, hs => by
    obtain ⟨s1, s2, rfl⟩ := List.append_of_mem (hs p (by simp))
    have hp : p ∉ r := (List.nodup_cons.1 hn).1
    have ih := szs_le f r (s1 ++ s2) (List.nodup_cons.1 hn).2 (fun q hq => by
      have h1 := hs q (by simp [hq])
      have h2 : q ≠ p := fun e => hp (e ▸ hq)
      simp only [List.mem_append, List.mem_cons] at h1 ⊢
      rcases h1 with h1 | h1 | h1
      · exact .inl h1
      · exact absurd h1 h2
      · exact .inr h1)
    rw [szs_append] at ih
    rw [szs_append, szs_cons, szs_cons]
    omega
theorem szs_stl {f : Nat → Int} {top : Nat} : ∀ (g k : Nat), top - k ≤ g → k ≤ top → ∀ s, stl f top k = some s → k + szs f s = top
  | 0, k, hg, hk, s, h => by
    have h0 : ¬ k < top := by omega
    rw [stl_end h0] at h
    injection h with h
    subst h
    rw [szs_nil]; omega
  | g + 1, k, hg, hk, s, h => by
    by_cases h0 : k < top
    · by_cases h1 : OfOk (f k) ∧ k + ofS (f k) < top
      · rw [stl_step h0 h1] at h
        obtain ⟨r, hr, rfl⟩ := Option.map_eq_some_iff.1 h
        have := szs_stl g (k + ofS (f k) + 1) (by omega) (by omega) r hr
        rw [szs_cons]; omega
      · rw [stl_bad h0 h1] at h; cases h
    · rw [stl_end h0] at h
      injection h with h
      subst h
      rw [szs_nil]; omega
theorem stl_ok {f : Nat → Int} {top : Nat} : ∀ (g k : Nat), top - k ≤ g → ∀ s, stl f top k = some s → ∀ o ∈ s, OfOk (f o)
  | 0, k, hg, s, h => by
    have h0 : ¬ k < top := by omega
    rw [stl_end h0] at h
    injection h with h
    subst h
    simp
  | g + 1, k, hg, s, h => by
    by_cases h0 : k < top
    · by_cases h1 : OfOk (f k) ∧ k + ofS (f k) < top
      · rw [stl_step h0 h1] at h
        obtain ⟨r, hr, rfl⟩ := Option.map_eq_some_iff.1 h
        intro o ho
        rcases List.mem_cons.1 ho with rfl | ho
        · exact h1.1
        · exact stl_ok g _ (by omega) r hr o ho
      · rw [stl_bad h0 h1] at h; cases h
    · rw [stl_end h0] at h
      injection h with h
      subst h
      simp

/-- What a heap that is good gives a collection. -/
structure HG (f : Nat → Int) (n : Nat) (sts : List Nat) (b lim : Nat) : Prop where
  ok : ∀ o ∈ sts, OfOk (f o)
  body : ∀ o ∈ sts, ∀ i, o < i → i ≤ o + ofS (f o) → wordB n sts (f i) = true
  fit : ∀ o ∈ sts, o + ofS (f o) < n
  size : b + szs f sts ≤ lim
  lim : lim ≤ n

structure MI (f : Nat → Int) (sts : List Nat) (b : Nat) (st : St) (mvl : List Nat) : Prop where
  nd : mvl.Nodup
  sub : ∀ p ∈ mvl, p ∈ sts
  top : st.top = b + szs f mvl
  mv : ∀ p, st.mv p ≠ 0 ↔ p ∈ mvl
  val : ∀ p, 0 ≤ st.mv p ∧ st.mv p ≤ 1024 + 4 * st.top
theorem MI.start (f : Nat → Int) (sts : List Nat) (b : Nat) : MI f sts b ⟨fun _ => 0, b, fun _ => 0⟩ [] := ⟨by simp, by simp, by simp [szs_nil], by simp, fun _ => ⟨by simp, by simp; omega⟩⟩
theorem MI.le {f : Nat → Int} {n : Nat} {sts : List Nat} {b lim : Nat} {st : St} {mvl : List Nat} (h : MI f sts b st mvl) (hg : HG f n sts b lim) : b ≤ st.top ∧ st.top ≤ lim := by
  have := szs_le f mvl sts h.nd h.sub
  have := hg.size
  have := h.top
  omega
theorem MI.room {f : Nat → Int} {n : Nat} {sts : List Nat} {b lim : Nat} {st : St} {mvl : List Nat} (h : MI f sts b st mvl) (hg : HG f n sts b lim) {p : Nat} (hp : p ∈ sts) (h0 : st.mv p = 0) : st.top + ofS (f p) + 1 ≤ lim := by
  have hn : p ∉ mvl := fun hm => (h.mv p).2 hm h0
  have := szs_le f (p :: mvl) sts (List.nodup_cons.2 ⟨hn, h.nd⟩) (by intro q hq; rcases List.mem_cons.1 hq with rfl | hq; exact hp; exact h.sub q hq)
  rw [szs_cons] at this
  have := hg.size
  have := h.top
  omega
theorem wordB_pl {n : Nat} {sts : List Nat} {x : Int} (h : wordB n sts x = true) : ¬ PlOk x ∧ IntOk x ∨ PlOk x ∧ ¬ IntOk x ∧ plN x < n ∧ plN x ∈ sts := by
  unfold wordB at h
  by_cases h1 : IntOk x
  · left
    exact ⟨fun h2 => by unfold IntOk at h1; unfold PlOk at h2; omega, h1⟩
  · right
    simp [h1] at h
    exact ⟨h.1, h1, h.2.1, h.2.2⟩
theorem mvw_same {f : Nat → Int} {st : St} {x : Int} (h : ¬ (PlOk x ∧ st.mv (plN x) = 0)) : mvw f st x = st := if_neg h
theorem mvw_new {f : Nat → Int} {st : St} {x : Int} (h : PlOk x ∧ st.mv (plN x) = 0) : mvw f st x = ⟨cpy st.to f st.top (plN x) (ofS (f (plN x)) + 1), st.top + ofS (f (plN x)) + 1, upd st.mv (plN x) (1024 + 4 * st.top)⟩ := if_pos h

/-- The objects that were moved and not gone through: one behind the other. -/
def Seg (f to : Nat → Int) : List Nat → Nat → Nat → Prop
  | [], a, t => a = t
  | p :: ps, a, t => (∀ i, i ≤ ofS (f p) → to (a + i) = f (p + i)) ∧ Seg f to ps (a + ofS (f p) + 1) t
theorem Seg.le {f to : Nat → Int} : ∀ {q : List Nat} {a t : Nat}, Seg f to q a t → a ≤ t
  | [], a, t, h => by unfold Seg at h; omega
  | p :: ps, a, t, h => by have := Seg.le h.2; omega
theorem Seg.congr {f to to' : Nat → Int} : ∀ {q : List Nat} {a t : Nat}, Seg f to q a t → (∀ i, a ≤ i → i < t → to' i = to i) → Seg f to' q a t
  | [], a, t, h, _ => h
  | p :: ps, a, t, h, hc => by
    have hl := Seg.le h.2
    refine ⟨fun i hi => ?_, Seg.congr h.2 (fun i h1 h2 => hc i (by omega) h2)⟩
    rw [hc (a + i) (by omega) (by omega)]
    exact h.1 i hi
theorem Seg.snoc {f to : Nat → Int} {p : Nat} : ∀ {q : List Nat} {a t : Nat}, Seg f to q a t → (∀ i, i ≤ ofS (f p) → to (t + i) = f (p + i)) → Seg f to (q ++ [p]) a (t + ofS (f p) + 1)
  | [], a, t, h, hp => by
    unfold Seg at h
    subst h
    exact ⟨hp, rfl⟩
  | r :: ps, a, t, h, hp => ⟨h.1, Seg.snoc h.2 hp⟩

/-- One word that may be, in a state that may be. -/
theorem mvw_step {f : Nat → Int} {n : Nat} {sts : List Nat} {b lim : Nat} {st : St} {mvl : List Nat} (h : MI f sts b st mvl) (_hg : HG f n sts b lim) {x : Int} (hx : wordB n sts x = true) {q : List Nat} {a : Nat} (hs : Seg f st.to q a st.top) (hq : ∀ p ∈ q, p ∈ sts) :
    ∃ mvl' q', MI f sts b (mvw f st x) mvl' ∧ Seg f (mvw f st x).to q' a (mvw f st x).top ∧ (∀ p ∈ q', p ∈ sts) ∧ st.top ≤ (mvw f st x).top ∧ (∀ i, i < st.top → (mvw f st x).to i = st.to i) ∧ (PlOk x → (mvw f st x).mv (plN x) ≠ 0) := by
  rcases wordB_pl hx with ⟨h1, _⟩ | ⟨h1, _, h3, h4⟩
  · rw [mvw_same (fun h => h1 h.1)]
    exact ⟨mvl, q, h, hs, hq, Nat.le_refl _, fun _ _ => rfl, fun h => absurd h h1⟩
  · by_cases h0 : st.mv (plN x) = 0
    · rw [mvw_new ⟨h1, h0⟩]
      have hn : plN x ∉ mvl := fun hm => (h.mv _).2 hm h0
      have hc : ∀ i, i < st.top → cpy st.to f st.top (plN x) (ofS (f (plN x)) + 1) i = st.to i := fun i hi => if_neg (by omega)
      refine ⟨mvl ++ [plN x], q ++ [plN x], ⟨?_, ?_, ?_, ?_, ?_⟩, ?_, ?_, by show st.top ≤ st.top + _ + 1; omega, hc, ?_⟩
      · rw [List.nodup_append]
        refine ⟨h.nd, by simp, ?_⟩
        intro a ha c hc e
        obtain rfl : c = plN x := by simpa using hc
        exact hn (e ▸ ha)
      · intro p hp
        rcases List.mem_append.1 hp with hp | hp
        · exact h.sub p hp
        · obtain rfl : p = plN x := by simpa using hp
          exact h4
      · rw [szs_append, szs_cons, szs_nil]
        show st.top + _ + 1 = _
        rw [h.top]; omega
      · intro p
        show upd st.mv (plN x) (1024 + 4 * st.top) p ≠ 0 ↔ _
        unfold upd
        by_cases e : p = plN x
        · rw [if_pos e]; subst e
          simp; omega
        · rw [if_neg e, h.mv p]
          simp [e]
      · intro p
        show 0 ≤ upd st.mv (plN x) (1024 + 4 * st.top) p ∧ upd st.mv (plN x) (1024 + 4 * st.top) p ≤ 1024 + 4 * ((st.top + ofS (f (plN x)) + 1 : Nat) : Int)
        unfold upd
        have := h.val p
        split <;> omega
      · refine (Seg.congr hs (fun i h1 h2 => hc i h2)).snoc ?_
        intro i hi
        show (if _ then _ else _) = _
        rw [if_pos (by omega)]
        congr 1; omega
      · intro p hp
        rcases List.mem_append.1 hp with hp | hp
        · exact hq p hp
        · obtain rfl : p = plN x := by simpa using hp
          exact h4
      · intro _
        show upd st.mv (plN x) (1024 + 4 * st.top) (plN x) ≠ 0
        unfold upd
        rw [if_pos rfl]; omega
    · rw [mvw_same (fun h => h0 h.2)]
      exact ⟨mvl, q, h, hs, hq, Nat.le_refl _, fun _ _ => rfl, fun _ => h0⟩

/-- In the midst of an object: so many words from i on. -/
def OI (f : Nat → Int) (n : Nat) (sts : List Nat) (b : Nat) (cnt i : Nat) (st : St) : Prop :=
  ∃ mvl q, MI f sts b st mvl ∧ (∀ j, j < cnt → wordB n sts (st.to (i + j)) = true) ∧ Seg f st.to q (i + cnt) st.top ∧ (∀ p ∈ q, p ∈ sts)
/-- Between two objects. -/
def LI (f : Nat → Int) (sts : List Nat) (b : Nat) (i : Nat) (st : St) : Prop := ∃ mvl q, MI f sts b st mvl ∧ Seg f st.to q i st.top ∧ (∀ p ∈ q, p ∈ sts)
theorem OI.done {f : Nat → Int} {n : Nat} {sts : List Nat} {b i : Nat} {st : St} (h : OI f n sts b 0 i st) : LI f sts b i st := by
  obtain ⟨mvl, q, h1, _, h3, h4⟩ := h
  exact ⟨mvl, q, h1, h3, h4⟩
theorem LI.begin {f : Nat → Int} {n : Nat} {sts : List Nat} {b lim i : Nat} {st : St} (h : LI f sts b i st) (hg : HG f n sts b lim) (hi : i < st.top) : OfOk (st.to i) ∧ i + ofS (st.to i) < st.top ∧ OI f n sts b (ofS (st.to i)) (i + 1) st := by
  obtain ⟨mvl, q, h1, h3, h4⟩ := h
  cases q with
  | nil => unfold Seg at h3; omega
  | cons p ps =>
    have e0 := h3.1 0 (Nat.zero_le _)
    simp only [Nat.add_zero] at e0
    have hl := Seg.le h3.2
    have hp := h4 p (by simp)
    rw [e0]
    refine ⟨hg.ok p hp, by omega, mvl, ps, h1, ?_, ?_, fun r hr => h4 r (by simp [hr])⟩
    · intro j hj
      rw [show i + 1 + j = i + (j + 1) from by omega, h3.1 (j + 1) (by omega)]
      exact hg.body p hp _ (by omega) (by omega)
    · rw [show i + 1 + ofS (f p) = i + ofS (f p) + 1 from by omega]
      exact h3.2
theorem OI.step {f : Nat → Int} {n : Nat} {sts : List Nat} {b lim cnt i : Nat} {st : St} (h : OI f n sts b (cnt + 1) i st) (hg : HG f n sts b lim) : OI f n sts b cnt (i + 1) (mvo f st i) := by
  obtain ⟨mvl, q, h1, h2, h3, h4⟩ := h
  have hl := Seg.le h3
  have hw : wordB n sts (st.to i) = true := h2 0 (by omega)
  obtain ⟨mvl', q', g1, g2, g3, g4, g5, _⟩ := mvw_step h1 hg hw h3 h4
  refine ⟨mvl', q', ⟨g1.nd, g1.sub, g1.top, g1.mv, g1.val⟩, ?_, ?_, g3⟩
  · intro j hj
    show wordB n sts (upd _ _ _ _) = true
    unfold upd
    rw [if_neg (by omega), g5 _ (by omega)]
    have := h2 (j + 1) (by omega)
    rwa [show i + (j + 1) = i + 1 + j from by omega] at this
  · show Seg f (upd _ _ _) q' (i + 1 + cnt) (mvw f st (st.to i)).top
    rw [show i + 1 + cnt = i + (cnt + 1) from by omega]
    refine Seg.congr g2 (fun k h5 _ => ?_)
    unfold upd
    rw [if_neg (by omega)]
theorem OI.word {f : Nat → Int} {n : Nat} {sts : List Nat} {b cnt i : Nat} {st : St} (h : OI f n sts b (cnt + 1) i st) : wordB n sts (st.to i) = true ∧ i < st.top ∧ ∃ mvl, MI f sts b st mvl := by
  obtain ⟨mvl, q, h1, h2, h3, h4⟩ := h
  have hl := Seg.le h3
  exact ⟨h2 0 (by omega), by omega, mvl, h1⟩
theorem LI.start (f : Nat → Int) (sts : List Nat) (b : Nat) : LI f sts b b ⟨fun _ => 0, b, fun _ => 0⟩ := ⟨[], [], MI.start f sts b, rfl, by simp⟩
theorem LI.root {f : Nat → Int} {n : Nat} {sts : List Nat} {b lim i : Nat} {st : St} (h : LI f sts b i st) (hg : HG f n sts b lim) {x : Int} (hx : wordB n sts x = true) : LI f sts b i (mvw f st x) := by
  obtain ⟨mvl, q, h1, h3, h4⟩ := h
  obtain ⟨mvl', q', g1, g2, g3, _⟩ := mvw_step h1 hg hx h3 h4
  exact ⟨mvl', q', g1, g2, g3⟩
theorem LI.mi {f : Nat → Int} {sts : List Nat} {b i : Nat} {st : St} (h : LI f sts b i st) : ∃ mvl, MI f sts b st mvl := by obtain ⟨mvl, _, h, _⟩ := h; exact ⟨mvl, h⟩

theorem mvv_wf {f : Nat → Int} {sts : List Nat} {b : Nat} {st : St} {mvl : List Nat} (h : MI f sts b st mvl) (ht : st.top ≤ 1000000) {x : Int} (hx : (Lit.int .i64 x).wf = true) : (Lit.int .i64 (mvv st x)).wf = true := by
  unfold mvv
  split
  · have := h.val (plN x)
    rw [← wrap_small (z := st.mv (plN x)) (by omega)]
    exact wrap64_wf _
  · exact hx
/-- A row by its places. -/
def tab (n : Nat) (f : Nat → Int) : List Int := (List.range n).map f
theorem tab_length (n : Nat) (f : Nat → Int) : (tab n f).length = n := by simp [tab]
theorem tab_get {n : Nat} {f : Nat → Int} {i : Nat} (h : i < n) : (tab n f).getD i 0 = f i := by simp [tab, List.getD, h]
theorem tab_set (n : Nat) (f : Nat → Int) (i : Nat) (v : Int) : (tab n f).set i v = tab n (upd f i v) := by
  apply List.ext_getElem
  · simp [tab]
  · intro j h1 h2
    simp only [tab, List.getElem_set, List.getElem_map, List.getElem_range, upd]
    by_cases e : i = j
    · subst e; simp
    · rw [if_neg e, if_neg (fun h => e h.symm)]
theorem tab_zero (n : Nat) : tab n (fun _ => 0) = List.replicate n 0 := by
  apply List.ext_getElem
  · simp [tab]
  · intro i h1 h2; simp [tab]
end Go.Proofs.Ytikdflppccbdaaa
