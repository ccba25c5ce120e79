/-
  PLAIN: two types that are made the same are the same; in either order; again, nothing is bound.
-/
import Derived.Test.YtnlifgcnmhakiaaDoorTIdemP
import Derived.Test.YtnlifgcnmhakiaaDoorTUnify
namespace Go.Proofs.YtnlifgcnmhakiaaDoor
open Go.RowKit

mutual
/-- A type, its variables replaced. -/
def apT (θ : Int → Ty) : Ty → Ty
  | .mk q s m us => if q = 2 then θ m else .mk q s m (apL θ us)
def apL (θ : Int → Ty) : List Ty → List Ty
  | [] => []
  | t :: ts => apT θ t :: apL θ ts
end
theorem apL_map (θ : Int → Ty) : ∀ ts : List Ty, apL θ ts = ts.map (apT θ)
  | [] => by rw [apL]; rfl
  | t :: ts => by rw [apL, apL_map θ ts]; rfl
theorem apT_var (θ : Int → Ty) (s : ByteArray) (n : Int) (us : List Ty) : apT θ (.mk 2 s n us) = θ n := by rw [apT, if_pos rfl]
theorem apT_node (θ : Int → Ty) {q : Int} (s : ByteArray) (n : Int) (us : List Ty) (h : ¬ q = 2) : apT θ (.mk q s n us) = .mk q s n (us.map (apT θ)) := by rw [apT, if_neg h, apL_map]
/-- What solves the bindings. -/
def Solv (σ : Sg) (θ : Int → Ty) : Prop := ∀ n u, 1 ≤ n → bnd σ n = some u → θ n = apT θ u
theorem ap_wrF {σ : Sg} {θ : Int → Ty} (hs : Solv σ θ) (hok : Ok σ) : ∀ {k : Nat} {t v : Ty}, goodT σ.length t = true → wrF σ k t = some v → apT θ t = apT θ v := by
  intro k
  induction k with
  | zero => intro t v _ h; cases h
  | succ k ih =>
    intro t v hg h
    obtain ⟨q, s, n, us⟩ := t
    by_cases hq : q = 2
    · subst hq
      cases hb : bnd σ n with
      | none => rw [wrF_free hb] at h; injection h with h; rw [h]
      | some w =>
        rw [wrF_bound hb] at h
        rw [apT_var, hs n w (good_var hg).2.2.1 hb]
        exact ih (hok.good _ _ (good_var hg).2.2.1 hb) h
    · rw [wrF_node hq] at h
      cases h2 : wrL (wrF σ k) us with
      | none => rw [h2] at h; cases h
      | some vs =>
        rw [h2] at h
        injection h with h
        subst h
        rw [apT_node _ _ _ _ hq, apT_node _ _ _ _ hq]
        have hgl := (goodT_iff.1 hg).2
        have key : ∀ (us vs : List Ty), goodL σ.length us = true → wrL (wrF σ k) us = some vs → us.map (apT θ) = vs.map (apT θ) := by
          intro us
          induction us with
          | nil => intro vs _ h; rw [wrL] at h; injection h with h; subst h; rfl
          | cons t ts ihl =>
            intro vs hg h
            obtain ⟨u, us', rfl, h3, h4⟩ := wrL_cons h
            rw [goodL, Bool.and_eq_true] at hg
            rw [List.map_cons, List.map_cons, ih hg.1 h3, ihl _ hg.2 h4]
        rw [key us vs hgl h2]
theorem ap_wr {σ : Sg} {θ : Int → Ty} (hs : Solv σ θ) (hok : Ok σ) {t : Ty} (hg : goodT σ.length t = true) : apT θ t = apT θ (wrT σ t) := by
  obtain ⟨k, hk⟩ := hok.wr_ hg
  exact ap_wrF hs hok hg hk
/-- A node, written out. -/
theorem wrT_node {σ : Sg} (hok : Ok σ) {q n : Int} {s : ByteArray} {us : List Ty} (hg : goodT σ.length (.mk q s n us) = true) (hq : ¬ q = 2) : wrT σ (.mk q s n us) = .mk q s n (us.map (wrT σ)) := by
  refine wr_eq ((Wr.node hq).2 ⟨_, rfl, ?_⟩)
  have key : ∀ us : List Ty, goodL σ.length us = true → WrL σ us (us.map (wrT σ)) := by
    intro us
    induction us with
    | nil => intro _; exact WrL.nil _
    | cons t ts ih => intro h; rw [goodL, Bool.and_eq_true] at h; exact WrL.cons (hok.wr_ h.1) (ih h.2)
  exact key us (goodT_iff.1 hg).2
theorem wrT_free {σ : Sg} {n : Int} {s : ByteArray} {us : List Ty} (h : bnd σ n = none) : wrT σ (.mk 2 s n us) = .mk 2 s n us := wr_eq (Wr.free h)
/-- The bindings, as what solves them. -/
noncomputable def wrS (σ : Sg) : Int → Ty := fun n => wrT σ (.mk 2 ⟨#[]⟩ n [])
theorem ap_wrS {σ : Sg} (hok : Ok σ) : ∀ (N : Nat) (t : Ty), SizeOf.sizeOf t ≤ N → goodT σ.length t = true → apT (wrS σ) t = wrT σ t := by
  intro N
  induction N with
  | zero => intro t ht; cases t; simp at ht
  | succ N ih =>
    intro t ht hg
    obtain ⟨q, s, n, us⟩ := t
    by_cases hq : q = 2
    · subst hq
      obtain ⟨rfl, rfl, _, _⟩ := good_var hg
      rw [apT_var]
      rfl
    · rw [apT_node _ _ _ _ hq, wrT_node hok hg hq]
      congr 1
      exact List.map_congr_left (fun t hm => ih t (by have := ty_lt (k := q) (n := n) (s := s) hm; omega) (goodL_mem (goodT_iff.1 hg).2 t hm))
theorem solv_wrS {σ : Sg} (hok : Ok σ) : Solv σ (wrS σ) := by
  intro n u hn hb
  rw [ap_wrS hok _ u (Nat.le_refl _) (hok.good n u hn hb)]
  exact wr_eq ((Wr.bound hb).2 (hok.wr_ (hok.good n u hn hb)))
/-- Later bindings keep what is the same. -/
def Ext (σ σ' : Sg) : Prop := ∀ t u, goodT σ.length t = true → goodT σ.length u = true → wrT σ t = wrT σ u → wrT σ' t = wrT σ' u
theorem Ext.refl (σ : Sg) : Ext σ σ := fun _ _ _ _ h => h
theorem Ext.trans {σ σ' σ'' : Sg} (hl : σ'.length = σ.length) (h : Ext σ σ') (k : Ext σ' σ'') : Ext σ σ'' := fun t u ht hu e => k t u (by rw [hl]; exact ht) (by rw [hl]; exact hu) (h t u ht hu e)
mutual
theorem subT_no {n : Int} {c : Ty} : ∀ (t : Ty), occT n t = false → subT n c t = t
  | .mk q s m us, h => by
    rw [occT] at h
    have h1 : ¬ (q = 2 ∧ m = n) := by intro e; simp [e] at h
    have h2 : occL n us = false := by simp at h; exact h.2
    rw [subT, if_neg h1, subL_no us h2]
theorem subL_no {n : Int} {c : Ty} : ∀ (ts : List Ty), occL n ts = false → subL n c ts = ts
  | [], _ => by rw [subL]
  | t :: ts, h => by
    rw [occL_cons] at h
    rw [subL, subT_no t h.1, subL_no ts h.2]
end
/-- What a bind does to what is written out. -/
theorem wrT_upd {σ : Sg} (hok : Ok σ) {n : Int} {b : Ty} (h0 : 1 ≤ n) (hl : n ≤ σ.length) (hn : bnd σ n = none) (hb : goodT σ.length b = true) (ho : occT n (wrT σ b) = false) {t : Ty} (ht : goodT σ.length t = true) : wrT (upd σ n b) t = subT n (wrT σ b) (wrT σ t) := by
  have hw := (hok.bind h0 hl hn hb (hok.wr_ hb) ho).2
  obtain ⟨k, hk⟩ := hok.wr_ ht
  exact wr_eq (Wr.upd h0 hl hn hok hw ht hk)
/-- What bind does, in plain words. -/
theorem bindF_cases {σ : Sg} {n : Int} {b : Ty} {l : Nat} : ((metT n (wrT σ b) 0).2 = 0 ∧ bindF σ n b l = (0, upd σ n b, l)) ∨ (¬ (metT n (wrT σ b) 0).2 = 0 ∧ bindF σ n b l = ((metT n (wrT σ b) 0).2, σ, l)) := by
  unfold bindF
  by_cases h : (metT n (wrT σ b) 0).2 = 0
  · left; exact ⟨h, if_pos h⟩
  · right; exact ⟨h, if_neg h⟩
theorem bindF_sound {σ : Sg} (hok : Ok σ) {n : Int} {b : Ty} {l : Nat} (h0 : 1 ≤ n) (hl : n ≤ σ.length) (hn : bnd σ n = none) (hb : goodT σ.length b = true) {s : ByteArray} {us : List Ty} (hv : goodT σ.length (.mk 2 s n us) = true) :
    Ext σ (bindF σ n b l).2.1 ∧ ((bindF σ n b l).1 = 0 → wrT (bindF σ n b l).2.1 (.mk 2 s n us) = wrT (bindF σ n b l).2.1 b) := by
  rcases bindF_cases (σ := σ) (n := n) (b := b) (l := l) with ⟨h, e⟩ | ⟨h, e⟩
  · rw [e]
    obtain ⟨_, _, ho⟩ := metT_ok n (wrT σ b) 0 (by omega) h
    refine ⟨fun t u ht hu eq => ?_, fun _ => ?_⟩
    · rw [wrT_upd hok h0 hl hn hb ho ht, wrT_upd hok h0 hl hn hb ho hu, eq]
    · show wrT (upd σ n b) _ = wrT (upd σ n b) b
      rw [wrT_upd hok h0 hl hn hb ho hv, wrT_upd hok h0 hl hn hb ho hb, wrT_free hn, subT_no _ ho, subT, if_pos ⟨rfl, rfl⟩]
  · rw [e]
    exact ⟨Ext.refl _, fun h2 => absurd h2 h⟩
/-- What a run of pairs tells. -/
structure Snd (σ : Sg) (a b : Ty) (r : Int × Sg × Nat) : Prop where
  ext : Ext σ r.2.1
  eq : r.1 = 0 → wrT r.2.1 a = wrT r.2.1 b
theorem pairL_sound {f : Sg → Ty → Ty → Nat → Int × Sg × Nat} (hf : ∀ (σ : Sg) (a b : Ty) (l : Nat), Ok σ → goodT σ.length a = true → goodT σ.length b = true → Snd σ a b (f σ a b l) ∧ Fine σ l (f σ a b l)) :
    ∀ {as_ bs : List Ty} {σ : Sg} {l : Nat}, Ok σ → goodL σ.length as_ = true → goodL σ.length bs = true → as_.length = bs.length → Ext σ (pairL f σ as_ bs l).2.1 ∧ ((pairL f σ as_ bs l).1 = 0 → as_.map (wrT (pairL f σ as_ bs l).2.1) = bs.map (wrT (pairL f σ as_ bs l).2.1)) ∧ (pairL f σ as_ bs l).2.1.length = σ.length
  | [], [], σ, l, _, _, _, _ => by
    rw [pairL]
    · exact ⟨Ext.refl _, fun _ => rfl, rfl⟩
    · simp
  | [], b :: bs, _, _, _, _, _, h => by simp at h
  | a :: as_, [], _, _, _, _, _, h => by simp at h
  | a :: as_, b :: bs, σ, l, hok, ha, hb, h => by
    rw [goodL, Bool.and_eq_true] at ha hb
    obtain ⟨h1, h2⟩ := hf σ a b l hok ha.1 hb.1
    rw [pairL]
    by_cases h0 : (f σ a b l).1 = 0
    · rw [if_pos h0]
      obtain ⟨k1, k2, k3⟩ := pairL_sound hf (l := (f σ a b l).2.2) h2.ok (by rw [h2.len]; exact ha.2) (by rw [h2.len]; exact hb.2) (by simpa using h)
      refine ⟨Ext.trans h2.len h1.ext k1, fun e => ?_, k3.trans h2.len⟩
      rw [List.map_cons, List.map_cons, k2 e, k1 a b (by rw [h2.len]; exact ha.1) (by rw [h2.len]; exact hb.1) (h1.eq h0)]
    · rw [if_neg h0]
      exact ⟨h1.ext, fun e => absurd e h0, h2.len⟩
theorem good_n {nv : Nat} {q n : Int} {s : ByteArray} {us : List Ty} (h : goodT nv (.mk q s n us) = true) (hq : ¬ q = 2) : n = 0 := by
  have h1 := (goodT_iff.1 h).1
  unfold okN at h1
  omega
theorem stepF_sound {f : Sg → Ty → Ty → Nat → Int × Sg × Nat} (hf : ∀ (σ : Sg) (a b : Ty) (l : Nat), Ok σ → goodT σ.length a = true → goodT σ.length b = true → Snd σ a b (f σ a b l) ∧ Fine σ l (f σ a b l)) {σ : Sg} {a b : Ty} {l : Nat} (hok : Ok σ) (ha : goodT σ.length a = true) (hb : goodT σ.length b = true)
    (ha2 : a.kd = 2 → bnd σ a.num = none) (hb2 : b.kd = 2 → bnd σ b.num = none) : Snd σ a b (stepF f σ a b l) := by
  obtain ⟨q1, s1, n1, us⟩ := a
  obtain ⟨q2, s2, n2, vs⟩ := b
  by_cases h1 : q1 = 2
  · subst h1
    obtain ⟨rfl, rfl, r1, r2⟩ := good_var ha
    by_cases h2 : q2 = 2 ∧ n1 = n2
    · obtain ⟨rfl, rfl⟩ := h2
      obtain ⟨rfl, rfl, _, _⟩ := good_var hb
      rw [stepF_same]
      exact ⟨Ext.refl _, fun _ => rfl⟩
    · rw [stepF_va h2, ← bindF_R]
      obtain ⟨k1, k2⟩ := bindF_sound (l := l) hok r1 r2 (ha2 rfl) hb ha
      exact ⟨k1, k2⟩
  · by_cases h2 : q2 = 2
    · subst h2
      obtain ⟨rfl, rfl, r1, r2⟩ := good_var hb
      rw [stepF_vb h1, ← bindF_R]
      obtain ⟨k1, k2⟩ := bindF_sound (l := l) hok r1 r2 (hb2 rfl) ha hb
      exact ⟨k1, fun e => (k2 e).symm⟩
    · by_cases h3 : ¬ q1 = q2 ∨ ¬ s1 = s2 ∨ ¬ us.length = vs.length
      · rw [stepF_no h1 h2 h3]
        exact ⟨Ext.refl _, fun e => by cases e⟩
      · have h4 : q1 = q2 ∧ s1 = s2 ∧ us.length = vs.length := by
          refine ⟨?_, ?_, ?_⟩ <;> (apply Classical.byContradiction; intro hh; exact h3 (by simp [hh]))
        obtain ⟨rfl, rfl, h5⟩ := h4
        obtain rfl := good_n ha h1
        obtain rfl := good_n hb h1
        rw [stepF_go h1 h5]
        obtain ⟨k1, k2, k3⟩ := pairL_sound hf (l := l) hok (goodT_iff.1 ha).2 (goodT_iff.1 hb).2 h5
        have hfine := pairL_fine (f := f) (L := l) (fun σ a b l' _ h1 h2 h3 => (hf σ a b l' h1 h2 h3).2) (Nat.le_refl _) hok (goodT_iff.1 ha).2 (goodT_iff.1 hb).2
        refine ⟨k1, fun e => ?_⟩
        rw [wrT_node hfine.ok (by rw [k3]; exact ha) h1, wrT_node hfine.ok (by rw [k3]; exact hb) h1, k2 e]
theorem pairF_sound : ∀ (k : Nat) (σ : Sg) (a b : Ty) (l : Nat), Ok σ → goodT σ.length a = true → goodT σ.length b = true → Snd σ a b (pairF k σ a b l) := by
  intro k
  induction k with
  | zero => intro σ a b l _ _ _; rw [pairF]; exact ⟨Ext.refl _, fun e => by cases e⟩
  | succ k ih =>
    intro σ a b l hok ha hb
    rw [pairF]
    split
    · exact ⟨Ext.refl _, fun e => by cases e⟩
    · have h := stepF_sound (f := pairF k) (l := l - 1) (fun σ a b l h1 h2 h3 => ⟨ih σ a b l h1 h2 h3, pairF_fine k σ a b l h1 h2 h3⟩) hok (hok.hd_good ha) (hok.hd_good hb) (hok.hd_ ha).end_ (hok.hd_ hb).end_
      have hf := pairF_fine (k + 1) σ a b l hok ha hb
      rw [pairF, if_neg (by assumption)] at hf
      refine ⟨h.ext, fun e => ?_⟩
      have e1 := h.ext a (hdT σ a) ha (hok.hd_good ha) (hok.wr_hd ha).symm
      have e2 := h.ext b (hdT σ b) hb (hok.hd_good hb) (hok.wr_hd hb).symm
      rw [e1, e2, h.eq e]
end Go.Proofs.YtnlifgcnmhakiaaDoor
