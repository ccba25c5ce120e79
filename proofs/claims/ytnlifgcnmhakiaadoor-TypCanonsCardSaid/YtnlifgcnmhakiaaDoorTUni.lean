/-
  PLAIN LAWS: two types are made the same.
-/
import Derived.Test.YtnlifgcnmhakiaaDoorTPlain
import Derived.Test.YtnlifgcnmhakiaaDoorTSize
namespace Go.Proofs.YtnlifgcnmhakiaaDoor
open Go.RowKit

open Classical in
noncomputable def hdT (σ : Sg) (t : Ty) : Ty := if h : ∃ u, Hd σ t u then h.choose else t
open Classical in
noncomputable def wrT (σ : Sg) (t : Ty) : Ty := if h : ∃ u, Wr σ t u then h.choose else t
theorem hd_eq {σ : Sg} {t u : Ty} (h : Hd σ t u) : hdT σ t = u := by
  have h2 : ∃ u, Hd σ t u := ⟨u, h⟩
  unfold hdT
  rw [dif_pos h2]
  exact h2.choose_spec.det h
theorem wr_eq {σ : Sg} {t u : Ty} (h : Wr σ t u) : wrT σ t = u := by
  have h2 : ∃ u, Wr σ t u := ⟨u, h⟩
  unfold wrT
  rw [dif_pos h2]
  exact h2.choose_spec.det h
theorem Ok.hd_ {σ : Sg} (hok : Ok σ) {t : Ty} (hg : goodT σ.length t = true) : Hd σ t (hdT σ t) := by
  obtain ⟨u, h⟩ := hok.hd hg
  rw [hd_eq h]; exact h
theorem Ok.wr_ {σ : Sg} (hok : Ok σ) {t : Ty} (hg : goodT σ.length t = true) : Wr σ t (wrT σ t) := by
  obtain ⟨u, h⟩ := hok.fin t hg
  rw [wr_eq h]; exact h
theorem Ok.hd_good {σ : Sg} (hok : Ok σ) {t : Ty} (hg : goodT σ.length t = true) : goodT σ.length (hdT σ t) = true := (hok.hd_ hg).good hok hg
theorem Ok.wr_hd {σ : Sg} (hok : Ok σ) {t : Ty} (hg : goodT σ.length t = true) : wrT σ (hdT σ t) = wrT σ t := wr_eq ((hok.hd_ hg).wr' (hok.wr_ hg))
theorem kids_good {nv : Nat} {t : Ty} (hg : goodT nv t = true) : goodL nv t.kids = true := by
  obtain ⟨k, s, n, us⟩ := t
  exact (goodT_iff.1 hg).2
theorem var_range {nv : Nat} {t : Ty} (hg : goodT nv t = true) (hk : t.kd = 2) : 1 ≤ t.num ∧ t.num ≤ nv := by
  obtain ⟨k, s, n, us⟩ := t
  obtain rfl : k = 2 := hk
  obtain ⟨_, _, h1, h2⟩ := good_var hg
  exact ⟨h1, h2⟩
noncomputable def bindF (σ : Sg) (n : Int) (b : Ty) (l : Nat) : Int × Sg × Nat :=
  if (metT n (wrT σ b) 0).2 = 0 then (0, upd σ n b, l) else ((metT n (wrT σ b) 0).2, σ, l)
def pairL (f : Sg → Ty → Ty → Nat → Int × Sg × Nat) (σ : Sg) : List Ty → List Ty → Nat → Int × Sg × Nat
  | a :: as_, b :: bs, l => if (f σ a b l).1 = 0 then pairL f (f σ a b l).2.1 as_ bs (f σ a b l).2.2 else f σ a b l
  | _, _, l => (0, σ, l)
open Classical in
noncomputable def stepF (f : Sg → Ty → Ty → Nat → Int × Sg × Nat) (σ : Sg) (a b : Ty) (l : Nat) : Int × Sg × Nat :=
  if a.kd = 2 ∧ b.kd = 2 ∧ a.num = b.num then (0, σ, l)
  else if a.kd = 2 then bindF σ a.num b l
  else if b.kd = 2 then bindF σ b.num a l
  else if a.kd ≠ b.kd ∨ a.nm ≠ b.nm ∨ a.kids.length ≠ b.kids.length then (150, σ, l)
  else pairL f σ a.kids b.kids l
/-- Two types, made the same: what came of it, what is bound, how many pairs are left. -/
noncomputable def pairF : Nat → Sg → Ty → Ty → Nat → Int × Sg × Nat
  | 0, σ, _, _, _ => (3, σ, 0)
  | k + 1, σ, a, b, l => if l = 0 then (3, σ, 0) else stepF (pairF k) σ (hdT σ a) (hdT σ b) (l - 1)
/-- What a step leaves. -/
structure Fine (σ : Sg) (l : Nat) (r : Int × Sg × Nat) : Prop where
  ok : Ok r.2.1
  len : r.2.1.length = σ.length
  left : r.2.2 ≤ l
theorem Fine.same {σ : Sg} (hok : Ok σ) {l m : Nat} (h : m ≤ l) (e : Int) : Fine σ l (e, σ, m) := ⟨hok, rfl, h⟩
theorem bindF_fine {σ : Sg} (hok : Ok σ) {n : Int} {b : Ty} {l : Nat} (h0 : 1 ≤ n) (hl : n ≤ σ.length) (hn : bnd σ n = none) (hb : goodT σ.length b = true) : Fine σ l (bindF σ n b l) := by
  unfold bindF
  split
  · rename_i h
    obtain ⟨_, _, ho⟩ := metT_ok n (wrT σ b) 0 (by omega) h
    exact ⟨(hok.bind h0 hl hn hb (hok.wr_ hb) ho).1, upd_length _ _ _, Nat.le_refl _⟩
  · exact Fine.same hok (Nat.le_refl _) _
theorem pairL_fine {f : Sg → Ty → Ty → Nat → Int × Sg × Nat} {L : Nat} : ∀ {as_ bs : List Ty} {σ : Sg} {l : Nat}, (∀ (σ : Sg) (a b : Ty) (l : Nat), l ≤ L → Ok σ → goodT σ.length a = true → goodT σ.length b = true → Fine σ l (f σ a b l)) → l ≤ L → Ok σ → goodL σ.length as_ = true → goodL σ.length bs = true → Fine σ l (pairL f σ as_ bs l)
  | [], bs, σ, l, _, _, hok, _, _ => by rw [pairL]; exact Fine.same hok (Nat.le_refl _) _; simp
  | a :: as_, [], σ, l, _, _, hok, _, _ => by rw [pairL]; exact Fine.same hok (Nat.le_refl _) _; simp
  | a :: as_, b :: bs, σ, l, hf, hl, hok, ha, hb => by
    rw [goodL, Bool.and_eq_true] at ha hb
    have h1 := hf σ a b l hl hok ha.1 hb.1
    rw [pairL]
    split
    · have h2 := pairL_fine hf (Nat.le_trans h1.left hl) h1.ok (by rw [h1.len]; exact ha.2) (by rw [h1.len]; exact hb.2)
      exact ⟨h2.ok, h2.len.trans h1.len, Nat.le_trans h2.left h1.left⟩
    · exact h1
theorem stepF_fine {f : Sg → Ty → Ty → Nat → Int × Sg × Nat} {σ : Sg} {a b : Ty} {l : Nat} (hf : ∀ (σ : Sg) (a b : Ty) (l' : Nat), l' ≤ l → Ok σ → goodT σ.length a = true → goodT σ.length b = true → Fine σ l' (f σ a b l')) (hok : Ok σ) (ha : goodT σ.length a = true) (hb : goodT σ.length b = true)
    (ha2 : a.kd = 2 → bnd σ a.num = none) (hb2 : b.kd = 2 → bnd σ b.num = none) : Fine σ l (stepF f σ a b l) := by
  unfold stepF
  split
  · exact Fine.same hok (Nat.le_refl _) _
  split
  · rename_i h; exact bindF_fine hok (var_range ha h).1 (var_range ha h).2 (ha2 h) hb
  split
  · rename_i h; exact bindF_fine hok (var_range hb h).1 (var_range hb h).2 (hb2 h) ha
  split
  · exact Fine.same hok (Nat.le_refl _) _
  · exact pairL_fine hf (Nat.le_refl _) hok (kids_good ha) (kids_good hb)
theorem pairF_fine : ∀ (k : Nat) (σ : Sg) (a b : Ty) (l : Nat), Ok σ → goodT σ.length a = true → goodT σ.length b = true → Fine σ l (pairF k σ a b l) := by
  intro k
  induction k with
  | zero => intro σ a b l hok _ _; rw [pairF]; exact Fine.same hok (Nat.zero_le _) _
  | succ k ih =>
    intro σ a b l hok ha hb
    rw [pairF]
    split
    · exact Fine.same hok (Nat.zero_le _) _
    · have h := stepF_fine (f := pairF k) (l := l - 1) (fun σ a b l _ => ih σ a b l) hok (hok.hd_good ha) (hok.hd_good hb) (hok.hd_ ha).end_ (hok.hd_ hb).end_
      exact ⟨h.ok, h.len, Nat.le_trans h.left (by omega)⟩
/-- Is a type one that a table of so many variables takes? -/
def mayT (nv : Nat) (t : Ty) : Bool := decide (sizeT t ≤ 1024) && goodT nv t
/-- Unify. -/
noncomputable def unifyF (σ : Sg) (a b : Ty) : Int × Sg := if mayT σ.length a && mayT σ.length b then ((pairF 65537 σ a b 65536).1, (pairF 65537 σ a b 65536).2.1) else (1, σ)
theorem mayT_good {nv : Nat} {t : Ty} (h : mayT nv t = true) : goodT nv t = true := by unfold mayT at h; rw [Bool.and_eq_true] at h; exact h.2
theorem unifyF_fine {σ : Sg} (hok : Ok σ) (a b : Ty) : Ok (unifyF σ a b).2 ∧ (unifyF σ a b).2.length = σ.length := by
  unfold unifyF
  split
  · rename_i h
    rw [Bool.and_eq_true] at h
    have := pairF_fine 65537 σ a b 65536 hok (mayT_good h.1) (mayT_good h.2)
    exact ⟨this.ok, this.len⟩
  · exact ⟨hok, rfl⟩
/-- A table without bindings. -/
theorem Ok.none_ (n : Nat) : Ok (List.replicate n none) := by
  have hb : ∀ m, bnd (List.replicate n none) m = none := by
    intro m
    unfold bnd
    rw [List.getElem?_replicate]
    split <;> rfl
  refine ⟨fun m u _ h => (by rw [hb] at h; cases h), fun t _ => ?_⟩
  have key : ∀ (N : Nat) (t : Ty), SizeOf.sizeOf t ≤ N → ∃ u, Wr (List.replicate n none) t u := by
    intro N
    induction N with
    | zero => intro t ht; cases t; simp at ht
    | succ N ih =>
      intro t ht
      obtain ⟨q, s, m, us⟩ := t
      by_cases hq : q = 2
      · subst hq; exact ⟨_, Wr.free (hb m)⟩
      · have hL : ∀ (us : List Ty), (∀ u ∈ us, SizeOf.sizeOf u ≤ N) → ∃ vs, WrL (List.replicate n none) us vs := by
          intro us
          induction us with
          | nil => intro _; exact ⟨[], WrL.nil _⟩
          | cons u us ihl =>
            intro h
            obtain ⟨v, hv⟩ := ih u (h u (by simp))
            obtain ⟨vs, hvs⟩ := ihl (fun x hx => h x (by simp [hx]))
            exact ⟨v :: vs, WrL.cons hv hvs⟩
        obtain ⟨vs, hvs⟩ := hL us (fun u hu => by have := ty_lt (k := q) (n := m) (s := s) hu; omega)
        exact ⟨_, (Wr.node hq).2 ⟨vs, rfl, hvs⟩⟩
  exact key _ t (Nat.le_refl _)
end Go.Proofs.YtnlifgcnmhakiaaDoor
