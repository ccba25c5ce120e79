/-
  PLAIN LAWS: types, what variables are bound to, what a type is written out. No program in sight.
-/
import Derived.Test.YtnlifgcnmhakiaaDoorTTree
namespace Go.Proofs.YtnlifgcnmhakiaaDoor
open Go.RowKit

def Ty.kd : Ty → Int | .mk k _ _ _ => k
def Ty.nm : Ty → ByteArray | .mk _ s _ _ => s
def Ty.num : Ty → Int | .mk _ _ n _ => n
def Ty.kids : Ty → List Ty | .mk _ _ _ us => us
/-- May a node be one of a type with so many variables? -/
def okN (nv : Nat) (k : Int) (s : ByteArray) (n : Int) (m : Nat) : Prop :=
  (k = 1 ∧ s = ⟨#[]⟩ ∧ n = 0 ∧ m = 0) ∨ (k = 2 ∧ s = ⟨#[]⟩ ∧ 1 ≤ n ∧ n ≤ nv ∧ m = 0) ∨ (k = 3 ∧ s = ⟨#[]⟩ ∧ n = 0 ∧ m = 2) ∨ (k = 4 ∧ s ≠ ⟨#[]⟩ ∧ n = 0)
instance (nv : Nat) (k : Int) (s : ByteArray) (n : Int) (m : Nat) : Decidable (okN nv k s n m) := by unfold okN; exact inferInstance
mutual
/-- Is a type one of a table with so many variables? -/
def goodT (nv : Nat) : Ty → Bool
  | .mk k s n us => decide (okN nv k s n us.length) && goodL nv us
def goodL (nv : Nat) : List Ty → Bool
  | [] => true
  | t :: ts => goodT nv t && goodL nv ts
end
theorem goodL_mem {nv : Nat} {us : List Ty} (h : goodL nv us = true) : ∀ t ∈ us, goodT nv t = true := by
  induction us with
  | nil => intro t ht; cases ht
  | cons u us ih =>
    rw [goodL, Bool.and_eq_true] at h
    intro t ht
    rcases List.mem_cons.1 ht with rfl | ht
    · exact h.1
    · exact ih h.2 t ht
theorem goodT_iff {nv : Nat} {k n : Int} {s : ByteArray} {us : List Ty} : goodT nv (.mk k s n us) = true ↔ okN nv k s n us.length ∧ goodL nv us = true := by
  rw [goodT, Bool.and_eq_true, decide_eq_true_eq]
/-- A good variable is just a number. -/
theorem good_var {nv : Nat} {n : Int} {s : ByteArray} {us : List Ty} (h : goodT nv (.mk 2 s n us) = true) : s = ⟨#[]⟩ ∧ us = [] ∧ 1 ≤ n ∧ n ≤ nv := by
  have h1 := (goodT_iff.1 h).1
  unfold okN at h1
  rcases h1 with h1 | h1 | h1 | h1
  · omega
  · exact ⟨h1.2.1, List.length_eq_zero_iff.1 h1.2.2.2.2, h1.2.2.1, h1.2.2.2.1⟩
  · omega
  · omega
theorem good_kd {nv : Nat} {t : Ty} (h : goodT nv t = true) : 1 ≤ t.kd ∧ t.kd ≤ 4 := by
  obtain ⟨k, s, n, us⟩ := t
  have h1 := (goodT_iff.1 h).1
  unfold okN at h1
  show 1 ≤ k ∧ k ≤ 4
  omega

/-- What variables are bound to. -/
abbrev Sg := List (Option Ty)
def bnd (σ : Sg) (n : Int) : Option Ty := (σ[(n - 1).toNat]?).getD none
def upd (σ : Sg) (n : Int) (t : Ty) : Sg := σ.set (n - 1).toNat (some t)
theorem upd_length (σ : Sg) (n : Int) (t : Ty) : (upd σ n t).length = σ.length := by simp [upd]
theorem bnd_upd_same {σ : Sg} {n : Int} {t : Ty} (h0 : 1 ≤ n) (h : n ≤ σ.length) : bnd (upd σ n t) n = some t := by
  unfold bnd upd
  rw [List.getElem?_set_self (by omega)]
  rfl
theorem bnd_upd_ne {σ : Sg} {n m : Int} {t : Ty} (h0 : 1 ≤ n) (h1 : 1 ≤ m) (h : n ≠ m) : bnd (upd σ n t) m = bnd σ m := by
  unfold bnd upd
  rw [List.getElem?_set_ne (by omega)]
/-- A row of types, written out by f. -/
def wrL (f : Ty → Option Ty) : List Ty → Option (List Ty)
  | [] => some []
  | t :: ts => (f t).bind fun u => (wrL f ts).map (u :: ·)
theorem wrL_mono {f g : Ty → Option Ty} {ts us : List Ty} (h : ∀ t ∈ ts, ∀ u, f t = some u → g t = some u) (hw : wrL f ts = some us) : wrL g ts = some us := by
  induction ts generalizing us with
  | nil => exact hw
  | cons t ts ih =>
    rw [wrL] at hw ⊢
    cases h1 : f t with
    | none => rw [h1] at hw; cases hw
    | some u =>
      rw [h1] at hw
      cases h2 : wrL f ts with
      | none => rw [h2] at hw; cases hw
      | some vs =>
        rw [h2] at hw
        rw [h t (by simp) u h1, ih (fun t ht => h t (by simp [ht])) h2]
        exact hw
theorem wrL_cons {f : Ty → Option Ty} {t : Ty} {ts vs : List Ty} (h : wrL f (t :: ts) = some vs) : ∃ u us, vs = u :: us ∧ f t = some u ∧ wrL f ts = some us := by
  rw [wrL] at h
  cases h1 : f t with
  | none => rw [h1] at h; cases h
  | some u =>
    rw [h1] at h
    cases h2 : wrL f ts with
    | none => rw [h2] at h; cases h
    | some us =>
      rw [h2] at h
      injection h with h
      exact ⟨u, us, h.symm, rfl, rfl⟩
theorem wrL_cons_mk {f : Ty → Option Ty} {t u : Ty} {ts us : List Ty} (h1 : f t = some u) (h2 : wrL f ts = some us) : wrL f (t :: ts) = some (u :: us) := by
  rw [wrL, h1, h2]; rfl
/-- A type, written out, within so many steps. -/
def wrF (σ : Sg) : Nat → Ty → Option Ty
  | 0, _ => none
  | k + 1, .mk q s n us => if q = 2 then (match bnd σ n with | none => some (.mk q s n us) | some u => wrF σ k u) else (wrL (wrF σ k) us).map (.mk q s n)
theorem wrF_free {σ : Sg} {k : Nat} {n : Int} {s : ByteArray} {us : List Ty} (h : bnd σ n = none) : wrF σ (k + 1) (.mk 2 s n us) = some (.mk 2 s n us) := by rw [wrF, if_pos rfl, h]
theorem wrF_bound {σ : Sg} {k : Nat} {n : Int} {s : ByteArray} {us : List Ty} {u : Ty} (h : bnd σ n = some u) : wrF σ (k + 1) (.mk 2 s n us) = wrF σ k u := by rw [wrF, if_pos rfl, h]
theorem wrF_node {σ : Sg} {k : Nat} {q n : Int} {s : ByteArray} {us : List Ty} (h : q ≠ 2) : wrF σ (k + 1) (.mk q s n us) = (wrL (wrF σ k) us).map (.mk q s n) := by rw [wrF, if_neg h]
theorem wrF_mono {σ : Sg} : ∀ {k : Nat} {t u : Ty}, wrF σ k t = some u → wrF σ (k + 1) t = some u := by
  intro k
  induction k with
  | zero => intro t u h; cases h
  | succ k ih =>
    intro t u h
    obtain ⟨q, s, n, us⟩ := t
    by_cases hq : q = 2
    · subst hq
      cases hb : bnd σ n with
      | none => rw [wrF_free hb] at h ⊢; exact h
      | some v => rw [wrF_bound hb] at h ⊢; exact ih h
    · rw [wrF_node hq] at h ⊢
      cases h2 : wrL (wrF σ k) us with
      | none => rw [h2] at h; cases h
      | some vs =>
        rw [h2] at h
        rw [wrL_mono (fun t _ u hu => ih hu) h2]
        exact h
theorem wrF_le {σ : Sg} {j k : Nat} (hjk : j ≤ k) {t u : Ty} (h : wrF σ j t = some u) : wrF σ k t = some u := by
  induction k with
  | zero => obtain rfl : j = 0 := by omega
            exact h
  | succ k ih =>
    by_cases he : j = k + 1
    · subst he; exact h
    · exact wrF_mono (ih (by omega))
theorem wrF_det {σ : Sg} {j k : Nat} {t u v : Ty} (h : wrF σ j t = some u) (h2 : wrF σ k t = some v) : u = v := by
  have a := wrF_le (Nat.le_max_left j k) h
  have b := wrF_le (Nat.le_max_right j k) h2
  rw [a] at b
  injection b
/-- A type, written out. -/
def Wr (σ : Sg) (t u : Ty) : Prop := ∃ k, wrF σ k t = some u
theorem Wr.det {σ : Sg} {t u v : Ty} (h : Wr σ t u) (h2 : Wr σ t v) : u = v := by
  obtain ⟨j, h⟩ := h
  obtain ⟨k, h2⟩ := h2
  exact wrF_det h h2
def WrL (σ : Sg) (ts us : List Ty) : Prop := ∃ k, wrL (wrF σ k) ts = some us
theorem WrL.nil (σ : Sg) : WrL σ [] [] := ⟨0, rfl⟩
theorem WrL.cons {σ : Sg} {t u : Ty} {ts us : List Ty} (h : Wr σ t u) (h2 : WrL σ ts us) : WrL σ (t :: ts) (u :: us) := by
  obtain ⟨j, h⟩ := h
  obtain ⟨k, h2⟩ := h2
  exact ⟨max j k, wrL_cons_mk (wrF_le (Nat.le_max_left j k) h) (wrL_mono (fun t _ u hu => wrF_le (Nat.le_max_right j k) hu) h2)⟩
theorem WrL.uncons {σ : Sg} {t : Ty} {ts vs : List Ty} (h : WrL σ (t :: ts) vs) : ∃ u us, vs = u :: us ∧ Wr σ t u ∧ WrL σ ts us := by
  obtain ⟨k, h⟩ := h
  obtain ⟨u, us, h1, h2, h3⟩ := wrL_cons h
  exact ⟨u, us, h1, ⟨k, h2⟩, ⟨k, h3⟩⟩
theorem WrL.len {σ : Sg} : ∀ {ts us : List Ty}, WrL σ ts us → us.length = ts.length
  | [], us, h => by obtain ⟨k, h⟩ := h; rw [wrL] at h; injection h with h; subst h; rfl
  | t :: ts, us, h => by obtain ⟨u, vs, rfl, _, h2⟩ := h.uncons; simp [h2.len]
theorem WrL.det {σ : Sg} : ∀ {ts us vs : List Ty}, WrL σ ts us → WrL σ ts vs → us = vs
  | [], us, vs, h, h2 => by rw [List.length_eq_zero_iff.1 h.len, List.length_eq_zero_iff.1 h2.len]
  | t :: ts, us, vs, h, h2 => by
    obtain ⟨u, us, rfl, a, b⟩ := h.uncons
    obtain ⟨v, vs, rfl, c, d⟩ := h2.uncons
    rw [a.det c, b.det d]
theorem Wr.free {σ : Sg} {n : Int} {s : ByteArray} {us : List Ty} (h : bnd σ n = none) : Wr σ (.mk 2 s n us) (.mk 2 s n us) := ⟨1, wrF_free h⟩
theorem Wr.bound {σ : Sg} {n : Int} {s : ByteArray} {us : List Ty} {u v : Ty} (h : bnd σ n = some u) : Wr σ (.mk 2 s n us) v ↔ Wr σ u v := by
  constructor
  · rintro ⟨k, hk⟩
    cases k with
    | zero => cases hk
    | succ k => rw [wrF_bound h] at hk; exact ⟨k, hk⟩
  · rintro ⟨k, hk⟩
    exact ⟨k + 1, by rw [wrF_bound h]; exact hk⟩
theorem Wr.node {σ : Sg} {q n : Int} {s : ByteArray} {us : List Ty} {v : Ty} (h : q ≠ 2) : Wr σ (.mk q s n us) v ↔ ∃ vs, v = .mk q s n vs ∧ WrL σ us vs := by
  constructor
  · rintro ⟨k, hk⟩
    cases k with
    | zero => cases hk
    | succ k =>
      rw [wrF_node h] at hk
      cases h2 : wrL (wrF σ k) us with
      | none => rw [h2] at hk; cases hk
      | some vs => rw [h2] at hk; injection hk with hk; exact ⟨vs, hk.symm, k, h2⟩
  · rintro ⟨vs, rfl, k, hk⟩
    exact ⟨k + 1, by rw [wrF_node h, hk]; rfl⟩
/-- A type's beginning, where it is no bound variable. -/
inductive Hd (σ : Sg) : Ty → Ty → Prop where
  | here {t : Ty} (h : t.kd = 2 → bnd σ t.num = none) : Hd σ t t
  | step {s : ByteArray} {n : Int} {us : List Ty} {u v : Ty} (h : bnd σ n = some u) (h2 : Hd σ u v) : Hd σ (.mk 2 s n us) v
theorem Hd.det {σ : Sg} {t u v : Ty} (h : Hd σ t u) (h2 : Hd σ t v) : u = v := by
  induction h with
  | here h =>
    cases h2 with
    | here _ => rfl
    | step h3 _ => cases h3.symm.trans (h rfl)
  | step h _ ih =>
    cases h2 with
    | here h3 => cases h.symm.trans (h3 rfl)
    | step h3 h4 => rw [h] at h3; injection h3 with h3; subst h3; exact ih h4
theorem Hd.end_ {σ : Sg} {t u : Ty} (h : Hd σ t u) : u.kd = 2 → bnd σ u.num = none := by
  induction h with
  | here h => exact h
  | step _ _ ih => exact ih
theorem Hd.of_wrF {σ : Sg} : ∀ {k : Nat} {t v : Ty}, wrF σ k t = some v → ∃ u, Hd σ t u ∧ wrF σ k u = some v := by
  intro k
  induction k with
  | zero => intro t v h; cases h
  | succ k ih =>
    intro t v h
    obtain ⟨q, s, n, us⟩ := t
    by_cases hq : q = 2
    · subst hq
      cases hb : bnd σ n with
      | none => exact ⟨_, .here (fun _ => hb), h⟩
      | some w =>
        rw [wrF_bound hb] at h
        obtain ⟨u, h1, h2⟩ := ih h
        exact ⟨u, .step hb h1, wrF_mono h2⟩
    · exact ⟨_, .here (fun h => absurd h hq), h⟩
theorem Hd.of_wr {σ : Sg} {t v : Ty} (h : Wr σ t v) : ∃ u, Hd σ t u ∧ Wr σ u v := by
  obtain ⟨k, h⟩ := h
  obtain ⟨u, h1, h2⟩ := Hd.of_wrF h
  exact ⟨u, h1, k, h2⟩
theorem Hd.wr {σ : Sg} {t u v : Ty} (h : Hd σ t u) (h2 : Wr σ u v) : Wr σ t v := by
  induction h with
  | here _ => exact h2
  | step hb _ ih => exact (Wr.bound hb).2 (ih h2)
theorem Hd.wr' {σ : Sg} {t u v : Ty} (h : Hd σ t u) (h2 : Wr σ t v) : Wr σ u v := by
  obtain ⟨u', h3, h4⟩ := Hd.of_wr h2
  rw [h.det h3]; exact h4
/-- The table is well: what is bound is good, and everything good can be written out. -/
structure Ok (σ : Sg) : Prop where
  good : ∀ n u, 1 ≤ n → bnd σ n = some u → goodT σ.length u = true
  fin : ∀ t, goodT σ.length t = true → ∃ u, Wr σ t u
theorem Hd.good {σ : Sg} (hok : Ok σ) {t u : Ty} (h : Hd σ t u) (hg : goodT σ.length t = true) : goodT σ.length u = true := by
  induction h with
  | here _ => exact hg
  | step hb _ ih => exact ih (hok.good _ _ (good_var hg).2.2.1 hb)
theorem Ok.hd {σ : Sg} (hok : Ok σ) {t : Ty} (hg : goodT σ.length t = true) : ∃ u, Hd σ t u := by
  obtain ⟨v, hv⟩ := hok.fin t hg
  obtain ⟨u, hu, _⟩ := Hd.of_wr hv
  exact ⟨u, hu⟩
mutual
/-- What is met first in a type that is written out: variable x, or too many nodes; how many nodes, behind so many. -/
def metT (x : Int) : Ty → Nat → Nat × Int
  | .mk q _ n us, c => if c = 1024 then (c, 3) else if q = 2 ∧ n = x then (c + 1, 151) else metL x us (c + 1)
def metL (x : Int) : List Ty → Nat → Nat × Int
  | [], c => (c, 0)
  | t :: ts, c => if (metT x t c).2 = 0 then metL x ts (metT x t c).1 else metT x t c
end
mutual
/-- Is variable x in a type? -/
def occT (x : Int) : Ty → Bool
  | .mk q _ n us => decide (q = 2 ∧ n = x) || occL x us
def occL (x : Int) : List Ty → Bool
  | [] => false
  | t :: ts => occT x t || occL x ts
end
mutual
theorem metT_ok (x : Int) : ∀ (t : Ty) (c : Nat), c ≤ 1024 → (metT x t c).2 = 0 → (metT x t c).1 = c + nodes t ∧ c + nodes t ≤ 1024 ∧ occT x t = false
  | .mk q s n us, c, hc, h => by
    rw [metT] at h ⊢
    by_cases h1 : c = 1024
    · rw [if_pos h1] at h; simp at h
    · rw [if_neg h1] at h ⊢
      by_cases h2 : q = 2 ∧ n = x
      · rw [if_pos h2] at h; simp at h
      · rw [if_neg h2] at h ⊢
        obtain ⟨h3, h4, h5⟩ := metL_ok x us (c + 1) (by omega) h
        refine ⟨by rw [h3, nodes]; omega, by rw [nodes]; omega, ?_⟩
        rw [occT, h5, Bool.or_false]
        simp [h2]
theorem metL_ok (x : Int) : ∀ (ts : List Ty) (c : Nat), c ≤ 1024 → (metL x ts c).2 = 0 → (metL x ts c).1 = c + nodesL ts ∧ c + nodesL ts ≤ 1024 ∧ occL x ts = false
  | [], c, hc, _ => by rw [metL, nodesL, occL]; exact ⟨rfl, hc, rfl⟩
  | t :: ts, c, hc, h => by
    rw [metL] at h ⊢
    by_cases h1 : (metT x t c).2 = 0
    · rw [if_pos h1] at h ⊢
      obtain ⟨a1, a2, a3⟩ := metT_ok x t c hc h1
      obtain ⟨b1, b2, b3⟩ := metL_ok x ts (metT x t c).1 (by omega) h
      refine ⟨by rw [b1, a1, nodesL]; omega, by rw [nodesL]; omega, by rw [occL, a3, b3]; rfl⟩
    · rw [if_neg h1] at h
      exact absurd h h1
end
mutual
theorem metT_err (x : Int) : ∀ (t : Ty) (c : Nat), (metT x t c).2 = 0 ∨ (metT x t c).2 = 3 ∨ (metT x t c).2 = 151
  | .mk q s n us, c => by
    rw [metT]
    split
    · exact .inr (.inl rfl)
    · split
      · exact .inr (.inr rfl)
      · exact metL_err x us (c + 1)
theorem metL_err (x : Int) : ∀ (ts : List Ty) (c : Nat), (metL x ts c).2 = 0 ∨ (metL x ts c).2 = 3 ∨ (metL x ts c).2 = 151
  | [], c => by rw [metL]; exact .inl rfl
  | t :: ts, c => by
    rw [metL]
    split
    · exact metL_err x ts _
    · exact metT_err x t c
end
mutual
theorem metT_le (x : Int) : ∀ (t : Ty) (c : Nat), c ≤ 1024 → (metT x t c).1 ≤ 1024
  | .mk q s n us, c, hc => by
    rw [metT]
    split
    · exact hc
    · split
      · show c + 1 ≤ 1024; omega
      · exact metL_le x us (c + 1) (by omega)
theorem metL_le (x : Int) : ∀ (ts : List Ty) (c : Nat), c ≤ 1024 → (metL x ts c).1 ≤ 1024
  | [], c, hc => by rw [metL]; exact hc
  | t :: ts, c, hc => by
    rw [metL]
    split
    · exact metL_le x ts _ (metT_le x t c hc)
    · exact metT_le x t c hc
end
theorem occL_cons {x : Int} {t : Ty} {ts : List Ty} : occL x (t :: ts) = false ↔ occT x t = false ∧ occL x ts = false := by rw [occL, Bool.or_eq_false_iff]
/-- What does not reach variable n stays as it is written out. -/
theorem wrF_upd {σ : Sg} {n : Int} {b : Ty} (h0 : 1 ≤ n) (hn : bnd σ n = none) (hok : Ok σ) : ∀ {k : Nat} {t v : Ty}, goodT σ.length t = true → wrF σ k t = some v → occT n v = false → wrF (upd σ n b) k t = some v := by
  intro k
  induction k with
  | zero => intro t v _ h; cases h
  | succ k ih =>
    intro t v hg h ho
    obtain ⟨q, s, m, us⟩ := t
    by_cases hq : q = 2
    · subst hq
      have hm := (good_var hg).2.2.1
      cases hb : bnd σ m with
      | none =>
        rw [wrF_free hb] at h
        injection h with h
        subst h
        have hne : n ≠ m := by rintro rfl; rw [occT] at ho; simp at ho
        rw [wrF_free (by rw [bnd_upd_ne h0 hm hne]; exact hb)]
      | some w =>
        have hne : n ≠ m := by rintro rfl; rw [hn] at hb; cases hb
        rw [wrF_bound hb] at h
        rw [wrF_bound (by rw [bnd_upd_ne h0 hm hne]; exact hb)]
        exact ih (hok.good _ _ hm hb) h ho
    · rw [wrF_node hq] at h ⊢
      cases h2 : wrL (wrF σ k) us with
      | none => rw [h2] at h; cases h
      | some vs =>
        rw [h2] at h
        injection h with h
        subst h
        rw [occT] at ho
        have ho2 : occL n vs = false := by simp at ho; exact ho.2
        have hgl := (goodT_iff.1 hg).2
        have key : ∀ (us vs : List Ty), goodL σ.length us = true → wrL (wrF σ k) us = some vs → occL n vs = false → wrL (wrF (upd σ n b) k) us = some vs := by
          intro us
          induction us with
          | nil => intro vs _ h _; exact h
          | cons t ts ihl =>
            intro vs hg h ho
            obtain ⟨u, us', rfl, h3, h4⟩ := wrL_cons h
            rw [goodL, Bool.and_eq_true] at hg
            obtain ⟨o1, o2⟩ := occL_cons.1 ho
            exact wrL_cons_mk (ih hg.1 h3 o1) (ihl _ hg.2 h4 o2)
        rw [key us vs hgl h2 ho2]
        rfl
mutual
/-- Variable n, replaced. -/
def subT (n : Int) (b : Ty) : Ty → Ty
  | .mk q s m us => if q = 2 ∧ m = n then b else .mk q s m (subL n b us)
def subL (n : Int) (b : Ty) : List Ty → List Ty
  | [] => []
  | t :: ts => subT n b t :: subL n b ts
end
/-- Bound to b, a variable is written out as b is. -/
theorem Wr.upd {σ : Sg} {n : Int} {b c : Ty} (h0 : 1 ≤ n) (hl : n ≤ σ.length) (hn : bnd σ n = none) (hok : Ok σ) (hb : Wr (upd σ n b) b c) : ∀ {k : Nat} {t v : Ty}, goodT σ.length t = true → wrF σ k t = some v → Wr (Go.Proofs.YtnlifgcnmhakiaaDoor.upd σ n b) t (subT n c v) := by
  intro k
  induction k with
  | zero => intro t v _ h; cases h
  | succ k ih =>
    intro t v hg h
    obtain ⟨q, s, m, us⟩ := t
    by_cases hq : q = 2
    · subst hq
      obtain ⟨rfl, rfl, hm, _⟩ := good_var hg
      cases hbm : bnd σ m with
      | none =>
        rw [wrF_free hbm] at h
        injection h with h
        subst h
        by_cases hne : n = m
        · subst hne
          rw [subT, if_pos ⟨rfl, rfl⟩]
          exact (Wr.bound (bnd_upd_same h0 hl)).2 hb
        · rw [subT, if_neg (by omega), subL]
          exact Wr.free (by rw [bnd_upd_ne h0 hm hne]; exact hbm)
      | some w =>
        have hne : n ≠ m := by rintro rfl; rw [hn] at hbm; cases hbm
        rw [wrF_bound hbm] at h
        exact (Wr.bound (by rw [bnd_upd_ne h0 hm hne]; exact hbm)).2 (ih (hok.good _ _ hm hbm) h)
    · rw [wrF_node hq] at h
      cases h2 : wrL (wrF σ k) us with
      | none => rw [h2] at h; cases h
      | some vs =>
        rw [h2] at h
        injection h with h
        subst h
        have hgl := (goodT_iff.1 hg).2
        have key : ∀ (us vs : List Ty), goodL σ.length us = true → wrL (wrF σ k) us = some vs → WrL (Go.Proofs.YtnlifgcnmhakiaaDoor.upd σ n b) us (subL n c vs) := by
          intro us
          induction us with
          | nil => intro vs _ h; rw [wrL] at h; injection h with h; subst h; rw [subL]; exact WrL.nil _
          | cons t ts ihl =>
            intro vs hg h
            obtain ⟨u, us', rfl, h3, h4⟩ := wrL_cons h
            rw [goodL, Bool.and_eq_true] at hg
            rw [subL]
            exact WrL.cons (ih hg.1 h3) (ihl _ hg.2 h4)
        rw [subT, if_neg (fun h => hq h.1)]
        exact (Wr.node hq).2 ⟨_, rfl, key us vs hgl h2⟩
/-- A variable that is bound to what does not reach it. -/
theorem Ok.bind {σ : Sg} (hok : Ok σ) {n : Int} {b c : Ty} (h0 : 1 ≤ n) (hl : n ≤ σ.length) (hn : bnd σ n = none) (hb : goodT σ.length b = true) (hw : Wr σ b c) (ho : occT n c = false) : Ok (upd σ n b) ∧ Wr (upd σ n b) b c := by
  obtain ⟨k, hk⟩ := hw
  have hb2 : Wr (upd σ n b) b c := ⟨k, wrF_upd h0 hn hok hb hk ho⟩
  refine ⟨⟨fun m u hm h => ?_, fun t ht => ?_⟩, hb2⟩
  · rw [upd_length]
    by_cases hne : n = m
    · subst hne
      rw [bnd_upd_same h0 hl] at h
      injection h with h
      subst h
      exact hb
    · rw [bnd_upd_ne h0 hm hne] at h
      exact hok.good _ _ hm h
  · rw [upd_length] at ht
    obtain ⟨v, j, hj⟩ := hok.fin t ht
    exact ⟨_, Wr.upd h0 hl hn hok hb2 ht hj⟩
end Go.Proofs.YtnlifgcnmhakiaaDoor
