/-
  PLAIN: what has a solution is made the same, in either order; what is the same already binds nothing.
-/
import Derived.Test.YtnlifgcnmhakiaaDoorTSameP
namespace Go.Proofs.YtnlifgcnmhakiaaDoor
open Go.RowKit

theorem may_no {σ : Sg} {a b : Ty} (h : mayT σ.length a = false ∨ mayT σ.length b = false) : unifyF σ a b = (1, σ) := by
  unfold unifyF
  rw [if_neg (by rcases h with h | h <;> simp [h])]

mutual
theorem metT_occ (x : Int) : ∀ (t : Ty) (c : Nat), (metT x t c).2 = 151 → occT x t = true
  | .mk q s n us, c, h => by
    rw [metT] at h
    rw [occT]
    by_cases h1 : c = 1024
    · rw [if_pos h1] at h; simp at h
    · rw [if_neg h1] at h
      by_cases h2 : q = 2 ∧ n = x
      · simp [h2]
      · rw [if_neg h2] at h
        rw [metL_occ x us (c + 1) h, Bool.or_true]
theorem metL_occ (x : Int) : ∀ (ts : List Ty) (c : Nat), (metL x ts c).2 = 151 → occL x ts = true
  | [], c, h => by rw [metL] at h; simp at h
  | t :: ts, c, h => by
    rw [metL] at h
    rw [occL]
    by_cases h1 : (metT x t c).2 = 0
    · rw [if_pos h1] at h; rw [metL_occ x ts _ h, Bool.or_true]
    · rw [if_neg h1] at h; rw [metT_occ x t c h, Bool.true_or]
end
mutual
/-- What stands in a type is no greater than it. -/
theorem occ_le (θ : Int → Ty) (x : Int) (nv : Nat) : ∀ (t : Ty), goodT nv t = true → occT x t = true → nodes (θ x) ≤ nodes (apT θ t) ∧ (¬ t.kd = 2 → nodes (θ x) < nodes (apT θ t))
  | .mk q s n us, hg, h => by
    rw [occT] at h
    by_cases hq : q = 2
    · subst hq
      obtain ⟨rfl, rfl, _, _⟩ := good_var hg
      rw [apT_var]
      have hx : n = x := by simpa [occL] using h
      subst hx
      exact ⟨Nat.le_refl _, fun e => absurd rfl e⟩
    · have h2 : occL x us = true := by simpa [hq] using h
      have := occ_leL θ x nv us (goodT_iff.1 hg).2 h2
      rw [apT_node _ _ _ _ hq, nodes]
      exact ⟨by omega, fun _ => by omega⟩
theorem occ_leL (θ : Int → Ty) (x : Int) (nv : Nat) : ∀ (ts : List Ty), goodL nv ts = true → occL x ts = true → nodes (θ x) ≤ nodesL (ts.map (apT θ))
  | [], _, h => by rw [occL] at h; cases h
  | t :: ts, hg, h => by
    rw [occL, Bool.or_eq_true] at h
    rw [goodL, Bool.and_eq_true] at hg
    rw [List.map_cons, nodesL]
    rcases h with h | h
    · have := (occ_le θ x nv t hg.1 h).1; omega
    · have := occ_leL θ x nv ts hg.2 h; omega
end
theorem wrT_kd {σ : Sg} (hok : Ok σ) {t : Ty} (hg : goodT σ.length t = true) (h : ¬ t.kd = 2) : ¬ (wrT σ t).kd = 2 := by
  obtain ⟨q, s, n, us⟩ := t
  rw [wrT_node hok hg h]
  exact h
/-- What a solution tells of a run of pairs. -/
structure Cmp (σ : Sg) (θ : Int → Ty) (r : Int × Sg × Nat) : Prop where
  err : r.1 = 0 ∨ r.1 = 3
  solv : Solv r.2.1 θ
theorem bindF_complete {σ : Sg} {θ : Int → Ty} (hs : Solv σ θ) (hok : Ok σ) {n : Int} {b : Ty} {l : Nat} (h0 : 1 ≤ n) (hl : n ≤ σ.length) (hb : goodT σ.length b = true) (hb2 : b.kd = 2 → bnd σ b.num = none ∧ ¬ b.num = n) (he : θ n = apT θ b) : Cmp σ θ (bindF σ n b l) := by
  rcases bindF_cases (σ := σ) (n := n) (b := b) (l := l) with ⟨h, e⟩ | ⟨h, e⟩
  · rw [e]
    refine ⟨.inl rfl, fun m u hm hbm => ?_⟩
    by_cases hmn : n = m
    · subst hmn
      have hbm' : bnd (upd σ n b) n = some u := hbm
      rw [bnd_upd_same h0 hl] at hbm'
      injection hbm' with hbm'
      subst hbm'
      exact he
    · have hbm' : bnd (upd σ n b) m = some u := hbm
      rw [bnd_upd_ne h0 hm hmn] at hbm'
      exact hs m u hm hbm'
  · rw [e]
    refine ⟨?_, hs⟩
    rcases metT_err n (wrT σ b) 0 with h1 | h1 | h1
    · exact absurd h1 h
    · exact .inr h1
    · exfalso
      have ho := metT_occ n (wrT σ b) 0 h1
      by_cases hk : b.kd = 2
      · obtain ⟨q, s, m, us⟩ := b
        obtain rfl : q = 2 := hk
        obtain ⟨rfl, rfl, _, _⟩ := good_var hb
        rw [wrT_free (n := m) (hb2 rfl).1, occT] at ho
        have : m = n := by simpa [occL] using ho
        exact (hb2 rfl).2 this
      · have h2 := (occ_le θ n σ.length (wrT σ b) (wrT_good hok hb) ho).2 (wrT_kd hok hb hk)
        rw [he, ap_wr hs hok hb] at h2
        omega
theorem pairL_complete {f : Sg → Ty → Ty → Nat → Int × Sg × Nat} {θ : Int → Ty} (hf : ∀ (σ : Sg) (a b : Ty) (l : Nat), Solv σ θ → Ok σ → goodT σ.length a = true → goodT σ.length b = true → apT θ a = apT θ b → Cmp σ θ (f σ a b l) ∧ Fine σ l (f σ a b l)) :
    ∀ {as_ bs : List Ty} {σ : Sg} {l : Nat}, Solv σ θ → Ok σ → goodL σ.length as_ = true → goodL σ.length bs = true → as_.map (apT θ) = bs.map (apT θ) → Cmp σ θ (pairL f σ as_ bs l)
  | [], [], σ, l, hs, _, _, _, _ => by
    rw [pairL]
    · exact ⟨.inl rfl, hs⟩
    · simp
  | [], b :: bs, _, _, _, _, _, _, h => by simp at h
  | a :: as_, [], _, _, _, _, _, _, h => by simp at h
  | a :: as_, b :: bs, σ, l, hs, hok, ha, hb, h => by
    rw [goodL, Bool.and_eq_true] at ha hb
    simp only [List.map_cons, List.cons.injEq] at h
    obtain ⟨h1, h2⟩ := hf σ a b l hs hok ha.1 hb.1 h.1
    rw [pairL]
    by_cases h0 : (f σ a b l).1 = 0
    · rw [if_pos h0]
      have k := pairL_complete hf (l := (f σ a b l).2.2) h1.solv h2.ok (by rw [h2.len]; exact ha.2) (by rw [h2.len]; exact hb.2) h.2
      exact ⟨k.err, k.solv⟩
    · rw [if_neg h0]
      exact h1
theorem stepF_complete {f : Sg → Ty → Ty → Nat → Int × Sg × Nat} {θ : Int → Ty} (hf : ∀ (σ : Sg) (a b : Ty) (l : Nat), Solv σ θ → Ok σ → goodT σ.length a = true → goodT σ.length b = true → apT θ a = apT θ b → Cmp σ θ (f σ a b l) ∧ Fine σ l (f σ a b l)) {σ : Sg} {a b : Ty} {l : Nat} (hs : Solv σ θ) (hok : Ok σ) (ha : goodT σ.length a = true) (hb : goodT σ.length b = true)
    (ha2 : a.kd = 2 → bnd σ a.num = none) (hb2 : b.kd = 2 → bnd σ b.num = none) (he : apT θ a = apT θ b) : Cmp σ θ (stepF f σ a b l) := by
  obtain ⟨q1, s1, n1, us⟩ := a
  obtain ⟨q2, s2, n2, vs⟩ := b
  by_cases h1 : q1 = 2
  · subst h1
    obtain ⟨rfl, rfl, r1, r2⟩ := good_var ha
    by_cases h2 : q2 = 2 ∧ n1 = n2
    · obtain ⟨rfl, rfl⟩ := h2
      obtain ⟨rfl, rfl, _, _⟩ := good_var hb
      rw [stepF_same]
      exact ⟨.inl rfl, hs⟩
    · rw [stepF_va h2, ← bindF_R]
      rw [apT_var] at he
      exact bindF_complete hs hok r1 r2 hb (fun e => ⟨hb2 e, fun e2 => h2 ⟨e, e2.symm⟩⟩) he
  · by_cases h2 : q2 = 2
    · subst h2
      obtain ⟨rfl, rfl, r1, r2⟩ := good_var hb
      rw [stepF_vb h1, ← bindF_R]
      rw [apT_var] at he
      exact bindF_complete hs hok r1 r2 ha (fun e => absurd e h1) he.symm
    · rw [apT_node _ _ _ _ h1, apT_node _ _ _ _ h2] at he
      injection he with e1 e2 e3 e4
      subst e1 e2
      have h5 : us.length = vs.length := by have := congrArg List.length e4; simpa using this
      rw [stepF_go h1 h5]
      exact pairL_complete hf hs hok (goodT_iff.1 ha).2 (goodT_iff.1 hb).2 e4
theorem pairF_complete {θ : Int → Ty} : ∀ (k : Nat) (σ : Sg) (a b : Ty) (l : Nat), Solv σ θ → Ok σ → goodT σ.length a = true → goodT σ.length b = true → apT θ a = apT θ b → Cmp σ θ (pairF k σ a b l) := by
  intro k
  induction k with
  | zero => intro σ a b l hs _ _ _ _; rw [pairF]; exact ⟨.inr rfl, hs⟩
  | succ k ih =>
    intro σ a b l hs hok ha hb he
    rw [pairF]
    split
    · exact ⟨.inr rfl, hs⟩
    · refine stepF_complete (f := pairF k) (fun σ a b l h1 h2 h3 h4 h5 => ⟨ih σ a b l h1 h2 h3 h4 h5, pairF_fine k σ a b l h2 h3 h4⟩) hs hok (hok.hd_good ha) (hok.hd_good hb) (hok.hd_ ha).end_ (hok.hd_ hb).end_ ?_
      rw [ap_wr hs hok (hok.hd_good ha), ap_wr hs hok (hok.hd_good hb), hok.wr_hd ha, hok.wr_hd hb, ← ap_wr hs hok ha, ← ap_wr hs hok hb, he]
/-- Bindings are only added. -/
def Sub (σ σ' : Sg) : Prop := ∀ n u, 1 ≤ n → bnd σ n = some u → bnd σ' n = some u
theorem Sub.refl (σ : Sg) : Sub σ σ := fun _ _ _ h => h
theorem Sub.trans {σ σ' σ'' : Sg} (h : Sub σ σ') (k : Sub σ' σ'') : Sub σ σ'' := fun n u h0 h1 => k n u h0 (h n u h0 h1)
theorem Sub.solv {σ σ' : Sg} {θ : Int → Ty} (h : Sub σ σ') (hs : Solv σ' θ) : Solv σ θ := fun n u h0 h1 => hs n u h0 (h n u h0 h1)
theorem bindF_sub {σ : Sg} {n : Int} {b : Ty} {l : Nat} (h0 : 1 ≤ n) (hn : bnd σ n = none) : Sub σ (bindF σ n b l).2.1 := by
  rcases bindF_cases (σ := σ) (n := n) (b := b) (l := l) with ⟨h, e⟩ | ⟨h, e⟩
  · rw [e]
    intro m u hm hb
    by_cases hmn : n = m
    · subst hmn; rw [hn] at hb; cases hb
    · show bnd (upd σ n b) m = some u
      rw [bnd_upd_ne h0 hm hmn]; exact hb
  · rw [e]; exact Sub.refl _
theorem pairL_sub {f : Sg → Ty → Ty → Nat → Int × Sg × Nat} (hf : ∀ (σ : Sg) (a b : Ty) (l : Nat), Ok σ → goodT σ.length a = true → goodT σ.length b = true → Sub σ (f σ a b l).2.1 ∧ Fine σ l (f σ a b l)) :
    ∀ {as_ bs : List Ty} {σ : Sg} {l : Nat}, Ok σ → goodL σ.length as_ = true → goodL σ.length bs = true → Sub σ (pairL f σ as_ bs l).2.1
  | [], bs, σ, l, _, _, _ => by
    rw [pairL]
    · exact Sub.refl _
    · simp
  | a :: as_, [], σ, l, _, _, _ => by
    rw [pairL]
    · exact Sub.refl _
    · simp
  | a :: as_, b :: bs, σ, l, hok, ha, hb => by
    rw [goodL, Bool.and_eq_true] at ha hb
    obtain ⟨h1, h2⟩ := hf σ a b l hok ha.1 hb.1
    rw [pairL]
    by_cases h0 : (f σ a b l).1 = 0
    · rw [if_pos h0]
      exact h1.trans (pairL_sub hf (l := (f σ a b l).2.2) h2.ok (by rw [h2.len]; exact ha.2) (by rw [h2.len]; exact hb.2))
    · rw [if_neg h0]; exact h1
theorem pairF_sub : ∀ (k : Nat) (σ : Sg) (a b : Ty) (l : Nat), Ok σ → goodT σ.length a = true → goodT σ.length b = true → Sub σ (pairF k σ a b l).2.1 := by
  intro k
  induction k with
  | zero => intro σ a b l _ _ _; rw [pairF]; exact Sub.refl _
  | succ k ih =>
    intro σ a b l hok ha hb
    rw [pairF]
    split
    · exact Sub.refl _
    · have hga := hok.hd_good ha
      have hgb := hok.hd_good hb
      have hea := (hok.hd_ ha).end_
      have heb := (hok.hd_ hb).end_
      generalize hdT σ a = a1 at hga hea
      generalize hdT σ b = b1 at hgb heb
      obtain ⟨q1, s1, n1, us⟩ := a1
      obtain ⟨q2, s2, n2, vs⟩ := b1
      by_cases h1 : q1 = 2
      · subst h1
        by_cases h2 : q2 = 2 ∧ n1 = n2
        · obtain ⟨rfl, rfl⟩ := h2; rw [stepF_same]; exact Sub.refl _
        · rw [stepF_va h2, ← bindF_R]; exact bindF_sub (good_var hga).2.2.1 (hea rfl)
      · by_cases h2 : q2 = 2
        · subst h2; rw [stepF_vb h1, ← bindF_R]; exact bindF_sub (good_var hgb).2.2.1 (heb rfl)
        · by_cases h3 : ¬ q1 = q2 ∨ ¬ s1 = s2 ∨ ¬ us.length = vs.length
          · rw [stepF_no h1 h2 h3]; exact Sub.refl _
          · have h4 : q1 = q2 ∧ s1 = s2 ∧ us.length = vs.length := by
              refine ⟨?_, ?_, ?_⟩ <;> (apply Classical.byContradiction; intro hh; exact h3 (by simp [hh]))
            obtain ⟨rfl, rfl, h5⟩ := h4
            rw [stepF_go h1 h5]
            exact pairL_sub (fun σ a b l h1 h2 h3 => ⟨ih σ a b l h1 h2 h3, pairF_fine k σ a b l h1 h2 h3⟩) hok (goodT_iff.1 hga).2 (goodT_iff.1 hgb).2
/-- What is the same already binds nothing. -/
theorem pairL_again {f : Sg → Ty → Ty → Nat → Int × Sg × Nat} {σ : Sg} (hf : ∀ (a b : Ty) (l : Nat), goodT σ.length a = true → goodT σ.length b = true → wrT σ a = wrT σ b → ((f σ a b l).1 = 0 ∨ (f σ a b l).1 = 3) ∧ (f σ a b l).2.1 = σ) :
    ∀ {as_ bs : List Ty} {l : Nat}, goodL σ.length as_ = true → goodL σ.length bs = true → as_.map (wrT σ) = bs.map (wrT σ) → ((pairL f σ as_ bs l).1 = 0 ∨ (pairL f σ as_ bs l).1 = 3) ∧ (pairL f σ as_ bs l).2.1 = σ
  | [], [], l, _, _, _ => by
    rw [pairL]
    · exact ⟨.inl rfl, rfl⟩
    · simp
  | [], b :: bs, _, _, _, h => by simp at h
  | a :: as_, [], _, _, _, h => by simp at h
  | a :: as_, b :: bs, l, ha, hb, h => by
    rw [goodL, Bool.and_eq_true] at ha hb
    simp only [List.map_cons, List.cons.injEq] at h
    obtain ⟨h1, h2⟩ := hf a b l ha.1 hb.1 h.1
    rw [pairL]
    by_cases h0 : (f σ a b l).1 = 0
    · rw [if_pos h0, h2]
      exact pairL_again hf ha.2 hb.2 h.2
    · rw [if_neg h0]
      exact ⟨h1, h2⟩
theorem pairF_again {σ : Sg} (hok : Ok σ) : ∀ (k : Nat) (a b : Ty) (l : Nat), goodT σ.length a = true → goodT σ.length b = true → wrT σ a = wrT σ b → ((pairF k σ a b l).1 = 0 ∨ (pairF k σ a b l).1 = 3) ∧ (pairF k σ a b l).2.1 = σ := by
  intro k
  induction k with
  | zero => intro a b l _ _ _; rw [pairF]; exact ⟨.inr rfl, rfl⟩
  | succ k ih =>
    intro a b l ha hb he
    rw [pairF]
    split
    · exact ⟨.inr rfl, rfl⟩
    · have hga := hok.hd_good ha
      have hgb := hok.hd_good hb
      have hea := (hok.hd_ ha).end_
      have heb := (hok.hd_ hb).end_
      have hee : wrT σ (hdT σ a) = wrT σ (hdT σ b) := by rw [hok.wr_hd ha, hok.wr_hd hb, he]
      generalize hdT σ a = a1 at hga hea hee
      generalize hdT σ b = b1 at hgb heb hee
      obtain ⟨q1, s1, n1, us⟩ := a1
      obtain ⟨q2, s2, n2, vs⟩ := b1
      by_cases h1 : q1 = 2
      · subst h1
        obtain ⟨rfl, rfl, _, _⟩ := good_var hga
        rw [wrT_free (n := n1) (hea rfl)] at hee
        by_cases h2 : q2 = 2
        · subst h2
          obtain ⟨rfl, rfl, _, _⟩ := good_var hgb
          rw [wrT_free (n := n2) (heb rfl)] at hee
          injection hee with _ _ e3 _
          subst e3
          rw [stepF_same]
          exact ⟨.inl rfl, rfl⟩
        · rw [wrT_node hok hgb h2] at hee
          injection hee with e1 _ _ _
          exact absurd e1.symm h2
      · by_cases h2 : q2 = 2
        · subst h2
          obtain ⟨rfl, rfl, _, _⟩ := good_var hgb
          rw [wrT_free (n := n2) (heb rfl), wrT_node hok hga h1] at hee
          injection hee with e1 _ _ _
          exact absurd e1 h1
        · rw [wrT_node hok hga h1, wrT_node hok hgb h2] at hee
          injection hee with e1 e2 e3 e4
          subst e1 e2
          have h5 : us.length = vs.length := by have := congrArg List.length e4; simpa using this
          rw [stepF_go h1 h5]
          exact pairL_again (fun a b l h1 h2 h3 => ih a b l h1 h2 h3) (goodT_iff.1 hga).2 (goodT_iff.1 hgb).2 e4
theorem pairL_err {f : Sg → Ty → Ty → Nat → Int × Sg × Nat} (hf : ∀ (σ : Sg) (a b : Ty) (l : Nat), ¬ (f σ a b l).1 = 1) : ∀ {as_ bs : List Ty} {σ : Sg} {l : Nat}, ¬ (pairL f σ as_ bs l).1 = 1
  | [], bs, σ, l => by
    rw [pairL]
    · simp
    · simp
  | a :: as_, [], σ, l => by
    rw [pairL]
    · simp
    · simp
  | a :: as_, b :: bs, σ, l => by
    rw [pairL]
    by_cases h0 : (f σ a b l).1 = 0
    · rw [if_pos h0]; exact pairL_err hf
    · rw [if_neg h0]; exact hf σ a b l
theorem bindF_err {σ : Sg} {n : Int} {b : Ty} {l : Nat} : ¬ (bindF σ n b l).1 = 1 := by
  rcases bindF_cases (σ := σ) (n := n) (b := b) (l := l) with ⟨h, e⟩ | ⟨h, e⟩
  · rw [e]; simp
  · rw [e]
    dsimp only
    rcases metT_err n (wrT σ b) 0 with h | h | h <;> omega
theorem pairF_err : ∀ (k : Nat) (σ : Sg) (a b : Ty) (l : Nat), ¬ (pairF k σ a b l).1 = 1 := by
  intro k
  induction k with
  | zero => intro σ a b l; rw [pairF]; simp
  | succ k ih =>
    intro σ a b l
    rw [pairF]
    split
    · simp
    · unfold stepF
      split
      · simp
      split
      · exact bindF_err
      split
      · exact bindF_err
      split
      · simp
      · exact pairL_err ih
/-- Unify, in words. -/
theorem unifyF_cases (σ : Sg) (a b : Ty) : (mayT σ.length a = true ∧ mayT σ.length b = true ∧ unifyF σ a b = ((pairF 65537 σ a b 65536).1, (pairF 65537 σ a b 65536).2.1)) ∨ ((mayT σ.length a = false ∨ mayT σ.length b = false) ∧ unifyF σ a b = (1, σ)) := by
  cases h1 : mayT σ.length a with
  | false => right; exact ⟨.inl rfl, may_no (.inl h1)⟩
  | true =>
    cases h2 : mayT σ.length b with
    | false => right; exact ⟨.inr rfl, may_no (.inr h2)⟩
    | true => left; refine ⟨rfl, rfl, ?_⟩; unfold unifyF; rw [if_pos (by simp [h1, h2])]
/-- In either order. -/
theorem unifyF_sym {σ : Sg} (hok : Ok σ) (a b : Ty) : ((unifyF σ a b).1 = 1 → (unifyF σ b a).1 = 1) ∧ ((unifyF σ a b).1 = 0 → (unifyF σ b a).1 = 0 ∨ (unifyF σ b a).1 = 3) := by
  rcases unifyF_cases σ a b with ⟨h1, h2, e⟩ | ⟨h, e⟩
  · rw [e]
    refine ⟨fun h => absurd h (pairF_err _ _ _ _ _), fun h => ?_⟩
    rcases unifyF_cases σ b a with ⟨_, _, e2⟩ | ⟨h3, _⟩
    · rw [e2]
      have hga := mayT_good h1
      have hgb := mayT_good h2
      have hf := pairF_fine 65537 σ a b 65536 hok hga hgb
      have hs := (pairF_sub 65537 σ a b 65536 hok hga hgb).solv (solv_wrS hf.ok)
      refine (pairF_complete 65537 σ b a 65536 hs hok hgb hga ?_).err
      rw [ap_wrS hf.ok _ b (Nat.le_refl _) (by rw [hf.len]; exact hgb), ap_wrS hf.ok _ a (Nat.le_refl _) (by rw [hf.len]; exact hga)]
      exact ((pairF_sound 65537 σ a b 65536 hok hga hgb).eq h).symm
    · rcases h3 with h3 | h3
      · rw [h2] at h3; cases h3
      · rw [h1] at h3; cases h3
  · rw [e]
    refine ⟨fun _ => ?_, fun h => by cases h⟩
    rcases unifyF_cases σ b a with ⟨h3, h4, _⟩ | ⟨_, e2⟩
    · rcases h with h | h
      · rw [h4] at h; cases h
      · rw [h3] at h; cases h
    · rw [e2]
/-- Behind a Unify that is fine. -/
theorem unifyF_ok {σ : Sg} (hok : Ok σ) {a b : Ty} (h : (unifyF σ a b).1 = 0) : mayT σ.length a = true ∧ mayT σ.length b = true ∧ wrT (unifyF σ a b).2 a = wrT (unifyF σ a b).2 b := by
  rcases unifyF_cases σ a b with ⟨h1, h2, e⟩ | ⟨_, e⟩
  · rw [e] at h ⊢
    exact ⟨h1, h2, (pairF_sound 65537 σ a b 65536 hok (mayT_good h1) (mayT_good h2)).eq h⟩
  · rw [e] at h; cases h
theorem applyF_same {σ : Sg} {a b : Ty} (h1 : mayT σ.length a = true) (h2 : mayT σ.length b = true) (h : wrT σ a = wrT σ b) : applyF σ a = applyF σ b := by
  unfold applyF
  rw [if_pos h1, if_pos h2, h]
theorem unifyF_again {σ : Sg} (hok : Ok σ) {a b : Ty} (h : (unifyF σ a b).1 = 0) :
    applyF (unifyF σ a b).2 a = applyF (unifyF σ a b).2 b ∧ ((unifyF (unifyF σ a b).2 a b).1 = 0 ∨ (unifyF (unifyF σ a b).2 a b).1 = 3) ∧ (unifyF (unifyF σ a b).2 a b).2 = (unifyF σ a b).2 := by
  obtain ⟨h1, h2, h3⟩ := unifyF_ok hok h
  obtain ⟨hok2, hl⟩ := unifyF_fine hok a b
  generalize (unifyF σ a b).2 = τ at h3 hok2 hl
  have m1 : mayT τ.length a = true := by rw [hl]; exact h1
  have m2 : mayT τ.length b = true := by rw [hl]; exact h2
  refine ⟨applyF_same m1 m2 h3, ?_⟩
  rcases unifyF_cases τ a b with ⟨_, _, e⟩ | ⟨hh, _⟩
  · rw [e]
    exact pairF_again hok2 65537 a b 65536 (mayT_good m1) (mayT_good m2) h3
  · rcases hh with hh | hh
    · rw [m1] at hh; cases hh
    · rw [m2] at hh; cases hh
end Go.Proofs.YtnlifgcnmhakiaaDoor
