/-
  PLAIN: what is written out is written out as itself.
-/
import Derived.Test.YtnlifgcnmhakiaaDoorTApply
namespace Go.Proofs.YtnlifgcnmhakiaaDoor
open Go.RowKit

theorem wrL_length {f : Ty → Option Ty} : ∀ {ts us : List Ty}, wrL f ts = some us → us.length = ts.length
  | [], us, h => by rw [wrL] at h; injection h with h; subst h; rfl
  | t :: ts, us, h => by
    obtain ⟨u, vs, rfl, _, h2⟩ := wrL_cons h
    simp [wrL_length h2]
/-- What is written out is good, and stays. -/
theorem wrF_out {σ : Sg} (hok : Ok σ) : ∀ {k : Nat} {t u : Ty}, goodT σ.length t = true → wrF σ k t = some u → goodT σ.length u = true ∧ wrF σ k u = some u := by
  intro k
  induction k with
  | zero => intro t u _ h; cases h
  | succ k ih =>
    intro t u hg h
    obtain ⟨q, s, n, us⟩ := t
    by_cases hq : q = 2
    · subst hq
      cases hb : bnd σ n with
      | none =>
        rw [wrF_free hb] at h
        injection h with h
        subst h
        exact ⟨hg, wrF_free hb⟩
      | some w =>
        rw [wrF_bound hb] at h
        obtain ⟨h1, h2⟩ := ih (hok.good _ _ (good_var hg).2.2.1 hb) h
        exact ⟨h1, wrF_mono h2⟩
    · rw [wrF_node hq] at h
      cases h2 : wrL (wrF σ k) us with
      | none => rw [h2] at h; cases h
      | some vs =>
        rw [h2] at h
        injection h with h
        subst h
        have hgt := goodT_iff.1 hg
        have key : ∀ (us vs : List Ty), goodL σ.length us = true → wrL (wrF σ k) us = some vs → goodL σ.length vs = true ∧ wrL (wrF σ k) vs = some vs := by
          intro us
          induction us with
          | nil => intro vs _ h; rw [wrL] at h; injection h with h; subst h; exact ⟨rfl, rfl⟩
          | cons t ts ihl =>
            intro vs hg h
            obtain ⟨u, us', rfl, h3, h4⟩ := wrL_cons h
            rw [goodL, Bool.and_eq_true] at hg
            obtain ⟨a1, a2⟩ := ih hg.1 h3
            obtain ⟨b1, b2⟩ := ihl _ hg.2 h4
            exact ⟨by rw [goodL, a1, b1]; rfl, wrL_cons_mk a2 b2⟩
        obtain ⟨h3, h4⟩ := key us vs hgt.2 h2
        refine ⟨goodT_iff.2 ⟨by rw [wrL_length h2]; exact hgt.1, h3⟩, ?_⟩
        rw [wrF_node hq, h4]
        rfl
theorem wrT_good {σ : Sg} (hok : Ok σ) {t : Ty} (hg : goodT σ.length t = true) : goodT σ.length (wrT σ t) = true := by
  obtain ⟨k, hk⟩ := hok.wr_ hg
  exact (wrF_out hok hg hk).1
theorem wrT_idem {σ : Sg} (hok : Ok σ) {t : Ty} (hg : goodT σ.length t = true) : wrT σ (wrT σ t) = wrT σ t := by
  obtain ⟨k, hk⟩ := hok.wr_ hg
  exact wr_eq ⟨k, (wrF_out hok hg hk).2⟩
theorem applyF_out {σ : Sg} {t : Ty} (h : (applyF σ t).2 = 0) : mayT σ.length t = true ∧ (metT 0 (wrT σ t) 0).2 = 0 ∧ applyF σ t = (wrT σ t, 0) := by
  cases h1 : mayT σ.length t with
  | false => rw [applyF_no h1] at h; simp at h
  | true =>
    by_cases h2 : (metT 0 (wrT σ t) 0).2 = 0
    · exact ⟨rfl, h2, applyF_yes h1 h2⟩
    · rw [applyF_many h1 h2] at h; simp at h
/-- Apply, twice. -/
theorem applyF_idem {σ : Sg} (hok : Ok σ) {t : Ty} (h : (applyF σ t).2 = 0) : applyF σ (applyF σ t).1 = ((applyF σ t).1, 0) ∧ sizeT t ≤ sizeT (applyF σ t).1 ∧ nodes (applyF σ t).1 ≤ 1024 := by
  obtain ⟨h1, h2, h3⟩ := applyF_out h
  have hg := mayT_good h1
  rw [h3]
  have hn := (metT_ok 0 (wrT σ t) 0 (by omega) h2).2.1
  have hm : mayT σ.length (wrT σ t) = true := by unfold mayT sizeT; rw [wrT_good hok hg]; simp; omega
  refine ⟨?_, ?_, by simpa using hn⟩
  · rw [applyF_yes hm (by rw [wrT_idem hok hg]; exact h2), wrT_idem hok hg]
  · have := Wr.nodes hg (hok.wr_ hg)
    unfold sizeT
    dsimp only
    omega
theorem applyF_err {σ : Sg} {t : Ty} (h : ¬ (applyF σ t).2 = 0) : (applyF σ t).1 = zeroT ∧ ((applyF σ t).2 = 1 ∨ (applyF σ t).2 = 3) := by
  cases h1 : mayT σ.length t with
  | false => rw [applyF_no h1]; exact ⟨rfl, .inl rfl⟩
  | true =>
    by_cases h2 : (metT 0 (wrT σ t) 0).2 = 0
    · exact absurd (by rw [applyF_yes h1 h2]) h
    · rw [applyF_many h1 h2]; exact ⟨rfl, .inr rfl⟩
end Go.Proofs.YtnlifgcnmhakiaaDoor
