/-
  MOST GENERAL, BUT FOR NAMES: what both solvers write out has one canonical form.
-/
import Derived.Test.YtnlifgcnmhakiaaDoorTMostP
import Derived.Test.YtnlifgcnmhakiaaDoorTOf4
namespace Go.Proofs.YtnlifgcnmhakiaaDoor
open Go.ChangeShapes Go.WideShapes Go.ChangeAt Go.RowKit

theorem bnd_none (k : Nat) (n : Int) : bnd (List.replicate k none) n = none := by
  unfold bnd
  rw [List.getElem?_replicate]
  split <;> rfl
theorem solv_none (k : Nat) (θ : Int → Ty) : Solv (List.replicate k none) θ := fun n u _ h => by rw [bnd_none] at h; cases h
/-- Two runs over the same pairs, the one with each pair turned round. -/
structure Mo (k : Nat) (ps qs : List (Ty × Ty)) (σ τ : Sg) : Prop where
  rs : RunOk (List.replicate k none) ps σ
  rt : RunOk (List.replicate k none) qs τ
  pq : ∀ y ∈ qs, ∃ x ∈ ps, y = (x.2, x.1)
  qp : ∀ x ∈ ps, ∃ y ∈ qs, x = (y.2, y.1)
theorem Mo.symm {k : Nat} {ps qs : List (Ty × Ty)} {σ τ : Sg} (h : Mo k ps qs σ τ) : Mo k qs ps τ σ := ⟨h.rt, h.rs, h.qp, h.pq⟩
section
variable {k : Nat} {ps qs : List (Ty × Ty)} {σ τ : Sg}
theorem Mo.okS (h : Mo k ps qs σ τ) : Ok σ ∧ σ.length = k := by
  have := run_fine (Ok.none_ k) h.rs
  exact ⟨this.1, by rw [this.2.1]; simp⟩
theorem Mo.most (h : Mo k ps qs σ τ) {n : Int} (h1 : 1 ≤ n) (h2 : n ≤ k) : wrT σ (vT n) = apT (wrS σ) (wrT τ (vT n)) :=
  run_most (Ok.none_ k) (solv_none k) h.rs h.rt h.pq h1 (by simpa using h2)
theorem Mo.good (h : Mo k ps qs σ τ) : ∀ n : Int, 1 ≤ n → n ≤ k → goodT k (wrS σ n) = true := by
  intro n h1 h2
  have ho := h.okS
  have := wrT_good ho.1 (t := vT n) (vT_good h1 (by rw [ho.2]; exact h2))
  rw [ho.2] at this
  exact this
/-- A type that is written out of the one, and back. -/
theorem Mo.can (h : Mo k ps qs σ τ) {t : Ty} (hg : goodT k t = true) (he : apT (wrS σ) (apT (wrS τ) t) = t) : (canF [] (apT (wrS τ) t)).2 = (canF [] t).2 ∧ nodes (apT (wrS τ) t) = nodes t := by
  have hv := back_all (θ := wrS τ) (θ' := wrS σ) (nv := k) h.symm.good _ t (Nat.le_refl _) hg he
  have hc := (can_map (θ := wrS τ) (θ' := wrS σ) (nv := k) _ t (Nat.le_refl _) hg hv [] (fun x hx => by cases hx)).1
  have e : (canF [] (apT (wrS τ) t)).2 = (canF [] t).2 := by
    rw [List.map_nil] at hc
    rw [hc]
  refine ⟨e, ?_⟩
  have n1 := canF_nodes _ (apT (wrS τ) t) (Nat.le_refl _) []
  have n2 := canF_nodes _ t (Nat.le_refl _) []
  rw [← n1, e, n2]
end
/-- What is written out of variables 1 to n. -/
noncomputable def mostL (σ : Sg) (n : Nat) : List Ty := (List.range n).map (fun (i : Nat) => wrT σ (vT ((i : Int) + 1)))
theorem mostL_length (σ : Sg) (n : Nat) : (mostL σ n).length = n := by simp [mostL]
theorem mostL_succ (σ : Sg) (n : Nat) : mostL σ (n + 1) = mostL σ n ++ [wrT σ (vT ((n : Int) + 1))] := by simp [mostL, List.range_succ]
def allT (s : ByteArray) (ts : List Ty) : Ty := .mk 4 s 0 ts
section
variable {k : Nat} {ps qs : List (Ty × Ty)} {σ τ : Sg}
theorem Mo.list (h : Mo k ps qs σ τ) : ∀ n, n ≤ k → (mostL σ n).map (apT (wrS τ)) = mostL τ n
  | 0, _ => rfl
  | n + 1, hn => by
    rw [mostL_succ, mostL_succ, List.map_append, Mo.list h n (by omega)]
    rw [h.symm.most (n := (n : Int) + 1) (by omega) (by omega)]
    rfl
theorem goodL_of {nv : Nat} : ∀ {ts : List Ty}, (∀ t ∈ ts, goodT nv t = true) → goodL nv ts = true
  | [], _ => rfl
  | t :: ts, h => by rw [goodL, h t (List.mem_cons_self ..), goodL_of (fun u hu => h u (List.mem_cons_of_mem _ hu))]; rfl
theorem Mo.canon (h : Mo k ps qs σ τ) (s : ByteArray) (hs : s ≠ ⟨#[]⟩) {n : Nat} (hn : n ≤ k) : canonF (allT s (mostL σ n)) = canonF (allT s (mostL τ n)) := by
  have e1 : apT (wrS τ) (allT s (mostL σ n)) = allT s (mostL τ n) := by
    unfold allT
    rw [apT_node _ _ _ _ (by decide), h.list n hn]
  have e2 : apT (wrS σ) (allT s (mostL τ n)) = allT s (mostL σ n) := by
    unfold allT
    rw [apT_node _ _ _ _ (by decide), h.symm.list n hn]
  have hg : goodT k (allT s (mostL σ n)) = true := by
    refine goodT_iff.2 ⟨.inr (.inr (.inr ⟨rfl, hs, rfl⟩)), goodL_of (fun t ht => ?_)⟩
    obtain ⟨i, hi, rfl⟩ := List.mem_map.1 ht
    have hi := List.mem_range.1 hi
    exact h.good _ (by omega) (by omega)
  obtain ⟨c1, c2⟩ := h.can hg (by rw [e1, e2])
  rw [e1] at c1 c2
  unfold canonF
  rw [c2, c1]
end
mutual
/-- No variable is number 0: what met says is the count's alone. -/
theorem met_zero {nv : Nat} : ∀ (t : Ty) (c : Nat), c ≤ 1024 → goodT nv t = true → ((metT 0 t c).2 = 0 ↔ c + nodes t ≤ 1024)
  | .mk q s n us, c, hc, hg => by
    rw [metT, nodes]
    by_cases h1 : c = 1024
    · rw [if_pos h1]
      simp
      omega
    · rw [if_neg h1]
      have h2 : ¬ (q = 2 ∧ n = 0) := by
        rintro ⟨rfl, rfl⟩
        have := (good_var hg).2.2.1
        omega
      rw [if_neg h2, met_zeroL us (c + 1) (by omega) (goodT_iff.1 hg).2]
      omega
theorem met_zeroL {nv : Nat} : ∀ (ts : List Ty) (c : Nat), c ≤ 1024 → goodL nv ts = true → ((metL 0 ts c).2 = 0 ↔ c + nodesL ts ≤ 1024)
  | [], c, hc, _ => by rw [metL, nodesL]; simpa using hc
  | t :: ts, c, hc, hg => by
    rw [goodL, Bool.and_eq_true] at hg
    have h0 := met_zero t c hc hg.1
    rw [metL, nodesL]
    by_cases h1 : (metT 0 t c).2 = 0
    · rw [if_pos h1]
      have h2 := metT_ok 0 t c hc h1
      rw [h2.1, met_zeroL ts _ h2.2.1 hg.2]
      omega
    · rw [if_neg h1]
      have h9 := fun h9 => h1 (h0.2 h9)
      constructor
      · intro h; exact absurd h h1
      · intro h; omega
end
theorem may_var {nv : Nat} {n : Int} (h1 : 1 ≤ n) (h2 : n ≤ nv) : mayT nv (vT n) = true := by
  unfold mayT
  rw [vT_good h1 h2]
  have : sizeT (vT n) ≤ 1024 := by unfold sizeT vT; rw [nodes, nodesL]; omega
  simp [this]
section
variable {k : Nat} {ps qs : List (Ty × Ty)} {σ τ : Sg}
theorem Mo.code1 (h : Mo k ps qs σ τ) {n : Int} (h1 : 1 ≤ n) (h2 : n ≤ k) : applyF σ (vT n) = if nodes (wrT σ (vT n)) ≤ 1024 then (wrT σ (vT n), 0) else (zeroT, 3) := by
  have ho := h.okS
  have hm := may_var (nv := σ.length) h1 (by rw [ho.2]; exact h2)
  have hz := met_zero (nv := k) (wrT σ (vT n)) 0 (by omega) (h.good n h1 h2)
  by_cases h3 : nodes (wrT σ (vT n)) ≤ 1024
  · rw [if_pos h3]
    exact applyF_yes hm (hz.2 (by omega))
  · rw [if_neg h3]
    exact applyF_many hm (fun e => h3 (by have := hz.1 e; omega))
theorem Mo.nodes_eq (h : Mo k ps qs σ τ) {n : Int} (h1 : 1 ≤ n) (h2 : n ≤ k) : nodes (wrT τ (vT n)) = nodes (wrT σ (vT n)) := by
  have e1 := h.most h1 h2
  have e2 := h.symm.most h1 h2
  have := (h.can (h.good n h1 h2) (t := wrT σ (vT n)) (by rw [← e2, ← e1])).2
  rw [← e2] at this
  exact this
end
theorem run_snoc : ∀ {ps : List (Ty × Ty)} {σ σ' : Sg} {x : Ty × Ty}, RunOk σ ps σ' → (unifyF σ' x.1 x.2).1 = 0 → RunOk σ (ps ++ [x]) (unifyF σ' x.1 x.2).2
  | [], σ, σ', x, h, h0 => by
    rw [RunOk] at h
    subst h
    exact ⟨h0, rfl⟩
  | y :: ps, σ, σ', x, h, h0 => by
    rw [RunOk] at h
    exact ⟨h.1, run_snoc h.2 h0⟩
/-- The pairs from behind, each turned round. -/
def turnd (ps : List (Ty × Ty)) : List (Ty × Ty) := (ps.map (fun x => (x.2, x.1))).reverse
theorem turnd_length (ps : List (Ty × Ty)) : (turnd ps).length = ps.length := by simp [turnd]
theorem turnd_at {ps : List (Ty × Ty)} {i : Nat} (h : i < ps.length) : (turnd ps)[i]? = some ((ps[ps.length - 1 - i]'(by omega)).2, (ps[ps.length - 1 - i]'(by omega)).1) := by
  unfold turnd
  rw [List.getElem?_reverse (by simpa using h), List.length_map, List.getElem?_map, List.getElem?_eq_getElem (by omega)]
  rfl
theorem turnd_mem {ps : List (Ty × Ty)} : ∀ y ∈ turnd ps, ∃ x ∈ ps, y = (x.2, x.1) := by
  intro y hy
  unfold turnd at hy
  rw [List.mem_reverse, List.mem_map] at hy
  obtain ⟨x, hx, rfl⟩ := hy
  exact ⟨x, hx, rfl⟩
theorem mem_turnd {ps : List (Ty × Ty)} : ∀ x ∈ ps, ∃ y ∈ turnd ps, x = (y.2, y.1) := by
  intro x hx
  exact ⟨(x.2, x.1), by unfold turnd; rw [List.mem_reverse, List.mem_map]; exact ⟨x, hx, rfl⟩, rfl⟩
/-- So many steps of both. -/
structure Rn (k : Nat) (ps : List (Ty × Ty)) (i : Nat) (σ τ : Sg) : Prop where
  rs : RunOk (List.replicate k none) (ps.take i) σ
  rt : RunOk (List.replicate k none) ((turnd ps).take i) τ
theorem Rn.start (k : Nat) (ps : List (Ty × Ty)) : Rn k ps 0 (List.replicate k none) (List.replicate k none) := ⟨rfl, rfl⟩
theorem Rn.step {k : Nat} {ps : List (Ty × Ty)} {i : Nat} {σ τ : Sg} (h : Rn k ps i σ τ) (hi : i < ps.length) (h1 : (unifyF σ (ps[i]).1 (ps[i]).2).1 = 0)
    (h2 : (unifyF τ ((ps[ps.length - 1 - i]'(by omega)).2) ((ps[ps.length - 1 - i]'(by omega)).1)).1 = 0) : Rn k ps (i + 1) (unifyF σ (ps[i]).1 (ps[i]).2).2 (unifyF τ ((ps[ps.length - 1 - i]'(by omega)).2) ((ps[ps.length - 1 - i]'(by omega)).1)).2 := by
  refine ⟨?_, ?_⟩
  · rw [List.take_add_one, List.getElem?_eq_getElem hi]
    exact run_snoc h.rs h1
  · rw [List.take_add_one, turnd_at hi]
    exact run_snoc h.rt h2
theorem Rn.mo {k : Nat} {ps : List (Ty × Ty)} {σ τ : Sg} (h : Rn k ps ps.length σ τ) : Mo k ps (turnd ps) σ τ :=
  ⟨by have := h.rs; rwa [List.take_length] at this, by have := h.rt; rwa [← turnd_length ps, List.take_length] at this, turnd_mem, mem_turnd⟩
end Go.Proofs.YtnlifgcnmhakiaaDoor
