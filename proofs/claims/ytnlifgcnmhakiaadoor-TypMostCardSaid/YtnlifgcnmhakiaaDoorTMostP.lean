/-
  MOST GENERAL, BUT FOR NAMES: plain.
-/
import Derived.Test.YtnlifgcnmhakiaaDoorTSymP
import Derived.Test.YtnlifgcnmhakiaaDoorTIdemP
import Derived.Test.YtnlifgcnmhakiaaDoorTCanP
namespace Go.Proofs.YtnlifgcnmhakiaaDoor
open Go.ChangeShapes Go.WideShapes Go.ChangeAt Go.RowKit

/-- Pairs that were all made the same. -/
def RunOk : Sg → List (Ty × Ty) → Sg → Prop
  | σ, [], σ' => σ' = σ
  | σ, x :: ps, σ' => (unifyF σ x.1 x.2).1 = 0 ∧ RunOk (unifyF σ x.1 x.2).2 ps σ'
theorem unifyF_fine2 {σ : Sg} (hok : Ok σ) (a b : Ty) : Ok (unifyF σ a b).2 ∧ (unifyF σ a b).2.length = σ.length := by
  rcases unifyF_cases σ a b with ⟨h1, h2, e⟩ | ⟨_, e⟩
  · rw [e]
    unfold mayT at h1 h2
    rw [Bool.and_eq_true] at h1 h2
    have h := pairF_fine 65537 σ a b 65536 hok h1.2 h2.2
    exact ⟨h.ok, h.len⟩
  · rw [e]; exact ⟨hok, rfl⟩
theorem may_good {nv : Nat} {t : Ty} (h : mayT nv t = true) : goodT nv t = true := by
  unfold mayT at h
  rw [Bool.and_eq_true] at h
  exact h.2
theorem unifyF_ext {σ : Sg} (hok : Ok σ) (a b : Ty) : Ext σ (unifyF σ a b).2 := by
  rcases unifyF_cases σ a b with ⟨h1, h2, e⟩ | ⟨_, e⟩
  · rw [e]
    exact (pairF_sound 65537 σ a b 65536 hok (may_good h1) (may_good h2)).ext
  · rw [e]; exact Ext.refl _
theorem run_fine : ∀ {ps : List (Ty × Ty)} {σ σ' : Sg}, Ok σ → RunOk σ ps σ' → Ok σ' ∧ σ'.length = σ.length ∧ Ext σ σ'
  | [], σ, σ', hok, h => by rw [RunOk] at h; subst h; exact ⟨hok, rfl, Ext.refl _⟩
  | x :: ps, σ, σ', hok, h => by
    rw [RunOk] at h
    have h1 := unifyF_fine2 hok x.1 x.2
    have h2 := run_fine h1.1 h.2
    exact ⟨h2.1, h2.2.1.trans h1.2, (unifyF_ext hok x.1 x.2).trans h1.2 h2.2.2⟩
/-- Behind it both are the same. -/
theorem run_sound : ∀ {ps : List (Ty × Ty)} {σ σ' : Sg}, Ok σ → RunOk σ ps σ' → ∀ x ∈ ps, goodT σ.length x.1 = true ∧ goodT σ.length x.2 = true ∧ wrT σ' x.1 = wrT σ' x.2
  | [], σ, σ', _, _ => by simp
  | x :: ps, σ, σ', hok, h => by
    rw [RunOk] at h
    have h1 := unifyF_fine2 hok x.1 x.2
    obtain ⟨m1, m2, e⟩ := unifyF_ok hok h.1
    have h2 := run_fine h1.1 h.2
    intro y hy
    rcases List.mem_cons.1 hy with rfl | hy
    · exact ⟨may_good m1, may_good m2, h2.2.2 _ _ (by rw [h1.2]; exact may_good m1) (by rw [h1.2]; exact may_good m2) e⟩
    · have := run_sound h1.1 h.2 y hy
      rw [h1.2] at this
      exact this
/-- Whatever solves the pairs solves what comes of them. -/
theorem run_complete {θ : Int → Ty} : ∀ {ps : List (Ty × Ty)} {σ σ' : Sg}, Ok σ → Solv σ θ → (∀ x ∈ ps, apT θ x.1 = apT θ x.2) → RunOk σ ps σ' → Solv σ' θ
  | [], σ, σ', _, hs, _, h => by rw [RunOk] at h; subst h; exact hs
  | x :: ps, σ, σ', hok, hs, he, h => by
    rw [RunOk] at h
    have h1 := unifyF_fine2 hok x.1 x.2
    obtain ⟨m1, m2, _⟩ := unifyF_ok hok h.1
    refine run_complete h1.1 ?_ (fun y hy => he y (List.mem_cons_of_mem _ hy)) h.2
    rcases unifyF_cases σ x.1 x.2 with ⟨_, _, e⟩ | ⟨h0, _⟩
    · rw [e]
      exact (pairF_complete 65537 σ x.1 x.2 65536 hs hok (may_good m1) (may_good m2) (he x (List.mem_cons_self ..))).solv
    · rcases h0 with h0 | h0
      · rw [m1] at h0; cases h0
      · rw [m2] at h0; cases h0
def vT (n : Int) : Ty := .mk 2 ⟨#[]⟩ n []
theorem vT_good {nv : Nat} {n : Int} (h1 : 1 ≤ n) (h2 : n ≤ nv) : goodT nv (vT n) = true := goodT_iff.2 ⟨.inr (.inl ⟨rfl, rfl, h1, h2, rfl⟩), rfl⟩
/-- What one solver writes out, the other one makes of what it writes out itself. -/
theorem run_most {ps qs : List (Ty × Ty)} {σ0 σ τ : Sg} (hok : Ok σ0) (h0 : ∀ θ, Solv σ0 θ) (hσ : RunOk σ0 ps σ) (hτ : RunOk σ0 qs τ) (hpq : ∀ y ∈ qs, ∃ x ∈ ps, y = (x.2, x.1)) {n : Int} (h1 : 1 ≤ n) (h2 : n ≤ σ0.length) :
    wrT σ (vT n) = apT (wrS σ) (wrT τ (vT n)) := by
  have f1 := run_fine hok hσ
  have f2 := run_fine hok hτ
  have hs : Solv τ (wrS σ) := run_complete hok (h0 _) (fun y hy => by
    obtain ⟨x, hx, rfl⟩ := hpq y hy
    obtain ⟨g1, g2, e⟩ := run_sound hok hσ x hx
    rw [ap_wrS f1.1 _ _ (Nat.le_refl _) (by rw [f1.2.1]; exact g2), ap_wrS f1.1 _ _ (Nat.le_refl _) (by rw [f1.2.1]; exact g1)]
    exact e.symm) hτ
  have hg : goodT τ.length (vT n) = true := vT_good h1 (by rw [f2.2.1]; exact h2)
  rw [← ap_wr hs f2.1 hg]
  unfold vT
  rw [apT_var]
  rfl
mutual
def allV (V : Int → Prop) : Ty → Prop
  | .mk q _ n us => (q = 2 → V n) ∧ allVL V us
def allVL (V : Int → Prop) : List Ty → Prop
  | [] => True
  | t :: ts => allV V t ∧ allVL V ts
end
theorem vT_of {nv : Nat} {t : Ty} (h : goodT nv t = true) (hk : t.kd = 2) : t = vT t.num := by
  obtain ⟨q, s, n, us⟩ := t
  obtain rfl : q = 2 := hk
  obtain ⟨rfl, rfl, _, _⟩ := good_var h
  rfl
theorem back_all {θ θ' : Int → Ty} {nv : Nat} (hθ : ∀ n : Int, 1 ≤ n → n ≤ nv → goodT nv (θ n) = true) : ∀ (N : Nat) (t : Ty), SizeOf.sizeOf t ≤ N → goodT nv t = true → apT θ' (apT θ t) = t → allV (fun n => θ n = vT (θ n).num ∧ θ' (θ n).num = vT n) t := by
  intro N
  induction N with
  | zero => intro t ht; cases t; simp at ht
  | succ N ih =>
    intro t ht hg he
    obtain ⟨q, s, n, us⟩ := t
    by_cases hq : q = 2
    · subst hq
      obtain ⟨rfl, rfl, g1, g2⟩ := good_var hg
      rw [apT_var] at he
      rw [allV]
      refine ⟨fun _ => ?_, trivial⟩
      have hgn := hθ n g1 g2
      by_cases hk : (θ n).kd = 2
      · have e := vT_of hgn hk
        refine ⟨e, ?_⟩
        rw [e] at he
        unfold vT at he ⊢
        rw [apT_var] at he
        exact he
      · exfalso
        generalize θ n = u at he hk
        obtain ⟨q, s, m, us⟩ := u
        have hk2 : ¬ q = 2 := hk
        rw [apT_node _ _ _ _ hk2] at he
        injection he with he
        exact hk2 he
    · rw [apT_node _ _ _ _ hq, apT_node _ _ _ _ hq, List.map_map] at he
      injection he with _ _ _ he
      rw [allV]
      refine ⟨fun h => absurd h hq, ?_⟩
      have hgl := goodL_mem (goodT_iff.1 hg).2
      have hsz : ∀ t ∈ us, SizeOf.sizeOf t ≤ N := fun t hm => by have := ty_lt (k := q) (n := n) (s := s) hm; omega
      clear ht hg
      induction us with
      | nil => trivial
      | cons t ts ih2 =>
        rw [List.map_cons] at he
        injection he with e1 e2
        exact ⟨ih t (hsz t (by simp)) (hgl t (by simp)) e1, ih2 e2 (fun t h => hgl t (by simp [h])) (fun t h => hsz t (by simp [h]))⟩
/-- Keys that are numbers of such variables. -/
def KV (V : Int → Prop) (ks : List (ByteArray × Int)) : Prop := ∀ k ∈ ks, k.1 = ⟨#[]⟩ ∧ V k.2
def gK (θ : Int → Ty) (k : ByteArray × Int) : ByteArray × Int := (⟨#[]⟩, (θ k.2).num)
theorem gK_inj {θ θ' : Int → Ty} {k k' : ByteArray × Int} (h : k.1 = ⟨#[]⟩ ∧ (θ k.2 = vT (θ k.2).num ∧ θ' (θ k.2).num = vT k.2)) (h' : k'.1 = ⟨#[]⟩ ∧ (θ k'.2 = vT (θ k'.2).num ∧ θ' (θ k'.2).num = vT k'.2)) (e : gK θ k = gK θ k') : k = k' := by
  obtain ⟨s, n⟩ := k
  obtain ⟨s', n'⟩ := k'
  obtain ⟨rfl, _, h2⟩ := h
  obtain ⟨rfl, _, h2'⟩ := h'
  unfold gK at e
  injection e with _ e
  dsimp only at e h2 h2' ⊢
  rw [e] at h2
  have := h2.symm.trans h2'
  unfold vT at this
  injection this with _ _ this
  rw [this]
theorem posK_map {θ θ' : Int → Ty} {k : ByteArray × Int} (hk : k.1 = ⟨#[]⟩ ∧ (θ k.2 = vT (θ k.2).num ∧ θ' (θ k.2).num = vT k.2)) : ∀ {ks : List (ByteArray × Int)}, KV (fun n => θ n = vT (θ n).num ∧ θ' (θ n).num = vT n) ks → posK (ks.map (gK θ)) (gK θ k) = posK ks k
  | [], _ => rfl
  | x :: ks, h => by
    rw [List.map_cons, posK, posK, posK_map hk (fun y hy => h y (List.mem_cons_of_mem _ hy))]
    by_cases e : x = k
    · rw [if_pos e, if_pos (by rw [e])]
    · rw [if_neg e, if_neg (fun e2 => e (gK_inj (h x (List.mem_cons_self ..)) hk e2))]
theorem addK_map {θ θ' : Int → Ty} {k : ByteArray × Int} (hk : k.1 = ⟨#[]⟩ ∧ (θ k.2 = vT (θ k.2).num ∧ θ' (θ k.2).num = vT k.2)) {ks : List (ByteArray × Int)} (h : KV (fun n => θ n = vT (θ n).num ∧ θ' (θ n).num = vT n) ks) :
    addK (ks.map (gK θ)) (gK θ k) = (addK ks k).map (gK θ) ∧ KV (fun n => θ n = vT (θ n).num ∧ θ' (θ n).num = vT n) (addK ks k) := by
  unfold addK
  rw [posK_map hk h, List.length_map]
  split
  · exact ⟨rfl, h⟩
  · refine ⟨by rw [List.map_append]; rfl, fun y hy => ?_⟩
    rcases List.mem_append.1 hy with hy | hy
    · exact h y hy
    · rw [List.mem_singleton] at hy
      rw [hy]
      exact hk
theorem can_map {θ θ' : Int → Ty} {nv : Nat} : ∀ (N : Nat) (t : Ty), SizeOf.sizeOf t ≤ N → goodT nv t = true → allV (fun n => θ n = vT (θ n).num ∧ θ' (θ n).num = vT n) t → ∀ ks, KV (fun n => θ n = vT (θ n).num ∧ θ' (θ n).num = vT n) ks →
    canF (ks.map (gK θ)) (apT θ t) = ((canF ks t).1.map (gK θ), (canF ks t).2) ∧ KV (fun n => θ n = vT (θ n).num ∧ θ' (θ n).num = vT n) (canF ks t).1 := by
  intro N
  induction N with
  | zero => intro t ht; cases t; simp at ht
  | succ N ih =>
    intro t ht hg hv ks hks
    obtain ⟨q, s, n, us⟩ := t
    rw [allV] at hv
    by_cases hq : q = 2
    · subst hq
      obtain ⟨rfl, rfl, g1, g2⟩ := good_var hg
      have hn := hv.1 rfl
      have hk : ((⟨#[]⟩, n) : ByteArray × Int).1 = ⟨#[]⟩ ∧ (θ n = vT (θ n).num ∧ θ' (θ n).num = vT n) := ⟨rfl, hn⟩
      have ha := addK_map (k := (⟨#[]⟩, n)) hk hks
      have hp := posK_map (k := (⟨#[]⟩, n)) hk hks
      have e1 : canF ks (.mk 2 ⟨#[]⟩ n []) = (addK ks (⟨#[]⟩, n), .mk 2 (nameB (posK ks (⟨#[]⟩, n))) 0 []) := by rw [canF, if_pos rfl]; rfl
      have e2 : canF (ks.map (gK θ)) (vT (θ n).num) = (addK (ks.map (gK θ)) (gK θ (⟨#[]⟩, n)), .mk 2 (nameB (posK (ks.map (gK θ)) (gK θ (⟨#[]⟩, n)))) 0 []) := by unfold vT; rw [canF, if_pos rfl]; rfl
      rw [apT_var, hn.1, e2, e1, ha.1, hp]
      exact ⟨rfl, ha.2⟩
    · rw [apT_node _ _ _ _ hq]
      have hgl := goodL_mem (goodT_iff.1 hg).2
      have hsz : ∀ t ∈ us, SizeOf.sizeOf t ≤ N := fun t hm => by have := ty_lt (k := q) (n := n) (s := s) hm; omega
      have key : ∀ ks, KV (fun n => θ n = vT (θ n).num ∧ θ' (θ n).num = vT n) ks → canFL (ks.map (gK θ)) (us.map (apT θ)) = ((canFL ks us).1.map (gK θ), (canFL ks us).2) ∧ KV (fun n => θ n = vT (θ n).num ∧ θ' (θ n).num = vT n) (canFL ks us).1 := by
        have hvl := hv.2
        clear ht hg hv hks
        induction us with
        | nil => intro ks hks; exact ⟨by simp [canFL], by simpa [canFL] using hks⟩
        | cons t ts ih2 =>
          intro ks hks
          rw [allVL] at hvl
          have h1 := ih t (hsz t (by simp)) (hgl t (by simp)) hvl.1 ks hks
          have h2 := ih2 (fun t h => hgl t (by simp [h])) (fun t h => hsz t (by simp [h])) hvl.2 _ h1.2
          simp only [List.map_cons, canFL]
          rw [h1.1]
          dsimp only
          rw [h2.1]
          exact ⟨rfl, h2.2⟩
      have hk := key ks hks
      rw [canF, if_neg hq, canF, if_neg hq, hk.1]
      exact ⟨rfl, hk.2⟩
end Go.Proofs.YtnlifgcnmhakiaaDoor
