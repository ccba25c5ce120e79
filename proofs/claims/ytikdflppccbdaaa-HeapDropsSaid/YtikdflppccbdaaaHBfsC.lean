/-
  PLAIN: a collection's answer by the order of its objects.
-/
import Derived.Test.YtikdflppccbdaaaHBfs
namespace Go.Proofs.Ytikdflppccbdaaa
open Go.RowKit

/-- The row behind a collection. -/
def lay (f : Nat → Int) (b : Nat) (L : List Nat) : Nat → Int := fun i => if b ≤ i ∧ i < b + szs f L then (L.flatMap (img f b L)).getD (i - b) 0 else 0
/-- The heap behind a collection. -/
def colOf (h : Hp) (L : List Nat) : Hp := ⟨tab h.ws.length (lay (gw h.ws) (colB h) L), h.room, h.room - h.base, ((colB h + szs (gw h.ws) L : Nat) : Int)⟩
theorem lay_of {f to : Nat → Int} {b : Nat} {L : List Nat} (hA : At to b (L.flatMap (img f b L))) (h0 : ∀ i, i < b ∨ b + szs f L ≤ i → to i = 0) (n : Nat) : tab n to = tab n (lay f b L) := by
  have hl := imgs_length f b L L
  have : to = lay f b L := by
    funext i
    unfold lay
    by_cases hi : b ≤ i ∧ i < b + szs f L
    · rw [if_pos hi]
      have := hA (i - b) (by omega)
      rw [show b + (i - b) = i from by omega] at this
      rw [this]
      simp [List.getD, List.getElem?_eq_getElem (show i - b < (L.flatMap (img f b L)).length by omega)]
    · rw [if_neg hi]
      exact h0 i (by omega)
  rw [this]
theorem take_succ_gw {xs : List Int} {k : Nat} (h : k < xs.length) : xs.take (k + 1) = xs.take k ++ [gw xs k] := by
  rw [List.take_add_one]; simp [gw, List.getD, h]
/-- The roots. -/
theorem stR_spec (f : Nat → Int) (b : Nat) (roots : List Int) : ∀ k, k ≤ roots.length →
    SI f b (stR f ⟨fun _ => 0, b, fun _ => 0⟩ (gw roots) k) (encs [] (roots.take k)) ∧ At (stR f ⟨fun _ => 0, b, fun _ => 0⟩ (gw roots) k).to b ((encs [] (roots.take k)).flatMap (raw f)) ∧
    outR f ⟨fun _ => 0, b, fun _ => 0⟩ (gw roots) k = (roots.take k).map (tr f b (encs [] (roots.take k))) ∧
    (∀ i, i < b ∨ (stR f ⟨fun _ => 0, b, fun _ => 0⟩ (gw roots) k).top ≤ i → (stR f ⟨fun _ => 0, b, fun _ => 0⟩ (gw roots) k).to i = 0)
  | 0, _ => ⟨SI.start f b _, At.nil _ _, rfl, fun _ _ => rfl⟩
  | k + 1, hk => by
    obtain ⟨s, a, o, z⟩ := stR_spec f b roots k (by omega)
    rw [take_succ_gw (show k < roots.length by omega), encs_append]
    show SI f b (mvw f (stR f ⟨fun _ => 0, b, fun _ => 0⟩ (gw roots) k) (gw roots k)) (enc (encs [] (roots.take k)) (gw roots k)) ∧ At (mvw f (stR f ⟨fun _ => 0, b, fun _ => 0⟩ (gw roots) k) (gw roots k)).to b ((enc (encs [] (roots.take k)) (gw roots k)).flatMap (raw f)) ∧
      outR f ⟨fun _ => 0, b, fun _ => 0⟩ (gw roots) k ++ [mvv (mvw f (stR f ⟨fun _ => 0, b, fun _ => 0⟩ (gw roots) k) (gw roots k)) (gw roots k)] = (roots.take k ++ [gw roots k]).map (tr f b (enc (encs [] (roots.take k)) (gw roots k))) ∧
      (∀ i, i < b ∨ (mvw f (stR f ⟨fun _ => 0, b, fun _ => 0⟩ (gw roots) k) (gw roots k)).top ≤ i → (mvw f (stR f ⟨fun _ => 0, b, fun _ => 0⟩ (gw roots) k) (gw roots k)).to i = 0)
    obtain ⟨r, e, t1, t2, t3⟩ := mvw_to s (gw roots k)
    have s' := s.step (gw roots k)
    refine ⟨s', ?_, ?_, ?_⟩
    · rw [e, List.flatMap_append]
      refine At.append (At.congr a fun i h1 h2 => t2 i (by rw [raws_length] at h2; rw [s.top]; exact h2)) ?_
      rw [raws_length, ← s.top]
      exact t1
    · rw [o, List.map_append, s'.val (fun h => enc_in h)]
      congr 1
      apply List.map_congr_left
      intro x hx
      rw [e]
      exact (tr_append fun hp => encs_in hx hp).symm
    · intro i hi
      rcases hi with hi | hi
      · rw [t2 i (by rw [s.top]; omega)]; exact z i (.inl hi)
      · rw [t3 i hi]
        refine z i (.inr ?_)
        have h1 := s.top
        have h2 := s'.top
        rw [e, szs_append] at h2
        omega

theorem HG.words {f : Nat → Int} {n : Nat} {sts : List Nat} {b lim : Nat} (h : HG f n sts b lim) : ∀ p ∈ sts, ∀ x ∈ oth f p, PlOk x → plN x ∈ sts := by
  intro p hp x hx hpl
  obtain ⟨j, hj, rfl⟩ := oth_mem.1 hx
  rcases wordB_pl (h.body p hp (p + 1 + j) (by omega) (by omega)) with ⟨h1, _⟩ | ⟨_, _, _, h2⟩
  · exact absurd hpl h1
  · exact h2
theorem HG.bound {f : Nat → Int} {n : Nat} {sts : List Nat} {b lim : Nat} (h : HG f n sts b lim) (l : List Nat) (hn : l.Nodup) (hs : ∀ p ∈ l, p ∈ sts) : b + szs f l ≤ lim := by
  have := szs_le f l sts hn hs
  have := h.size
  omega
theorem RootsOk.words {n : Nat} {sts : List Nat} {roots : List Int} (h : RootsOk n sts (gw roots) roots.length) : ∀ x ∈ roots, PlOk x → plN x ∈ sts := by
  intro x hx hpl
  obtain ⟨i, hi, rfl⟩ := List.getElem_of_mem hx
  have := h i hi
  rw [← gw_get hi] at this
  rcases wordB_pl this with ⟨h1, _⟩ | ⟨_, _, _, h2⟩
  · exact absurd hpl h1
  · exact h2
/-- A collection's answer. -/
theorem col_bfs {h : Hp} {roots : List Int} (hg : GoodP h roots) {sts : List Nat} (hst : stl (gw h.ws) h.top.toNat h.base.toNat = some sts) :
    ∃ L, Bfs (gw h.ws) (encs [] roots) 0 L ∧ L.Nodup ∧ (∀ p ∈ L, p ∈ sts) ∧ colB h + szs (gw h.ws) L ≤ colB h + h.room.toNat ∧ collectP h roots = (colOf h L, roots.map (tr (gw h.ws) (colB h) L), 0) := by
  obtain ⟨hG, hR⟩ := hg_of_good hg hst
  obtain ⟨s, a, o, z⟩ := stR_spec (gw h.ws) (colB h) roots roots.length (Nat.le_refl _)
  rw [List.take_length] at s a o
  obtain ⟨L, k1, k2, k3, k4, k5, k6⟩ := scan_spec hG.words hG.bound h.room.toNat _ (encs [] roots) 0 (colB h) s (encs_sub roots (by simp) hR.words) (by simp [szs_nil]) (Nat.zero_le _) (by simpa using a) (Nat.le_refl _)
  refine ⟨L, k1, k2.nd, k3, hG.bound L k2.nd k3, ?_⟩
  have hcs : colS h roots = scan (gw h.ws) h.room.toNat (stR (gw h.ws) ⟨fun _ => 0, colB h, fun _ => 0⟩ (gw roots) roots.length) (colB h) := rfl
  rw [← hcs] at k2 k4 k5 k6
  unfold collectP colOf
  rw [if_pos hg, o, k2.top]
  rw [List.drop_zero] at k4
  obtain ⟨r, hr⟩ := k1.ext
  have e1 : roots.map (tr (gw h.ws) (colB h) (encs [] roots)) = roots.map (tr (gw h.ws) (colB h) L) := by
    apply List.map_congr_left
    intro x hx
    rw [hr]
    exact (tr_append fun hp => encs_in hx hp).symm
  rw [e1, lay_of k4 ?_]
  intro i hi
  rcases hi with hi | hi
  · rw [k5 i hi]; exact z i (.inl hi)
  · rw [← k2.top] at hi
    rw [k6 i hi]
    refine z i (.inr ?_)
    have h1 := s.top
    have h2 := k2.top
    rw [hr, szs_append] at h2
    have h3 : (stR (gw h.ws) ⟨fun _ => 0, colB h, fun _ => 0⟩ (gw roots) roots.length).top = colB h + szs (gw h.ws) (encs [] roots) := h1
    omega

/-- Where two heaps tell the same of the objects that are come to, the order is the same. -/
theorem bfsO_congr {f f' : Nat → Int} {sts : List Nat} (hw : ∀ p ∈ sts, ∀ x ∈ oth f p, PlOk x → plN x ∈ sts) (he : ∀ p ∈ sts, oth f' p = oth f p) : ∀ (g : Nat) {l L : List Nat} {i : Nat}, (∀ p ∈ l, p ∈ sts) → bfsO f g l i = some L → bfsO f' g l i = some L
  | 0, l, L, i, _, h => h
  | g + 1, l, L, i, hl, h => by
    unfold bfsO at h ⊢
    by_cases hi : i < l.length
    · rw [if_pos hi] at h ⊢
      have hp : l.getD i 0 ∈ sts := hl _ (by simp [List.getD, hi])
      rw [he _ hp]
      exact bfsO_congr hw he g (encs_sub _ hl (hw _ hp)) h
    · rw [if_neg hi] at h ⊢; exact h
theorem Bfs.congr {f f' : Nat → Int} {sts l L : List Nat} {i : Nat} (hw : ∀ p ∈ sts, ∀ x ∈ oth f p, PlOk x → plN x ∈ sts) (he : ∀ p ∈ sts, oth f' p = oth f p) (hl : ∀ p ∈ l, p ∈ sts) (h : Bfs f l i L) : Bfs f' l i L := ⟨_, bfsO_congr hw he _ hl h.choose_spec⟩
theorem szs_congr {f f' : Nat → Int} : ∀ {L : List Nat}, (∀ p ∈ L, f' p = f p) → szs f' L = szs f L
  | [], _ => rfl
  | p :: L, h => by rw [szs_cons, szs_cons, h p (by simp), szs_congr fun q hq => h q (by simp [hq])]
theorem posL_congr {f f' : Nat → Int} {p : Nat} : ∀ {L : List Nat} {b : Nat}, (∀ q ∈ L, f' q = f q) → posL f' b L p = posL f b L p
  | [], _, _ => rfl
  | q :: L, b, h => by
    show (if q = p then b else _) = if q = p then b else _
    rw [h q (by simp), posL_congr fun r hr => h r (by simp [hr])]
theorem tr_congr {f f' : Nat → Int} {b : Nat} {L : List Nat} (h : ∀ q ∈ L, f' q = f q) : tr f' b L = tr f b L := by
  funext x
  unfold tr
  rw [posL_congr h]
theorem lay_congr {f f' : Nat → Int} {b : Nat} {L : List Nat} (h : ∀ q ∈ L, f' q = f q) (ho : ∀ q ∈ L, oth f' q = oth f q) : lay f' b L = lay f b L := by
  have hi : L.flatMap (img f' b L) = L.flatMap (img f b L) := by
    simp only [List.flatMap_def]
    congr 1
    apply List.map_congr_left
    intro p hp
    unfold img
    rw [h p hp, ho p hp, tr_congr h]
  unfold lay
  rw [szs_congr h, hi]
end Go.Proofs.Ytikdflppccbdaaa
