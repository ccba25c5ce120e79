/-
  PLAIN: an object that is made: what is shown is as it was; how much its pointer reaches.
-/
import Derived.Test.YtikdflppccbdaaaHShapeP
namespace Go.Proofs.Ytikdflppccbdaaa
open Go.RowKit

theorem shapeL_congr {f f' : Nat → Int} {L : List Nat} {roots : List Int} (h : ∀ q ∈ L, f' q = f q) (ho : ∀ q ∈ L, oth f' q = oth f q) : shapeL f' L roots = shapeL f L roots := by
  unfold shapeL
  congr 1
  simp only [List.flatMap_def]
  congr 1
  apply List.map_congr_left
  intro p hp
  rw [h p hp, ho p hp]
theorem grow_shape {h a : Hp} {tag p : Int} {words roots : List Int} (e : allocP h tag words = (a, p, 0)) (hg : GoodP h roots) : shapeP a roots = shapeP h roots := by
  obtain ⟨k, sts, m, _⟩ := more_of_alloc e
  have hga := m.goodP (alloc_room e m) hg
  obtain ⟨L, sts1, s1, b1, _, u1, _, _⟩ := bfs_facts hg
  have s2 : stl (gw h.ws) h.top.toNat h.base.toNat = some sts := by rw [m.top, Int.toNat_natCast]; exact m.st
  obtain rfl : sts = sts1 := by rw [s2] at s1; injection s1
  obtain ⟨hG, hR⟩ := hg_of_good hg s2
  have b3 := b1.congr (f' := gw a.ws) hG.words m.oth_old (encs_sub roots (by simp) hR.words)
  rw [shapeP_yes hga b3, shapeP_yes hg b1]
  exact shapeL_congr (fun q hq => m.same q (u1 q hq)) (fun q hq => m.oth_old q (u1 q hq))
theorem enc_front {k : Nat} {l : List Nat} {x : Int} (h : PlOk x → plN x ≠ k) : enc (k :: l) x = k :: enc l x := by
  unfold enc
  by_cases hx : PlOk x ∧ plN x ∉ l
  · rw [if_pos hx, if_pos ⟨hx.1, by simp [hx.2, h hx.1]⟩]; rfl
  · rw [if_neg hx, if_neg]
    rintro ⟨h1, h2⟩
    exact hx ⟨h1, fun h3 => h2 (by simp [h3])⟩
theorem encs_front {k : Nat} : ∀ {xs : List Int} {l : List Nat}, (∀ x ∈ xs, PlOk x → plN x ≠ k) → encs (k :: l) xs = k :: encs l xs
  | [], _, _ => rfl
  | x :: xs, l, h => by
    rw [encs_cons, encs_cons, enc_front (h x (by simp)), encs_front fun y hy => h y (by simp [hy])]
theorem bfsO_front {f : Nat → Int} {k : Nat} {sts : List Nat} (hk : k ∉ sts) (hw : ∀ p ∈ sts, ∀ x ∈ oth f p, PlOk x → plN x ∈ sts) : ∀ (g : Nat) {l L : List Nat} {i : Nat}, (∀ p ∈ l, p ∈ sts) → bfsO f g l i = some L → bfsO f g (k :: l) (i + 1) = some (k :: L)
  | 0, l, L, i, _, h => by
    unfold bfsO at h ⊢
    by_cases hi : i < l.length
    · rw [if_pos hi] at h; cases h
    · rw [if_neg hi] at h
      rw [if_neg (by simp; omega)]
      injection h with h; rw [h]
  | g + 1, l, L, i, hl, h => by
    unfold bfsO at h ⊢
    by_cases hi : i < l.length
    · rw [if_pos hi] at h
      rw [if_pos (by simp; omega)]
      have hp : l.getD i 0 ∈ sts := hl _ (by simp [List.getD, hi])
      have e : (k :: l).getD (i + 1) 0 = l.getD i 0 := by simp [List.getD]
      rw [e, encs_front (fun x hx hpl e9 => hk (by rw [← e9]; exact hw _ hp x hx hpl))]
      exact bfsO_front hk hw g (encs_sub _ hl (hw _ hp)) h
    · rw [if_neg hi] at h
      rw [if_neg (by simp; omega)]
      injection h with h; rw [h]
/-- The pointer of an object that is made reaches it, and what its words reach. -/
theorem grow_live {h a : Hp} {tag p : Int} {words : List Int} (e : allocP h tag words = (a, p, 0)) : GoodP h words ∧ GoodP a [p] ∧ (collectP a [p]).1.top - (collectP a [p]).1.base = (collectP h words).1.top - (collectP h words).1.base + 1 + words.length := by
  obtain ⟨k, sts, m, rfl⟩ := more_of_alloc e
  have hr := alloc_room e m
  have hgw := m.good
  have s2 : stl (gw h.ws) h.top.toNat h.base.toNat = some sts := by rw [m.top, Int.toNat_natCast]; exact m.st
  have hsh := hgw.1
  unfold ShapedP at hsh
  have htop := m.top
  have hkn : k < 262144 := by omega
  have hpl : PlOk (1024 + 4 * (k : Int)) := by unfold PlOk; omega
  have hpn : plN (1024 + 4 * (k : Int)) = k := by unfold plN; omega
  have hks : k ∉ sts := fun hk => by have := (m.objs k hk).2; omega
  have hga : GoodP a [1024 + 4 * (k : Int)] := by
    obtain ⟨_, _, s, q1, q2, _⟩ := m.goodP hr hgw
    have : a.top.toNat = k + words.length + 1 := by rw [m.atop, Int.toNat_natCast]
    have e1 := q1
    rw [this, m.base, m.st'] at e1
    injection e1 with e1
    subst e1
    refine ⟨m.shaped hr, by simp, _, q1, q2, ?_⟩
    intro i hi
    obtain rfl : i = 0 := by simpa using hi
    show wordB _ _ (1024 + 4 * (k : Int)) = true
    unfold wordB
    have hlt : k < a.ws.length := by rw [m.len]; have := m.fits; omega
    simp [hpl, hpn, hlt]
  refine ⟨hgw, hga, ?_⟩
  obtain ⟨L, sts1, s1, b1, _, u1, _, _⟩ := bfs_facts hgw
  obtain rfl : sts = sts1 := by rw [s2] at s1; injection s1
  obtain ⟨hG, hR⟩ := hg_of_good hgw s2
  have b3 := b1.congr (f' := gw a.ws) hG.words m.oth_old (encs_sub words (by simp) hR.words)
  have hwa : ∀ p ∈ sts, ∀ x ∈ oth (gw a.ws) p, PlOk x → plN x ∈ sts := fun p hp x hx => by rw [m.oth_old p hp] at hx; exact hG.words p hp x hx
  have hsub := encs_sub words (l := []) (by simp) hR.words
  have b4 : Bfs (gw a.ws) (k :: encs [] words) 1 (k :: L) := by
    obtain ⟨g, hg⟩ := b3
    exact ⟨g, bfsO_front hks hwa g hsub hg⟩
  have hek : encs [k] words = k :: encs [] words := encs_front fun x hx hpx e9 => hks (by rw [← e9]; exact hR.words x hx hpx)
  have b5 : Bfs (gw a.ws) (encs [] [1024 + 4 * (k : Int)]) 0 (k :: L) := by
    have e0 : encs [] [1024 + 4 * (k : Int)] = [k] := by
      show enc [] _ = _
      rw [enc_new ⟨hpl, by simp⟩, hpn]; rfl
    rw [e0]
    refine Bfs.step (by simp) ?_
    show Bfs (gw a.ws) (encs [k] (oth (gw a.ws) k)) 1 (k :: L)
    rw [m.oth_new, hek]
    exact b4
  rw [live_of hga b5, live_of hgw b1, szs_cons, m.ofs.2, szs_congr (fun q hq => m.same q (u1 q hq))]
  omega
theorem alloc_err {h a : Hp} {tag p er : Int} {words : List Int} (e : allocP h tag words = (a, p, er)) (her : er ≠ 0) : a = hpZ ∧ p = 0 := by
  unfold allocP at e
  split at e
  · simp only [Prod.mk.injEq] at e; exact ⟨e.1.symm, e.2.1.symm⟩
  · split at e
    · simp only [Prod.mk.injEq] at e; exact ⟨e.1.symm, e.2.1.symm⟩
    · split at e
      · simp only [Prod.mk.injEq] at e; exact ⟨e.1.symm, e.2.1.symm⟩
      · simp only [Prod.mk.injEq] at e; exact absurd e.2.2.symm her
end Go.Proofs.Ytikdflppccbdaaa
