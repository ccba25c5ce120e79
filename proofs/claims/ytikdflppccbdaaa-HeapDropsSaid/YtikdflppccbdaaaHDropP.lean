/-
  PLAIN: an object more changes nothing of what is collected; roots that stand twice; no roots.
-/
import Derived.Test.YtikdflppccbdaaaHBfsC
namespace Go.Proofs.Ytikdflppccbdaaa
open Go.RowKit

theorem gw_spl {xs ys : List Int} {off i : Nat} (h : off + ys.length ≤ xs.length) : gw (spl xs off ys) i = if off ≤ i ∧ i < off + ys.length then gw ys (i - off) else gw xs i := by
  unfold gw spl splice List.getD
  rw [List.getElem?_append, List.getElem?_append]
  have hl : (xs.take off).length = off := by simp; omega
  rw [hl]
  by_cases h1 : i < off
  · rw [if_pos h1, if_neg (by omega), List.getElem?_take_of_lt h1]
  · by_cases h2 : i < off + ys.length
    · rw [if_neg h1, if_pos (by omega), if_pos ⟨by omega, h2⟩]
    · rw [if_neg h1, if_neg (by omega), if_neg (by omega), List.getElem?_drop]
      congr 2; omega
theorem gw_set {xs : List Int} {k i : Nat} {v : Int} (h : k < xs.length) : gw (xs.set k v) i = if i = k then v else gw xs i := by
  unfold gw List.getD
  rw [List.getElem?_set]
  by_cases e : k = i
  · subst e; simp [h]
  · rw [if_neg e, if_neg (fun k => e k.symm)]
theorem stl_more {f f' : Nat → Int} {top : Nat} : ∀ (g k : Nat) {s : List Nat}, top - k ≤ g → k ≤ top → stl f top k = some s → (∀ i, k ≤ i → i < top → f' i = f i) → OfOk (f' top) → stl f' (top + ofS (f' top) + 1) k = some (s ++ [top])
  | 0, k, s, hg, hk, h, he, ho => by
    obtain rfl : k = top := by omega
    rw [stl_end (by omega)] at h
    injection h with h
    subst h
    rw [stl_step (by omega) ⟨ho, by omega⟩, stl_end (by omega)]
    rfl
  | g + 1, k, s, hg, hk, h, he, ho => by
    by_cases h0 : k < top
    · by_cases h1 : OfOk (f k) ∧ k + ofS (f k) < top
      · rw [stl_step h0 h1] at h
        obtain ⟨r, hr, rfl⟩ := Option.map_eq_some_iff.1 h
        have hk' := he k (Nat.le_refl _) h0
        rw [stl_step (by omega) (by rw [hk']; exact ⟨h1.1, by omega⟩), hk', stl_more g (k + ofS (f k) + 1) (by omega) (by omega) hr (fun i h2 h3 => he i (by omega) h3) ho]
        rfl
      · rw [stl_bad h0 h1] at h; cases h
    · obtain rfl : k = top := by omega
      rw [stl_end (by omega)] at h
      injection h with h
      subst h
      rw [stl_step (by omega) ⟨ho, by omega⟩, stl_end (by omega)]
      rfl
theorem wordB_more {n : Nat} {sts r : List Nat} {x : Int} (h : wordB n sts x = true) : wordB n (sts ++ r) x = true := by
  unfold wordB at h ⊢
  simp only [Bool.or_eq_true, Bool.and_eq_true, decide_eq_true_eq, List.contains_eq_mem, List.mem_append] at h ⊢
  rcases h with h | ⟨h1, h2, h3⟩
  · exact .inl h
  · exact .inr ⟨h1, h2, .inl h3⟩
/-- What is known of an object more. -/
structure More (h a : Hp) (k : Nat) (tag : Int) (words : List Int) (sts : List Nat) : Prop where
  top : h.top = k
  room : a.room = h.room
  base : a.base = h.base
  len : a.ws.length = h.ws.length
  atop : a.top = ((k + words.length + 1 : Nat) : Int)
  st : stl (gw h.ws) k h.base.toNat = some sts
  st' : stl (gw a.ws) (k + words.length + 1) h.base.toNat = some (sts ++ [k])
  old : ∀ i, i < k → gw a.ws i = gw h.ws i
  head : gw a.ws k = 512 * tag + 2 * words.length + 1
  tagOk : 0 ≤ tag ∧ tag < 1048576 ∧ words.length ≤ 64
  new : ∀ j, j < words.length → gw a.ws (k + 1 + j) = gw words j
  good : GoodP h words
  fits : k + 1 + words.length ≤ h.ws.length
theorem ofOk_head {tag : Int} {n : Nat} (h : 0 ≤ tag ∧ tag < 1048576 ∧ n ≤ 64) : OfOk (512 * tag + 2 * n + 1) ∧ ofS (512 * tag + 2 * n + 1) = n := by
  unfold OfOk ofS
  refine ⟨⟨by omega, by omega, by omega, by omega⟩, by omega⟩
theorem more_of_alloc {h a : Hp} {tag p : Int} {words : List Int} (e : allocP h tag words = (a, p, 0)) : ∃ k sts, More h a k tag words sts ∧ p = 1024 + 4 * k := by
  unfold allocP at e
  by_cases h1 : 0 ≤ tag ∧ tag < 1048576 ∧ words.length ≤ 64
  · rw [if_neg (not_not_intro h1)] at e
    by_cases h2 : GoodP h words
    · rw [if_neg (not_not_intro h2)] at e
      by_cases h3 : h.base + h.room < h.top + 1 + words.length
      · rw [if_pos h3] at e
        simp at e
      · rw [if_neg h3] at e
        have hg := h2
        obtain ⟨hs, hm, sts, q1, q2, q3⟩ := h2
        unfold ShapedP at hs
        obtain ⟨k, hk⟩ : ∃ k : Nat, h.top = k := ⟨h.top.toNat, by omega⟩
        rw [hk] at e
        simp only [Int.toNat_natCast, Prod.mk.injEq, and_true] at e
        obtain ⟨rfl, rfl⟩ := e
        have hlen : (h.ws.set k (512 * tag + 2 * words.length + 1)).length = h.ws.length := by simp
        have hfit : k + 1 + words.length ≤ h.ws.length := by omega
        have hgw : ∀ i, gw (spl (h.ws.set k (512 * tag + 2 * words.length + 1)) (k + 1) words) i = if k + 1 ≤ i ∧ i < k + 1 + words.length then gw words (i - (k + 1)) else if i = k then 512 * tag + 2 * words.length + 1 else gw h.ws i := fun i => by
          rw [gw_spl (by rw [hlen]; exact hfit), gw_set (by omega)]
        have hhd : gw (spl (h.ws.set k (512 * tag + 2 * words.length + 1)) (k + 1) words) k = 512 * tag + 2 * words.length + 1 := by rw [hgw, if_neg (by omega), if_pos rfl]
        have hold : ∀ i, i < k → gw (spl (h.ws.set k (512 * tag + 2 * words.length + 1)) (k + 1) words) i = gw h.ws i := fun i hi => by rw [hgw, if_neg (by omega), if_neg (by omega)]
        obtain ⟨ho, ho2⟩ := ofOk_head h1
        rw [hk, Int.toNat_natCast] at q1
        refine ⟨k, sts, ⟨hk, rfl, rfl, ?_, by dsimp only; omega, q1, ?_, hold, hhd, h1, ?_, hg, hfit⟩, rfl⟩
        · dsimp only
          rw [spl_length (by rw [hlen]; exact hfit), hlen]
        · have := stl_more (f := gw h.ws) (f' := gw (spl (h.ws.set k (512 * tag + 2 * words.length + 1)) (k + 1) words)) (top := k) _ h.base.toNat (Nat.le_refl _) (by omega) q1 (fun i _ hi => hold i hi) (by rw [hhd]; exact ho)
          rw [hhd, ho2] at this
          exact this
        · intro j hj
          dsimp only
          rw [hgw, if_pos ⟨by omega, by omega⟩]
          congr 1; omega
    · rw [if_pos h2] at e
      simp at e
  · rw [if_pos h1] at e
    simp at e
section
variable {h a : Hp} {k : Nat} {tag : Int} {words : List Int} {sts : List Nat}
theorem More.shaped (m : More h a k tag words sts) (hr : k + 1 + words.length ≤ h.base + h.room) : ShapedP a.ws.length a.room a.base a.top := by
  obtain ⟨hs, _⟩ := m.good
  unfold ShapedP at hs ⊢
  rw [m.len, m.room, m.base, m.atop]
  have := m.top
  omega
theorem More.ofs (m : More h a k tag words sts) : OfOk (gw a.ws k) ∧ ofS (gw a.ws k) = words.length := by
  rw [m.head]; exact ofOk_head m.tagOk
theorem More.oth_new (m : More h a k tag words sts) : oth (gw a.ws) k = words := by
  apply List.ext_getElem
  · rw [oth_length, m.ofs.2]
  · intro i h1 h2
    simp only [oth, List.getElem_map, List.getElem_range]
    rw [m.new i h2, gw_get h2]
theorem More.objs (m : More h a k tag words sts) : ∀ o ∈ sts, h.base.toNat ≤ o ∧ o + ofS (gw h.ws o) < k := (stl_spec _ _ (Nat.le_refl _) sts m.st).1
theorem More.same (m : More h a k tag words sts) : ∀ o ∈ sts, gw a.ws o = gw h.ws o := fun o ho => m.old o (by have := (m.objs o ho).2; omega)
theorem More.oth_old (m : More h a k tag words sts) : ∀ o ∈ sts, oth (gw a.ws) o = oth (gw h.ws) o := by
  intro o ho
  have h1 := (m.objs o ho).2
  unfold oth
  rw [m.same o ho]
  apply List.map_congr_left
  intro j hj
  exact m.old _ (by simp at hj; omega)
theorem More.roots (m : More h a k tag words sts) {roots : List Int} (hg : GoodP h roots) : RootsOk h.ws.length sts (gw roots) roots.length := by
  obtain ⟨_, _, s, q1, _, q3⟩ := hg
  rw [m.top, Int.toNat_natCast, m.st] at q1
  injection q1 with q1
  subst q1
  exact q3
theorem More.goodP (m : More h a k tag words sts) (hr : k + 1 + words.length ≤ h.base + h.room) {roots : List Int} (hg : GoodP h roots) : GoodP a roots := by
  have hw := m.roots m.good
  have hb : BodyOk h.ws.length sts (gw h.ws) h.base.toNat k := by
    obtain ⟨_, _, s, q1, q2, _⟩ := hg
    rw [m.top, Int.toNat_natCast] at q1 q2
    rw [m.st] at q1
    injection q1 with q1
    subst q1
    exact q2
  refine ⟨m.shaped hr, hg.2.1, sts ++ [k], ?_, ?_, ?_⟩
  · rw [m.atop, Int.toNat_natCast, m.base]; exact m.st'
  · rw [m.atop, Int.toNat_natCast, m.base, m.len, body_iff m.st']
    intro o ho i h1 h2
    rcases List.mem_append.1 ho with ho | ho
    · have h3 := (m.objs o ho).2
      rw [m.same o ho] at h2
      rw [m.old i (by omega)]
      exact wordB_more ((body_iff m.st).1 hb o ho i h1 h2)
    · obtain rfl : o = k := by simpa using ho
      rw [m.ofs.2] at h2
      have := m.new (i - (o + 1)) (by omega)
      rw [show o + 1 + (i - (o + 1)) = i from by omega] at this
      rw [this]
      exact wordB_more (hw (i - (o + 1)) (by omega))
  · rw [m.len]
    exact fun i hi => wordB_more (m.roots hg i hi)
theorem alloc_room {h a : Hp} {tag p : Int} {words : List Int} (e : allocP h tag words = (a, p, 0)) (m : More h a k tag words sts) : k + 1 + words.length ≤ h.base + h.room := by
  unfold allocP at e
  rw [if_neg (not_not_intro m.tagOk), if_neg (not_not_intro m.good)] at e
  by_cases h3 : h.base + h.room < h.top + 1 + words.length
  · rw [if_pos h3] at e
    simp at e
  · have := m.top
    omega
/-- An object that no root reaches. -/
theorem drop_col {p : Int} (e : allocP h tag words = (a, p, 0)) {roots : List Int} (hg : GoodP h roots) : GoodP a roots ∧ collectP a roots = collectP h roots ∧ a.ws.length = h.ws.length := by
  obtain ⟨k, sts, m, _⟩ := more_of_alloc e
  have hga := m.goodP (alloc_room e m) hg
  refine ⟨hga, ?_, m.len⟩
  have s1 : stl (gw h.ws) h.top.toNat h.base.toNat = some sts := by rw [m.top, Int.toNat_natCast]; exact m.st
  have s2 : stl (gw a.ws) a.top.toNat a.base.toNat = some (sts ++ [k]) := by rw [m.atop, Int.toNat_natCast, m.base]; exact m.st'
  obtain ⟨hG, hR⟩ := hg_of_good hg s1
  obtain ⟨L, b1, n1, u1, _, c1⟩ := col_bfs hg s1
  obtain ⟨L', b2, _, _, _, c2⟩ := col_bfs hga s2
  have b3 := b1.congr (f' := gw a.ws) hG.words m.oth_old (encs_sub roots (by simp) hR.words)
  obtain rfl := b3.det b2
  have hb : colB a = colB h := by unfold colB; rw [m.room, m.base]
  have hsm : ∀ q ∈ L, gw a.ws q = gw h.ws q := fun q hq => m.same q (u1 q hq)
  have hso : ∀ q ∈ L, oth (gw a.ws) q = oth (gw h.ws) q := fun q hq => m.oth_old q (u1 q hq)
  rw [c1, c2]
  unfold colOf
  rw [hb, m.len, m.room, m.base, lay_congr hsm hso, szs_congr hsm, tr_congr hsm]
end
/-- Roots that stand twice; none. -/
theorem roots_twice {h : Hp} {roots : List Int} (hg : GoodP h roots) (hl : roots.length ≤ 32) : ∃ x, (collectP h roots).2 = (x, 0) ∧ x.length = roots.length ∧ collectP h (roots ++ roots) = ((collectP h roots).1, x ++ x, 0) ∧
    (∀ i, i < roots.length → (gw roots i % 2 = 1 → gw x i = gw roots i) ∧ (gw roots i % 2 = 0 → gw x i % 2 = 0)) := by
  obtain ⟨sts, hst⟩ : ∃ sts, stl (gw h.ws) h.top.toNat h.base.toNat = some sts := by obtain ⟨_, _, s, h, _⟩ := hg; exact ⟨s, h⟩
  have hR := (hg_of_good hg hst).2
  have hg2 : GoodP h (roots ++ roots) := by
    obtain ⟨g1, g2, s, g3, g4, g5⟩ := hg
    refine ⟨g1, by rw [List.length_append]; omega, s, g3, g4, ?_⟩
    intro i hi
    rw [List.length_append] at hi
    have : gw (roots ++ roots) i = gw roots (if i < roots.length then i else i - roots.length) := by
      unfold gw List.getD
      rw [List.getElem?_append]
      split <;> rfl
    rw [this]
    exact g5 _ (by split <;> omega)
  obtain ⟨L, b1, n1, u1, _, c1⟩ := col_bfs hg hst
  obtain ⟨L', b2, _, _, _, c2⟩ := col_bfs hg2 hst
  have e2 : encs [] (roots ++ roots) = encs [] roots := by
    rw [encs_append]
    exact encs_old fun x hx hp => encs_in hx hp
  rw [e2] at b2
  obtain rfl := b1.det b2
  refine ⟨_, by rw [c1], by simp, by rw [c1, c2, List.map_append], ?_⟩
  intro i hi
  have hw := hR i hi
  have : gw (roots.map (tr (gw h.ws) (colB h) L)) i = tr (gw h.ws) (colB h) L (gw roots i) := by simp [gw, List.getD, hi]
  rw [this]
  unfold tr
  rcases wordB_pl hw with ⟨h1, h2⟩ | ⟨h1, h2, _⟩
  · rw [if_neg h1]
    unfold IntOk at h2
    exact ⟨fun _ => rfl, fun _ => by omega⟩
  · rw [if_pos h1]
    unfold PlOk at h1
    exact ⟨fun _ => by omega, fun _ => by omega⟩
theorem roots_none {h : Hp} {roots : List Int} (hg : GoodP h roots) : ∃ c : Hp, collectP h [] = (c, [], 0) ∧ c.top = c.base := by
  have hg0 : GoodP h [] := by
    obtain ⟨g1, g2, s, g3, g4, g5⟩ := hg
    exact ⟨g1, by simp, s, g3, g4, fun i hi => absurd hi (by simp)⟩
  obtain ⟨sts, hst⟩ : ∃ sts, stl (gw h.ws) h.top.toNat h.base.toNat = some sts := by obtain ⟨_, _, s, h, _⟩ := hg; exact ⟨s, h⟩
  obtain ⟨L, b1, n1, u1, _, c1⟩ := col_bfs hg0 hst
  have : Bfs (gw h.ws) (encs [] []) 0 [] := Bfs.done (by simp [encs])
  obtain rfl := this.det b1
  refine ⟨_, c1, ?_⟩
  obtain ⟨hs, _⟩ := hg
  unfold ShapedP at hs
  unfold colOf colB
  dsimp only
  rw [szs_nil]
  omega
end Go.Proofs.Ytikdflppccbdaaa
