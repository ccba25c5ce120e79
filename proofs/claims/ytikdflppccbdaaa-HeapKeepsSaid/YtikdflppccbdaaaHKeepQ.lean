/-
  PLAIN: behind a collection the heap may be one, and shows the same.
-/
import Derived.Test.YtikdflppccbdaaaHKeepP
namespace Go.Proofs.Ytikdflppccbdaaa
open Go.RowKit

def posls (f : Nat → Int) : Nat → List Nat → List Nat
  | _, [] => []
  | a, q :: r => a :: posls f (a + ofS (f q) + 1) r
theorem posls_eq {f : Nat → Int} : ∀ {l : List Nat} {b : Nat}, l.Nodup → posls f b l = l.map (posL f b l)
  | [], _, _ => rfl
  | q :: l, b, h => by
    obtain ⟨h1, h2⟩ := List.nodup_cons.1 h
    rw [List.map_cons]
    show b :: posls f (b + ofS (f q) + 1) l = (if q = q then b else _) :: _
    rw [if_pos rfl, posls_eq h2]
    congr 1
    apply List.map_congr_left
    intro p hp
    show posL f (b + ofS (f q) + 1) l p = if q = p then b else posL f (b + ofS (f q) + 1) l p
    rw [if_neg (fun (e : q = p) => h1 (by rw [e]; exact hp))]
theorem stl_objs {f to : Nat → Int} {g : Nat → List Int} (hg : ∀ p, (g p).length = ofS (f p) + 1) (hh : ∀ p, (g p)[0]? = some (f p)) : ∀ (l : List Nat) (a : Nat), At to a (l.flatMap g) → (∀ p ∈ l, OfOk (f p)) → stl to (a + szs f l) a = some (posls f a l)
  | [], a, _, _ => by rw [szs_nil]; exact stl_end (by omega)
  | q :: l, a, h, ho => by
    rw [List.flatMap_cons] at h
    have h0 : to a = f q := by
      have h1 := h.left 0 (by rw [hg]; omega)
      have h2 := hh q
      rw [List.getElem?_eq_getElem (by rw [hg]; omega)] at h2
      injection h2 with h2
      rw [← h2]; exact h1
    have h3 := h.right
    rw [hg q, show a + (ofS (f q) + 1) = a + ofS (f q) + 1 from by omega] at h3
    rw [szs_cons, stl_step (by omega) (by rw [h0]; exact ⟨ho q (by simp), by omega⟩), h0, show a + (ofS (f q) + 1 + szs f l) = (a + ofS (f q) + 1) + szs f l from by omega, stl_objs hg hh l _ h3 (fun p hp => ho p (by simp [hp]))]
    rfl
theorem gw_tab' {n : Nat} {to : Nat → Int} {i : Nat} (h : i < n) : gw (tab n to) i = to i := tab_get h
/-- A collection keeps what the roots show; the heap may be one, with the roots that are handed back. -/
theorem keep_col {h : Hp} {roots : List Int} (hg : GoodP h roots) : ∃ a x, collectP h roots = (a, x, 0) ∧ GoodP a x ∧ shapeP a x = shapeP h roots ∧ a.ws.length = h.ws.length ∧ x.length = roots.length ∧ a.base = h.room - h.base ∧ a.room = h.room ∧
    (collectP a x).1.top - (collectP a x).1.base = (collectP h roots).1.top - (collectP h roots).1.base ∧ a.top = a.base + ((collectP h roots).1.top - (collectP h roots).1.base) := by
  obtain ⟨L, sts, hst, b1, nd, u1, hsz, c1⟩ := bfs_facts hg
  obtain ⟨hG, hR⟩ := hg_of_good hg hst
  have hs := hg.1
  unfold ShapedP at hs
  obtain ⟨f, hf⟩ : ∃ f, f = gw h.ws := ⟨_, rfl⟩
  obtain ⟨b, hb⟩ : ∃ b, b = colB h := ⟨_, rfl⟩
  rw [← hf] at hG b1 hsz c1 hst
  rw [← hb] at hsz c1
  have hbv : (b : Int) = h.room - h.base := by rw [hb]; unfold colB; omega
  have hlim : b + szs f L ≤ 262144 := by omega
  have hn : b + szs f L ≤ h.ws.length := by omega
  obtain ⟨r, hr⟩ := b1.ext
  have hrt : ∀ x ∈ roots, PlOk x → plN x ∈ L := fun x hx hp => by rw [hr]; exact List.mem_append_left _ (encs_in hx hp)
  have hcl : ∀ p ∈ L, ∀ x ∈ oth f p, PlOk x → plN x ∈ L := by
    obtain ⟨g, hg9⟩ := b1
    exact bfsO_closed g (fun k hk => absurd hk (by omega)) (Nat.zero_le _) hg9
  have hcol : colOf h L = ⟨tab h.ws.length (lay f b L), h.room, h.room - h.base, ((b + szs f L : Nat) : Int)⟩ := by unfold colOf; rw [← hf, ← hb]
  rw [hcol] at c1
  obtain ⟨F, hF⟩ : ∃ F, F = gw (tab h.ws.length (lay f b L)) := ⟨_, rfl⟩
  have hFe : ∀ i, i < h.ws.length → F i = lay f b L i := fun i hi => by rw [hF]; exact gw_tab' hi
  have hA : At F b (L.flatMap (img f b L)) := At.congr (lay_at f b L) fun i h1 h2 => by rw [imgs_length] at h2; exact hFe i (by omega)
  have hst2 : stl F (b + szs f L) b = some (L.map (posL f b L)) := by
    rw [stl_objs (img_length f b L) (fun p => rfl) L b hA (fun p hp => hG.ok p (u1 p hp)), posls_eq nd]
  -- an object's image, as the new row has it
  have hFh : ∀ p ∈ L, F (posL f b L p) = f p := fun p hp => by
    have := posL_lt (f := f) (b := b) hp
    rw [hFe _ (by omega), lay_head hp]
  have hFo : ∀ p ∈ L, oth F (posL f b L p) = oth (lay f b L) (posL f b L p) := fun p hp => by
    have := posL_lt (f := f) (b := b) hp
    unfold oth
    rw [hFh p hp, lay_head hp]
    apply List.map_congr_left
    intro j hj
    exact hFe _ (by simp at hj; omega)
  have hwB : ∀ x, wordB h.ws.length sts x = true → (PlOk x → plN x ∈ L) → wordB h.ws.length (L.map (posL f b L)) (tr f b L x) = true := by
    intro x hx hpl
    obtain ⟨t1, t2⟩ := tr_pl (f := f) (b := b) hlim hpl
    rcases wordB_pl hx with ⟨h1, h2⟩ | ⟨h1, _, _, _⟩
    · have : tr f b L x = x := if_neg h1
      rw [this]; unfold wordB; simp [h2]
    · have h4 := posL_lt (f := f) (b := b) (hpl h1)
      have h5 := t2 h1
      have h6 := t1.2 h1
      unfold wordB
      rw [h5]
      simp only [Bool.or_eq_true, Bool.and_eq_true, decide_eq_true_eq, List.contains_eq_mem]
      exact .inr ⟨h6, by omega, List.mem_map.2 ⟨_, hpl h1, rfl⟩⟩
  have hgood : GoodP ⟨tab h.ws.length (lay f b L), h.room, h.room - h.base, ((b + szs f L : Nat) : Int)⟩ (roots.map (tr f b L)) := by
    refine ⟨?_, by rw [List.length_map]; exact hg.2.1, L.map (posL f b L), ?_, ?_, ?_⟩
    · unfold ShapedP; dsimp only; rw [tab_length]; omega
    · dsimp only; rw [← hF, Int.toNat_natCast, ← hbv, Int.toNat_natCast]; exact hst2
    · dsimp only; rw [← hF, Int.toNat_natCast, ← hbv, Int.toNat_natCast, tab_length, body_iff hst2]
      intro o ho i h1 h2
      obtain ⟨p, hp, rfl⟩ := List.mem_map.1 ho
      rw [hFh p hp] at h2
      have hmem : F i ∈ oth F (posL f b L p) := oth_mem.2 ⟨i - (posL f b L p + 1), by rw [hFh p hp]; omega, by congr 1; omega⟩
      rw [hFo p hp, lay_oth hp] at hmem
      obtain ⟨x, hx, e⟩ := List.mem_map.1 hmem
      rw [← e]
      obtain ⟨j, hj, rfl⟩ := oth_mem.1 hx
      exact hwB _ (hG.body p (u1 p hp) _ (by omega) (by omega)) (hcl p hp _ hx)
    · dsimp only; rw [tab_length, List.length_map]
      intro i hi
      have : gw (roots.map (tr f b L)) i = tr f b L (gw roots i) := by simp [gw, List.getD, hi]
      rw [this]
      exact hwB _ (hR i hi) (hrt _ (gw_mem hi))
  have hB2 : Bfs F (encs [] (roots.map (tr f b L))) 0 (L.map (posL f b L)) := by
    obtain ⟨g, hg9⟩ := b1
    have e0 := encs_pos (f := f) (b := b) (L := L) hlim (xs := roots) (l := []) (by simp) hrt
    rw [List.map_nil] at e0
    have hsub : ∀ p ∈ encs [] roots, p ∈ L := fun p hp => by rw [hr]; exact List.mem_append_left _ hp
    have h1 := bfsO_pos hlim hcl g hsub hg9
    rw [← e0] at h1
    have h2 : Bfs (lay f b L) (encs [] (roots.map (tr f b L))) 0 (L.map (posL f b L)) := ⟨g, h1⟩
    refine h2.congr (sts := L.map (posL f b L)) ?_ ?_ ?_
    · intro q hq x hx hpl
      obtain ⟨p, hp, rfl⟩ := List.mem_map.1 hq
      rw [lay_oth hp] at hx
      obtain ⟨y, hy, rfl⟩ := List.mem_map.1 hx
      obtain ⟨t1, t2⟩ := tr_pl (f := f) (b := b) hlim (hcl p hp y hy)
      have hpy := t1.1 hpl
      rw [t2 hpy]
      exact List.mem_map.2 ⟨_, hcl p hp y hy hpy, rfl⟩
    · intro q hq
      obtain ⟨p, hp, rfl⟩ := List.mem_map.1 hq
      exact hFo p hp
    · rw [e0]
      intro q hq
      obtain ⟨p, hp, rfl⟩ := List.mem_map.1 hq
      exact List.mem_map.2 ⟨p, hsub p hp, rfl⟩
  have hszF : szs F (L.map (posL f b L)) = szs f L := by
    rw [← szs_pos (f := f) (b := b) (L := L) (fun _ h => h)]
    exact szs_congr fun q hq => by
      obtain ⟨p, hp, rfl⟩ := List.mem_map.1 hq
      rw [hFh p hp, lay_head hp]
  refine ⟨_, _, c1, hgood, ?_, tab_length _ _, List.length_map _, rfl, rfl, ?_, ?_⟩
  · rw [shapeP_yes hgood (by dsimp only; rw [← hF]; exact hB2), shapeP_yes hg (by rw [← hf]; exact b1), ← hf, ← shapeL_pos (f := f) (b := b) hlim hcl hrt]
    dsimp only
    rw [← hF]
    unfold shapeL
    congr 1
    simp only [List.flatMap_def]
    congr 1
    apply List.map_congr_left
    intro q hq
    obtain ⟨p, hp, rfl⟩ := List.mem_map.1 hq
    rw [hFh p hp, lay_head hp, hFo p hp]
  · rw [live_of hgood (by dsimp only; rw [← hF]; exact hB2), live_of hg (by rw [← hf]; exact b1), ← hf]
    dsimp only
    rw [← hF, hszF]
  · rw [live_of hg (by rw [← hf]; exact b1), ← hf]
    dsimp only
    omega
end Go.Proofs.Ytikdflppccbdaaa
