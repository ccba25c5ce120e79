/-
  THE WALKS OF cps.looker.nexts AND WHAT IT CALLS; OF THE FUNCTIONS WITHIN good.
-/
import Derived.Test.YtdmkjndlobichaaKWith
namespace Go.Proofs.Ytdmkjndlobichaa
set_option linter.all false
open Go.ChangeShapes Go.WideShapes Go.ChangeAt Go.RowKit Go.Maps
open Tm (Te gdT gdL gdF addV names namesL namesF formT bindT atomsB)
open Ev (updI upM)

theorem z_add : ∀ {l : List Int} {f f' : Int → Int}, (∀ x, 0 ≤ f x ∧ f x ≤ 1) → addV l f = some f' → ∀ x, 0 ≤ f' x ∧ f' x ≤ 1
  | [], f, f', h, e => by rw [addV] at e; injection e with e; subst e; exact h
  | x :: l, f, f', h, e => by
    rw [addV] at e
    by_cases h1 : 1 < f x + 1 ∨ x < 1 ∨ 262144 < x
    · rw [if_pos h1] at e; cases e
    · rw [if_neg h1] at e
      refine z_add (f := updI f x (f x + 1)) (fun y => ?_) e
      unfold updI
      have := h x
      split
      · omega
      · exact h y
mutual
theorem z_good : ∀ {t : Te} {f g f' : Int → Int}, (∀ x, 0 ≤ f x ∧ f x ≤ 1) → gdT t f g = some f' → ∀ x, 0 ≤ f' x ∧ f' x ≤ 1
  | .mk k x n i ts ats fh fb us, f, g, f', h, e => by
    rw [gdT] at e
    by_cases h1 : formT k x n i ts ats.length fb.length us.length = false ∨ atomsB g ats = false
    · rw [if_pos h1] at e; cases e
    rw [if_neg h1] at e
    cases h2 : addV (bindT k x fh) f with
    | none => rw [h2] at e; cases e
    | some f1 =>
      rw [h2] at e
      simp only at e
      cases h3 : gdF fh fb f1 (upM (bindT k x fh) g) with
      | none => rw [h3] at e; cases e
      | some f2 => rw [h3] at e; exact z_goodL (z_goodF (z_add h h2) h3) e
theorem z_goodF : ∀ {fb : List Te} {fh : List (Int × List Int)} {f g f' : Int → Int}, (∀ x, 0 ≤ f x ∧ f x ≤ 1) → gdF fh fb f g = some f' → ∀ x, 0 ≤ f' x ∧ f' x ≤ 1
  | [], fh, f, g, f', h, e => by rw [gdF.eq_def] at e; cases fh <;> (simp at e; subst e; exact h)
  | b :: bs, [], f, g, f', h, e => by rw [gdF.eq_def] at e; simp at e; subst e; exact h
  | b :: bs, a :: hs, f, g, f', h, e => by
    rw [gdF] at e
    by_cases h1 : 16 < a.2.length
    · rw [if_pos h1] at e; cases e
    rw [if_neg h1] at e
    cases h2 : addV a.2 f with
    | none => rw [h2] at e; cases e
    | some f1 =>
      rw [h2] at e
      simp only at e
      cases h3 : gdT b f1 (upM a.2 g) with
      | none => rw [h3] at e; cases e
      | some f2 => rw [h3] at e; exact z_goodF (z_good (z_add h h2) h3) e
theorem z_goodL : ∀ {us : List Te} {f g f' : Int → Int}, (∀ x, 0 ≤ f x ∧ f x ≤ 1) → gdL us f g = some f' → ∀ x, 0 ≤ f' x ∧ f' x ≤ 1
  | [], f, g, f', h, e => by rw [gdL] at e; injection e with e; subst e; exact h
  | t :: us, f, g, f', h, e => by
    rw [gdL] at e
    cases h2 : gdT t f g with
    | none => rw [h2] at e; cases e
    | some f1 => rw [h2] at e; exact z_goodL (z_good h h2) e
end
theorem names_le : ∀ {us : List Te} {t : Te}, t ∈ us → names t ≤ namesL us
  | [], t, h => by cases h
  | a :: us, t, h => by
    rw [namesL]
    rcases List.mem_cons.1 h with rfl | h
    · omega
    · have := names_le h; omega
def GdN (r : Option (Int → Int)) (g : Int → Int) (k1 k2 M1 M2 : Nat) (w : World) (e : Ending) (w' : World) : Prop :=
  e = .returned (.bool (!r.isSome)) ∧ (∃ g', MapI w' M2 g' k2 ∧ ∀ f', r = some f' → MapI w' M1 f' k1 ∧ g' = g) ∧ Gr2 M1 M2 w w'
def GdI (r : Option (Int → Int)) (g : Int → Int) (k1 k2 M1 M2 : Nat) (w : World) (e : Ending) (w' : World) : Prop :=
  (∃ q : Int, e = .returned (.int .i64 q) ∧ (q < 0 ↔ r.isSome = true)) ∧ (∃ g', MapI w' M2 g' k2 ∧ ∀ f', r = some f' → MapI w' M1 f' k1 ∧ g' = g) ∧ Gr2 M1 M2 w w'
/-- What good tells of some terms. -/
def GH (us : List Te) (K M1 M2 : Nat) : Prop := ∀ t ∈ us, ∀ (v : Value) (S : Nat → Prop) (w : World) (f g : Int → Int) (k1 k2 B : Nat), TAt w S t v → (∀ b, S b → b ≠ M1 ∧ b ≠ M2) → LK w K M1 M2 f g k1 k2 B → k1 + names t ≤ 17592186044416 → k2 + 2 * names t ≤ 17592186044416 → B + names t ≤ 17592186044416 →
  Calls Try.prog 34 #[.pointer (some ⟨K, 0, none⟩), v] w (GdP (gdT t f g) g (k1 + names t) (k2 + 2 * names t) M1 M2 w)
/-- The looker behind a look that was fine. -/
theorem LK.after {w w' : World} {K M1 M2 : Nat} {f g f' g' : Int → Int} {k1 k2 B e1 e2 : Nat} (h : LK w K M1 M2 f g k1 k2 B) (hg : Gr2 M1 M2 w w') (m1 : MapI w' M1 f' e1) (m2 : MapI w' M2 g' e2) (he : g' = g) (hz : ∀ x, 0 ≤ f' x ∧ f' x ≤ 1) : LK w' K M1 M2 f' g e1 e2 B := by
  subst he
  exact ⟨hg.blk h.blk (map_ne h.m1 h.blk) (map_ne h.m2 h.blk), m1, m2, h.ne, hz, h.b⟩
set_option maxHeartbeats 8000000 in
set_option maxRecDepth 100000 in
theorem nexts_fn (t : Te) (v : Value) (S : Nat → Prop) (kb K M1 M2 : Nat) (f g : Int → Int) (k1 k2 B : Nat) (w : World) (hv : TAt w S t v) (hS : ∀ b, S b → b ≠ M1 ∧ b ≠ M2) (hk : Blk w kb 75 #[.pointer (some ⟨K, 0, none⟩)]) (hl : LK w K M1 M2 f g k1 k2 B) (h1 : k1 + names t ≤ 17592186044416) (h2 : k2 + 2 * names t ≤ 17592186044416) (h3 : B + names t ≤ 17592186044416) (H : GH [t] K M1 M2) :
    Calls Try.prog 97 #[v, .pointer (some ⟨kb, 0, none⟩)] w (GdN (gdT t f g) g (k1 + names t) (k2 + 2 * names t) M1 M2 w) := by
  obtain ⟨k9, x9, n9, i9, T9, tl9, tc9, A9, al9, ac9, F9, fl9, fc9, U9, ul9, uc9, rfl⟩ := hv.agg
  have C := hid (H t (by simp) _ S (w.alloc (.cells #[.int .i64 k9, .int .i64 x9, .int .i64 n9, .bool i9, .slice T9 tl9 tc9, .slice A9 al9 ac9, .slice F9 fl9 fc9, .slice U9 ul9 uc9] 27)) f g k1 k2 B (hv.up (al1 _ _)) hS (hl.up (al1 _ _)) h1 h2 h3)
  have x0 : ∀ o, (w.alloc o).cell? ⟨kb, 0, none⟩ = some (.pointer (some ⟨K, 0, none⟩)) := fun o => (hk.alloc o).cell0
  obtain ⟨q, hq⟩ : ∃ q, (gdT t f g).isSome = q := ⟨_, rfl⟩
  have HQ := hid hq
  clear hv hS hk hl h1 h2 h3 H hq
  cases q
  all_goals
    go_enter Try.func97, Try.ntmps97
    go_wp2_with (go_at_call 34; go_must (refine C.out.mono ?_); rintro e w1 ⟨e9, hG⟩; go_must (rw [HQ.out] at e9; subst e9; have G := hid hG; clear hG))
    go_ret
    exact ⟨by rw [HQ.out]; rfl, G.out.1, (Gr2.of_below (al1 _ _)).trans G.out.2⟩
set_option maxHeartbeats 8000000 in
set_option maxRecDepth 100000 in
theorem nexts_index (us : List Te) (A : Option Addr) (c : Nat) (S : Nat → Prop) (kb K M1 M2 : Nat) (f g : Int → Int) (k1 k2 B : Nat) (w : World) (hul : us.length ≤ 17592186044416) (hrow : TRow w S us A 0) (hS : ∀ b, S b → b ≠ M1 ∧ b ≠ M2) (hk : Blk w kb 75 #[.pointer (some ⟨K, 0, none⟩)]) (hl : LK w K M1 M2 f g k1 k2 B) (h1 : k1 + namesL us ≤ 17592186044416) (h2 : k2 + 2 * namesL us ≤ 17592186044416) (h3 : B + namesL us ≤ 17592186044416) (H : GH us K M1 M2) :
    Calls Try.prog 122 #[.slice A us.length c, .func (.func 97) #[] #[.pointer (some ⟨kb, 0, none⟩)]] w (GdI (gdL us f g) g (k1 + namesL us) (k2 + 2 * namesL us) M1 M2 w) := by
  have hL : us.length ≤ 281474976710656 := by omega
  have Q := hid (And.intro hrow (And.intro hS (And.intro H (And.intro hk (And.intro (map_ne hl.m1 hk) (map_ne hl.m2 hk))))))
  have HL := hid hl
  have HN := hid (And.intro h1 (And.intro h2 h3))
  clear hrow hS H hk hl h1 h2 h3
  go_enter Try.func122, Try.ntmps122
  go_wp2
  go_loopg [8] us.length (fun gg x wr => ∃ (i : Nat) (f1 : Int → Int) (j1 j2 : Nat), i + gg = us.length ∧ x = .int .i64 i ∧ Hid (j1 + namesL (us.drop i) = k1 + namesL us ∧ j2 + 2 * namesL (us.drop i) = k2 + 2 * namesL us) ∧ Hid (LK wr K M1 M2 f1 g j1 j2 B) ∧ Hid (gdL us f g = gdL (us.drop i) f1 g) ∧ Hid (Gr2 M1 M2 w wr))
  case atStart => exact ⟨0, f, k1, k2, by omega, rfl, hid ⟨rfl, rfl⟩, HL, hid rfl, hid (Gr2.refl _ _ _)⟩
  case round =>
    obtain ⟨i, f1, j1, j2, hi, rfl, hJ, hLr, hE, hG⟩ := hrel
    have Hi := hid hi
    by_cases hlt : i < us.length
    case neg =>
      obtain rfl : i = us.length := by omega
      clear hi
      go_wp2
      go_ret
      have hJ2 := hJ.out
      rw [List.drop_length, namesL] at hJ2
      refine ⟨⟨-1, rfl, by rw [hE.out, List.drop_length, gdL]; simp⟩, ⟨g, hLr.out.m2.mono (by omega), fun f' h9 => ?_⟩, hG.out⟩
      rw [hE.out, List.drop_length, gdL] at h9
      injection h9 with h9
      subst h9
      exact ⟨hLr.out.m1.mono (by omega), rfl⟩
    have hlt' : (i : Int) < us.length := by omega
    obtain ⟨ad, k9, x9, n9, i9, T9, tl9, tc9, A9, al9, ac9, F9, fl9, fc9, U9, ul9, uc9, rfl, hSb, hab, ⟨y0, y1, y2, y3, y4, y5, y6, y7⟩, hel⟩ := (TRow.keep (w' := wr) (T := S) (fun b hb hl => ⟨hG.out.block b hl (Q.out.2.1 b hb).1 (Q.out.2.1 b hb).2, hb⟩) _ _ _ Q.out.1).elem hlt
    have hdr : us.drop i = us[i] :: us.drop (i + 1) := List.drop_eq_getElem_cons hlt
    have hJ2 := hJ.out
    rw [hdr, namesL] at hJ2
    have hE2 := hE.out
    rw [hdr, gdL] at hE2
    obtain ⟨t, ht⟩ : ∃ t, t = us[i] := ⟨_, rfl⟩
    have hmem := List.getElem_mem hlt
    rw [← ht] at hel hJ2 hE2 hmem
    have hN := HN.out
    have C := hid (nexts_fn t _ S kb K M1 M2 f1 g j1 j2 B wr hel Q.out.2.1 (hG.out.blk Q.out.2.2.2.1 Q.out.2.2.2.2.1 Q.out.2.2.2.2.2) hLr.out (by omega) (by omega) (by have := names_le hmem; omega) (fun t' ht' => by simp at ht'; subst ht'; exact Q.out.2.2.1 _ hmem))
    have HE := hid hE2
    have HJ := hid hJ2
    clear hi hel hSb hab hdr hE2 hJ2 hN ht hmem hE hJ
    cases hq : gdT t f1 g with
    | none =>
      have HQ := hid hq
      have HB := hid (show (!(gdT t f1 g).isSome) = true by rw [hq]; rfl)
      clear hq
      go_wp2_with (go_at_call 97; go_must (refine C.out.mono ?_); rintro e w1 ⟨e9, hG9⟩; go_must (rw [HB.out] at e9; subst e9; have G := hid hG9; clear hG9))
      go_ret
      have e5 : gdL us f g = none := by rw [HE.out, HQ.out]
      obtain ⟨⟨g', hg', _⟩, hgr⟩ := G.out
      exact ⟨⟨i, rfl, by rw [e5]; simp⟩, ⟨g', hg'.mono (by have := HJ.out; omega), fun f' h9 => (by rw [e5] at h9; cases h9)⟩, hG.out.trans hgr⟩
    | some f2 =>
      have HQ := hid hq
      have HB := hid (show (!(gdT t f1 g).isSome) = false by rw [hq]; rfl)
      clear hq
      go_wp2_with (go_at_call 97; go_must (refine C.out.mono ?_); rintro e w1 ⟨e9, hG9⟩; go_must (rw [HB.out] at e9; subst e9; have G := hid hG9; clear hG9))
      have hgk := Hi.out
      go_roundg (gk - 1)
      case rel =>
        obtain ⟨⟨g', hg', hf'⟩, hgr⟩ := G.out
        obtain ⟨hm1, he⟩ := hf' f2 HQ.out
        exact ⟨i + 1, f2, j1 + names t, j2 + 2 * names t, by omega, by go_num, hid (by have := HJ.out; omega), hid (hLr.out.after hgr hm1 hg' he (z_good hLr.out.z HQ.out)), hid (by rw [HE.out, HQ.out]), hid (hG.out.trans hgr)⟩
      case measure => omega
set_option maxHeartbeats 8000000 in
set_option maxRecDepth 100000 in
theorem nexts_has (us : List Te) (A : Option Addr) (c : Nat) (S : Nat → Prop) (kb K M1 M2 : Nat) (f g : Int → Int) (k1 k2 B : Nat) (w : World) (hul : us.length ≤ 17592186044416) (hrow : TRow w S us A 0) (hS : ∀ b, S b → b ≠ M1 ∧ b ≠ M2) (hk : Blk w kb 75 #[.pointer (some ⟨K, 0, none⟩)]) (hl : LK w K M1 M2 f g k1 k2 B) (h1 : k1 + namesL us ≤ 17592186044416) (h2 : k2 + 2 * namesL us ≤ 17592186044416) (h3 : B + namesL us ≤ 17592186044416) (H : GH us K M1 M2) :
    Calls Try.prog 96 #[.slice A us.length c, .func (.func 97) #[] #[.pointer (some ⟨kb, 0, none⟩)]] w (GdN (gdL us f g) g (k1 + namesL us) (k2 + 2 * namesL us) M1 M2 w) := by
  have C := hid (nexts_index us A c S kb K M1 M2 f g k1 k2 B w hul hrow hS hk hl h1 h2 h3 H)
  obtain ⟨q, hq⟩ : ∃ q, (gdL us f g).isSome = q := ⟨_, rfl⟩
  have HQ := hid hq
  clear hul hrow hS hk hl h1 h2 h3 H hq
  cases q
  · go_enter Try.func96, Try.ntmps96
    go_wp2_with (go_at_call 122; go_must (refine C.out.mono ?_); rintro e w1 ⟨⟨r, rfl, hr⟩, hG9⟩; go_must (rw [HQ.out] at hr; have hr2 : 0 ≤ r := by (have : ¬ r < 0 := fun h => Bool.noConfusion (hr.1 h)); omega); have G := hid hG9; clear hG9 hr)
    go_ret
    exact ⟨by rw [HQ.out]; rfl, G.out⟩
  · go_enter Try.func96, Try.ntmps96
    go_wp2_with (go_at_call 122; go_must (refine C.out.mono ?_); rintro e w1 ⟨⟨r, rfl, hr⟩, hG9⟩; go_must (rw [HQ.out] at hr; have hr2 : ¬ 0 ≤ r := by (have := hr.2 rfl); omega); have G := hid hG9; clear hG9 hr)
    go_ret
    exact ⟨by rw [HQ.out]; show Ending.returned (.bool (decide (0 ≤ r))) = _; rw [decide_eq_false (show ¬ 0 ≤ r by omega)]; rfl, G.out⟩
set_option maxHeartbeats 8000000 in
set_option maxRecDepth 100000 in
theorem look_nexts (us : List Te) (A : Option Addr) (c : Nat) (S : Nat → Prop) (K M1 M2 : Nat) (f g : Int → Int) (k1 k2 B : Nat) (w : World) (hul : us.length ≤ 17592186044416) (hrow : TRow w S us A 0) (hS : ∀ b, S b → b ≠ M1 ∧ b ≠ M2) (hl : LK w K M1 M2 f g k1 k2 B) (h1 : k1 + namesL us ≤ 17592186044416) (h2 : k2 + 2 * namesL us ≤ 17592186044416) (h3 : B + namesL us ≤ 17592186044416) (H : GH us K M1 M2) :
    Calls Try.prog 66 #[.pointer (some ⟨K, 0, none⟩), .slice A us.length c] w (GdP (gdL us f g) g (k1 + namesL us) (k2 + 2 * namesL us) M1 M2 w) := by
  have C := hid (nexts_has us A c S w.heap.size K M1 M2 f g k1 k2 B _ hul (hrow.up (al1 w (.cells #[.pointer (some ⟨K, 0, none⟩)] 75))) hS (Blk.new w 75 #[.pointer (some ⟨K, 0, none⟩)]) (hl.up (al1 w _)) h1 h2 h3 H)
  obtain ⟨q, hq⟩ : ∃ q, (gdL us f g).isSome = q := ⟨_, rfl⟩
  have HQ := hid hq
  clear hul hrow hS hl h1 h2 h3 H hq
  cases q
  all_goals
    go_enter Try.func66, Try.ntmps66
    go_wp2_with (go_at_call 96; go_must (refine C.out.mono ?_); rintro e w1 ⟨e9, hG⟩; go_must (rw [HQ.out] at e9; subst e9; have G := hid hG; clear hG))
    go_ret
    exact ⟨by rw [HQ.out]; rfl, G.out.1, (Gr2.of_below (al1 _ _)).trans G.out.2⟩
end Go.Proofs.Ytdmkjndlobichaa
