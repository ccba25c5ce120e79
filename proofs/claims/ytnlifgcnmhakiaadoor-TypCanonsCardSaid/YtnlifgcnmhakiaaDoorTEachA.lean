/-
  THE WALK OF links.each, with Apply's function: are there few nodes?
-/
import Derived.Test.YtnlifgcnmhakiaaDoorTEachB
namespace Go.Proofs.YtnlifgcnmhakiaaDoor
open Go.ChangeShapes Go.WideShapes Go.ChangeAt Go.RowKit

/-- What Apply's cell holds: how many nodes are left. -/
def EA (gl : Nat) (r : Nat × Int) (w : World) : Prop := ∃ l : Int, Blk w gl 3 #[.int .i64 l] ∧ (r.2 = 0 → l = 1024 - r.1)
theorem EA.below {gl : Nat} {r : Nat × Int} {w w' : World} (h : EA gl r w) (hb : Below w.heap.size w w') : EA gl r w' := by
  obtain ⟨l, h1, h2⟩ := h
  exact ⟨l, h1.below hb h1.lt, h2⟩
def EAf (gl : Nat) : Nat → Prop := fun b => b = gl
/-- What Apply's function tells, and each. -/
def LitQ (gl : Nat) (r : Nat × Int) (w : World) (e : Ending) (w' : World) : Prop :=
  e = .returned (.bool (decide (r.2 = 0))) ∧ EA gl r w' ∧ Kept (EAf gl) w w'
set_option maxHeartbeats 4000000 in
set_option maxRecDepth 100000 in
theorem app_lit (gl : Nat) (c : Nat) (hc : c ≤ 1024) (q : Int) (s : ByteArray) (m : Int) (hm : ¬ (q = 2 ∧ m = 0)) (A : Option Addr) (k c2 : Nat) (w : World) (h : EA gl (c, 0) w) :
    Calls Tryd.prog 46 #[.agg #[.int .i64 q, .string s, .int .i64 m, .slice A k c2], .pointer (some ⟨gl, 0, none⟩)] w (LitQ gl (litR 0 c q m) w) := by
  obtain ⟨l, hl, hl2⟩ := h
  obtain rfl : l = 1024 - c := hl2 rfl
  obtain ⟨o, ho⟩ : ∃ o, o = Obj.cells #[.int .i64 q, .string s, .int .i64 m, .slice A k c2] 24 := ⟨_, rfl⟩
  have L0 := hl.alloc o
  have a0 : (w.alloc o).cell? ⟨gl, 0, none⟩ = some (.int .i64 (1024 - c)) := L0.cell 0
  have a1 := L0.frozen 0
  have K0 : Kept (EAf gl) w (w.alloc o) := (Kept.refl _ w).alloc o
  have q1 : IntKind.i64.wrap (1024 - (c : Int) - 1) = 1024 - c - 1 := IntWalk.i64_in _ (by omega)
  have L1 : Blk ((w.alloc o).setCell ⟨gl, 0, none⟩ (.int .i64 (1024 - c - 1))) gl 3 #[.int .i64 (1024 - c - 1)] := L0.set0 _
  have b0 : ((w.alloc o).setCell ⟨gl, 0, none⟩ (.int .i64 (1024 - c - 1))).cell? ⟨gl, 0, none⟩ = some (.int .i64 (1024 - c - 1)) := L1.cell 0
  have HP := hid (And.intro L1 (K0.setCell (p := ⟨gl, 0, none⟩) (.inl rfl) (.int .i64 (1024 - c - 1))))
  subst ho
  clear hl hl2 L0 K0 L1
  by_cases h1 : c = 1024
  · rw [show litR 0 c q m = (c, 3) from if_pos h1]
    have q2 : ¬ (1024 : Int) - c - 1 ≥ 0 := by omega
    clear h1
    go_enter Tryd.func46, Tryd.ntmps46
    go_wp2
    go_ret
    exact ⟨ret_bool (by simp; omega), ⟨_, HP.out.1, fun h => (by cases h)⟩, HP.out.2⟩
  · rw [show litR 0 c q m = (c + 1, 0) from by unfold litR; rw [if_neg h1, if_neg hm]]
    have q2 : (1024 : Int) - c - 1 ≥ 0 := by omega
    go_enter Tryd.func46, Tryd.ntmps46
    go_wp2
    go_ret
    exact ⟨ret_bool (by simp; omega), ⟨_, HP.out.1, fun _ => by omega⟩, HP.out.2⟩
def EachD (S : Nat → Prop) (p pv c : Nat) (σ : Sg) (cur : Array Value) (gl : Nat) (k : Nat) : Prop :=
  ∀ (t u : Ty) (v : Value) (w : World) (cnt : Nat), cnt ≤ 1024 → wrF σ k t = some u → goodT σ.length t = true → (∀ b, S b → b < w.heap.size) → TAt w S t v → Tb S w p pv c σ cur → EA gl (cnt, 0) w →
    Calls Tryd.prog 45 #[.pointer (some ⟨p, 0, none⟩), v, .func (.func 46) #[] #[.pointer (some ⟨gl, 0, none⟩)]] w (LitQ gl (metT 0 u cnt) w)
theorem EA.lt {gl : Nat} {r : Nat × Int} {w : World} (h : EA gl r w) : gl < w.heap.size := by
  obtain ⟨l, h1, _⟩ := h
  exact h1.lt
theorem EA.set4 {gl : Nat} {r : Nat × Int} {w : World} {g : Nat} {v0 v1 v2 v3 : Value} (h : EA gl r w) (h1 : gl ≠ g) : EA gl r ((((w.setCell ⟨g, 0, none⟩ v0).setCell ⟨g, 1, none⟩ v1).setCell ⟨g, 2, none⟩ v2).setCell ⟨g, 3, none⟩ v3) := by
  obtain ⟨l, a, b⟩ := h
  exact ⟨l, (set4_other h1).trans a, b⟩
set_option maxHeartbeats 8000000 in
set_option maxRecDepth 100000 in
theorem eachA_node (S : Nat → Prop) (p pv c : Nat) (σ : Sg) (cur : Array Value) (gl : Nat) (k : Nat) (hok : Ok σ) (hgS : ¬ S gl ∧ gl ≠ p ∧ gl ≠ pv) (ih : EachD S p pv c σ cur gl k) : EachD S p pv c σ cur gl (k + 1) := by
  intro t u v w cnt hc hw hg hS hv hT hE
  obtain ⟨h, hH, hw2⟩ := Hd.of_wrF hw
  have hgh := hH.good hok hg
  have hfree := hH.end_
  obtain ⟨q2, s2, n2, us⟩ := h
  obtain ⟨vs, rfl, hvl, hkid⟩ := wrF_parts hgh hfree hw2
  have hgl := kids_good hgh
  have HM := hid (show ¬ (q2 = 2 ∧ n2 = 0) from by rintro ⟨rfl, rfl⟩; have := good_var hgh; omega)
  have hEl := hE.lt
  have HV := hid hv
  obtain ⟨q, s, m, A, m9, c9, rfl⟩ := hv.agg
  have HT := hid hT
  have HE := hid hE
  have HS := hid (And.intro hS (And.intro hgS hEl))
  have HG := hid (And.intro hok (And.intro hg (And.intro (hd_eq hH) (And.intro hc (And.intro hvl (And.intro hkid hgl))))))
  have HI := hid ih
  rw [metT_lit]
  clear hv hT hE hS hgS hok hg hH hw hw2 hgh hfree hvl hkid hgl ih hEl
  by_cases hr : (litR 0 cnt q2 n2).2 = 0
  case neg =>
    rw [if_neg hr]
    generalize hr2 : litR 0 cnt q2 n2 = r at hr
    have hd : decide (r.2 = 0) = false := by simpa using hr
    have Hr := hid (And.intro hr2 hd)
    clear hr hr2 hd hc
    go_enter Tryd.func45, Tryd.ntmps45
    go_wp2_with (first
      | (go_at_call 54; go_must (refine (links_Head S p pv c σ cur t _ _ (HT.out.up (by go_grown : Below w.heap.size w _)) HG.out.1 HG.out.2.1 (HV.out.up (by go_grown : Below w.heap.size w _))).mono ?_); rintro e w1 ⟨⟨v', rfl, hv'⟩, b1⟩; go_must (rw [HG.out.2.2.1] at hv'; obtain ⟨A2, c2, rfl, k1, k2, k3, k4, k5, k6⟩ := hv'.parts; have b2 := hid (below_then (B := w.heap.size) b1 (by go_grown : Below w.heap.size w _) (by simp)); have X1 := hid ((Blk.new w 24 #[.int .i64 q, .string s, .int .i64 m, .slice A m9 c9]).below b1 (by simp)); have x0 : w1.cell? ⟨w.heap.size, 0, none⟩ = some (.int .i64 q) := X1.out.cell 0; have x1 : w1.cell? ⟨w.heap.size, 1, none⟩ = some (.string s) := X1.out.cell 1; have x2 : w1.cell? ⟨w.heap.size, 2, none⟩ = some (.int .i64 m) := X1.out.cell 2; have x3 : w1.cell? ⟨w.heap.size, 3, none⟩ = some (.slice A m9 c9) := X1.out.cell 3; have f0 := X1.out.frozen 0; have f1 := X1.out.frozen 1; have f2 := X1.out.frozen 2; have f3 := X1.out.frozen 3; have Y1 := hid (set4_blk (v0 := .int .i64 q2) (v1 := .string s2) (v2 := .int .i64 n2) (v3 := .slice A2 us.length c2) X1.out); have y0 : _ = some (Value.int .i64 q2) := Y1.out.cell 0; have y1 : _ = some (Value.string s2) := Y1.out.cell 1; have y2 : _ = some (Value.int .i64 n2) := Y1.out.cell 2; have y3 : _ = some (Value.slice A2 us.length c2) := Y1.out.cell 3; have KB := hid (And.intro (k4.mono (T := S) (fun b hb _ => hb.1)) (And.intro k1 k2)); clear k1 k2 k3 k4 k5 k6 b1 hv'))
      | (go_at_call 46; go_must (refine (app_lit gl cnt HG.out.2.2.2.1 q2 s2 n2 HM.out A2 us.length c2 _ ((HE.out.below b2.out).set4 (by have := HS.out.2.2; omega))).mono ?_); rw [Hr.out.1]; rintro e w3 ⟨he, hE3, hK3⟩; go_must (rw [Hr.out.2] at he; subst he; have HZ := hid (And.intro hE3 hK3); clear hE3 hK3)))
    go_ret
    exact ⟨ret_bool Hr.out.2.symm, HZ.out.1, HZ.out.2.hop ((Kept.of_below b2.out _).set4 (Nat.le_refl _))⟩
  rw [if_pos hr]
  obtain ⟨hr2, hc1⟩ := litR_ok hc hr
  have Hr := hid (And.intro hr2 hc1)
  clear hr hr2 hc1 hc
  have hSn : ∀ b, S b → ¬ EAf gl b := fun b hb e => by unfold EAf at e; subst e; exact HS.out.2.1.1 hb
  have hSw : ¬ S w.heap.size := fun h => by have := HS.out.1 _ h; omega
  have HN := hid (And.intro hSn hSw)
  clear hSn hSw
  go_enter Tryd.func45, Tryd.ntmps45
  go_wp2_with (first
    | (go_at_call 54; go_must (refine (links_Head S p pv c σ cur t _ _ (HT.out.up (by go_grown : Below w.heap.size w _)) HG.out.1 HG.out.2.1 (HV.out.up (by go_grown : Below w.heap.size w _))).mono ?_); rintro e w1 ⟨⟨v', rfl, hv'⟩, b1⟩; go_must (rw [HG.out.2.2.1] at hv'; obtain ⟨A2, c2, rfl, k1, k2, k3, k4, k5, k6⟩ := hv'.parts; have b2 := hid (below_then (B := w.heap.size) b1 (by go_grown : Below w.heap.size w _) (by simp)); have X1 := hid ((Blk.new w 24 #[.int .i64 q, .string s, .int .i64 m, .slice A m9 c9]).below b1 (by simp)); have x0 : w1.cell? ⟨w.heap.size, 0, none⟩ = some (.int .i64 q) := X1.out.cell 0; have x1 : w1.cell? ⟨w.heap.size, 1, none⟩ = some (.string s) := X1.out.cell 1; have x2 : w1.cell? ⟨w.heap.size, 2, none⟩ = some (.int .i64 m) := X1.out.cell 2; have x3 : w1.cell? ⟨w.heap.size, 3, none⟩ = some (.slice A m9 c9) := X1.out.cell 3; have f0 := X1.out.frozen 0; have f1 := X1.out.frozen 1; have f2 := X1.out.frozen 2; have f3 := X1.out.frozen 3; have Y1 := hid (set4_blk (v0 := .int .i64 q2) (v1 := .string s2) (v2 := .int .i64 n2) (v3 := .slice A2 us.length c2) X1.out); have y0 : _ = some (Value.int .i64 q2) := Y1.out.cell 0; have y1 : _ = some (Value.string s2) := Y1.out.cell 1; have y2 : _ = some (Value.int .i64 n2) := Y1.out.cell 2; have y3 : _ = some (Value.slice A2 us.length c2) := Y1.out.cell 3; have KB := hid (And.intro (k4.mono (T := S) (fun b hb _ => hb.1)) (And.intro k1 k2)); clear k1 k2 k3 k4 k5 k6 b1 hv'))
    | (go_at_call 46; go_must (refine (app_lit gl cnt HG.out.2.2.2.1 q2 s2 n2 HM.out A2 us.length c2 _ ((HE.out.below b2.out).set4 (by have := HS.out.2.2; omega))).mono ?_); rw [Hr.out.1]; rintro e w3 ⟨rfl, hE3, hK3⟩; go_must (have Z1 := hid (Y1.out.kept hK3 (by unfold EAf; have := HS.out.2.2; omega)); have z3 : w3.cell? ⟨w.heap.size, 3, none⟩ = some (.slice A2 us.length c2) := Z1.out.cell 3; have KZ := hid (hK3.hop ((Kept.of_below b2.out _).set4 (Nat.le_refl _))); have HZ := hid (And.intro hE3 ((KB.out.1.set4 HN.out.2).kept hK3 HN.out.1)); have hL : us.length ≤ 9223372036854775807 := (by have h1 := KB.out.2.1; have h2 := KB.out.2.2; unfold maxLen at h2; omega); have HTw := hid ((((HT.out.up b2.out).set4 HN.out.2 (by have := HT.out.blk.lt; omega) (by have := HT.out.row.lt; omega)).kept hK3 HN.out.1 (by unfold EAf; have := HS.out.2.1; omega) (by unfold EAf; have := HS.out.2.1; omega))); clear hE3 hK3 X1 Y1 KB x0 x1 x2 x3 f0 f1 f2 f3 y0 y1 y2 y3)))
  go_loopg [19] us.length (fun gk x wr => ∃ (i ci : Nat), i + gk = us.length ∧ x = .int .i64 i ∧ Hid (ci ≤ 1024) ∧ Hid (EA gl (ci, 0) wr) ∧ Hid (metL 0 vs (cnt + 1) = metL 0 (vs.drop i) ci) ∧ Hid (Kept (EAf gl) w3 wr))
  case atStart => exact ⟨0, cnt + 1, by omega, rfl, hid Hr.out.2, hid HZ.out.1, hid rfl, hid (Kept.refl _ _)⟩
  case round =>
    obtain ⟨i, ci, hi, rfl, hci, hE, hm, hK⟩ := hrel
    have Hi := hid hi
    by_cases hlt : i < us.length
    · have hlt' : (i : Int) < us.length := by omega
      obtain ⟨ad, q', s', n', A3, m', c3, rfl, hSb, hab, y0, y1, y2, y3, hel⟩ := (HZ.out.2.kept hK.out HN.out.1).elem hlt
      have hlv : i < vs.length := by have := HG.out.2.2.2.2.1; omega
      have hmd := metL_drop (x := 0) (c := ci) hlv
      have Q := hid (And.intro hel (And.intro (HG.out.2.2.2.2.2.1 i hlt hlv) (goodL_mem HG.out.2.2.2.2.2.2 _ (List.getElem_mem hlt))))
      clear hi hSb hab hel
      have hsz : w.heap.size ≤ wr.heap.size := Nat.le_trans KZ.out.size hK.out.size
      have Hsz := hid hsz
      clear hsz
      generalize vs[i] = v1 at Q hmd
      clear hlv
      by_cases hr3 : (metT 0 v1 ci).2 = 0
      case neg =>
        rw [if_neg hr3] at hmd
        have hd : decide ((metT 0 v1 ci).2 = 0) = false := by simpa using hr3
        have Hd3 := hid (And.intro hmd hd)
        clear hmd hd hr3
        go_wp2_with (go_at_call 45; go_must (refine (HI.out _ _ _ _ ci hci.out Q.out.2.1 Q.out.2.2 (fun b hb => by have h1 := HS.out.1 b hb; have h2 := Hsz.out; simp; omega) (Q.out.1.up (by go_grown : Below wr.heap.size wr _)) ((HTw.out.kept hK.out HN.out.1 (by unfold EAf; have := HS.out.2.1; omega) (by unfold EAf; have := HS.out.2.1; omega)).up (by go_grown : Below wr.heap.size wr _)) (hE.out.below (by go_grown : Below wr.heap.size wr _))).mono ?_); rintro e w4 ⟨he, hE4, hK4⟩; go_must (rw [Hd3.out.2] at he; subst he; have H4 := hid (And.intro hE4 (hK4.hop (((Kept.refl _ wr).alloc _)))); clear hE4 hK4))
        go_ret
        refine ⟨ret_bool ?_, ?_, (H4.out.2.hop hK.out).hop KZ.out⟩
        · rw [hm.out, Hd3.out.1]; exact Hd3.out.2.symm
        · rw [hm.out, Hd3.out.1]; exact H4.out.1
      · rw [if_pos hr3] at hmd
        obtain ⟨c1, c2', _⟩ := metT_ok 0 v1 ci hci.out hr3
        have hd : decide ((metT 0 v1 ci).2 = 0) = true := by simpa using hr3
        have hrr : metT 0 v1 ci = ((metT 0 v1 ci).1, 0) := Prod.ext rfl hr3
        have Hd3 := hid (And.intro hmd (And.intro hd (And.intro hrr (show (metT 0 v1 ci).1 ≤ 1024 by omega))))
        clear hmd hd hr3 hrr c1 c2'
        go_wp2_with (go_at_call 45; go_must (refine (HI.out _ _ _ _ ci hci.out Q.out.2.1 Q.out.2.2 (fun b hb => by have h1 := HS.out.1 b hb; have h2 := Hsz.out; simp; omega) (Q.out.1.up (by go_grown : Below wr.heap.size wr _)) ((HTw.out.kept hK.out HN.out.1 (by unfold EAf; have := HS.out.2.1; omega) (by unfold EAf; have := HS.out.2.1; omega)).up (by go_grown : Below wr.heap.size wr _)) (hE.out.below (by go_grown : Below wr.heap.size wr _))).mono ?_); rintro e w4 ⟨he, hE4, hK4⟩; go_must (rw [Hd3.out.2.1] at he; subst he; rw [Hd3.out.2.2.1] at hE4; have H4 := hid (And.intro hE4 (hK4.hop (((Kept.refl _ wr).alloc _)))); clear hE4 hK4))
        have hgk := Hi.out
        go_roundg (gk - 1)
        case rel => exact ⟨i + 1, (metT 0 v1 ci).1, by omega, rfl, hid Hd3.out.2.2.2, hid H4.out.1, hid (by rw [hm.out, Hd3.out.1]), hid (H4.out.2.hop hK.out)⟩
        case measure => omega
    · obtain rfl : i = us.length := by omega
      clear hi
      go_wp2
      go_ret
      have e9 : metL 0 vs (cnt + 1) = (ci, 0) := by rw [hm.out, List.drop_of_length_le (by have := HG.out.2.2.2.2.1; omega), metL]
      refine ⟨ret_bool ?_, ?_, hK.out.hop KZ.out⟩
      · rw [e9]; rfl
      · rw [e9]; exact hE.out
theorem links_eachA (S : Nat → Prop) (p pv c : Nat) (σ : Sg) (cur : Array Value) (gl : Nat) (hok : Ok σ) (hgS : ¬ S gl ∧ gl ≠ p ∧ gl ≠ pv) : ∀ k, EachD S p pv c σ cur gl k
  | 0 => fun t u v w cnt _ hw => by cases hw
  | k + 1 => eachA_node S p pv c σ cur gl k hok hgS (links_eachA S p pv c σ cur gl hok hgS k)
end Go.Proofs.YtnlifgcnmhakiaaDoor
