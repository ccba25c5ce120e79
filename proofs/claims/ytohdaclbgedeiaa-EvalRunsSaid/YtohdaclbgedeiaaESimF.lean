/-
  THE WALK OF eval.machine.simple: a field.
-/
import Derived.Test.YtohdaclbgedeiaaESimC
import Derived.Test.YtohdaclbgedeiaaESimE
import Derived.Deep.RegionHeld2
namespace Go.Proofs.Ytohdaclbgedeiaa
set_option linter.all false
open Go.ChangeShapes Go.WideShapes Go.ChangeAt Go.RowKit
open Ev (Co Va En Out evL ev R bnd field)
/-- What is done behind the parts' values. -/
def finO (f : List Va → R Va) (s : Nat) (ws : List Int) (o : Out (List Va)) (oo : Out Va) (s2 : Nat) (ws2 : List Int) : Prop := match o with
  | .ok vs => f vs = some (oo, s2, ws2)
  | .stop k => oo = .stop k ∧ s2 = s ∧ ws2 = ws
def FieldIs (n : Int) (s : Nat) (ws : List Int) (oo : Out Va) (ds : List Va) : Prop := (∃ t us v, ds = [.con t us] ∧ us[n.toNat]? = some v ∧ oo = .ok v) ∨ (∃ t us, ds = [.con t us] ∧ us[n.toNat]? = none ∧ oo = .stop (-1)) ∨ (∃ u, ds = [u] ∧ (∀ t us, u ≠ .con t us) ∧ oo = .stop (-1))
theorem field_is {n : Int} {s : Nat} {ws : List Int} {ds : List Va} {oo : Out Va} {s2 : Nat} {ws2 : List Int} (h : field n s ws ds = some (oo, s2, ws2)) : FieldIs n s ws oo ds ∧ s2 = s ∧ ws2 = ws := by
  match ds, h with
  | [], h => exact absurd h (by simp [field])
  | [.con t us], h =>
    rw [field] at h
    cases h1 : us[n.toNat]? with
    | none =>
      rw [h1] at h
      injection h with h; injection h with h2 h; injection h with h3 h4
      exact ⟨.inr (.inl ⟨t, us, rfl, h1, h2.symm⟩), h3.symm, h4.symm⟩
    | some v =>
      rw [h1] at h
      injection h with h; injection h with h2 h; injection h with h3 h4
      exact ⟨.inl ⟨t, us, v, rfl, h1, h2.symm⟩, h3.symm, h4.symm⟩
  | [.num m], h =>
    have h2 : some (Out.stop (-1), s, ws) = some (oo, s2, ws2) := h
    injection h2 with h2; injection h2 with h3 h2; injection h2 with h4 h5
    exact ⟨.inr (.inr ⟨_, rfl, fun t us e => (by cases e), h3.symm⟩), h4.symm, h5.symm⟩
  | [.clo a b c d], h =>
    have h2 : some (Out.stop (-1), s, ws) = some (oo, s2, ws2) := h
    injection h2 with h2; injection h2 with h3 h2; injection h2 with h4 h5
    exact ⟨.inr (.inr ⟨_, rfl, fun t us e => (by cases e), h3.symm⟩), h4.symm, h5.symm⟩
  | _ :: _ :: _, h => exact absurd h (by simp [field])
theorem as_con_bad {w : World} {S : Nat → Prop} {u : Va} {v : Value} (h : VAt w S u v) (hn : ∀ t us, u ≠ .con t us) (w9 : World) : (Instr.typeAssert v 91 79 true).run Try.prog w9 = .ok (.tuple #[.pointer none, .bool false]) w9 := by
  cases u with
  | num n => rw [VAt] at h; obtain ⟨rfl, _⟩ := h; exact as_con_num n w9
  | con t us => exact absurd rfl (hn t us)
  | clo x self b e => rw [VAt] at h; obtain ⟨p, bp, ep, rfl, _⟩ := h; exact as_con_fun _ w9
theorem Below.drewN2 {w : World} (m n : Nat) : Below w.heap.size w ((w.drewN m).drewN n) := ⟨rfl, rfl, rfl, Nat.le_refl _, fun _ _ => rfl⟩
theorem sim_out {P : Nat → Prop} {M F s : Nat} {ws : List Int} {wv wvi : Value} {w wr w' : World} {u : Va} {v : Value} (h : MSt wr M F s ws wvi ∧ MStep M wv wvi w wr) (hb : Below wr.heap.size wr w') (hv : VAt wr (SfT M wvi (Now P w)) u v) : EvP P (.ok u) F s ws M wv w (.returned v) w' := ⟨wvi, h.1.below hb, h.2.below hb, v, rfl, hv.up hb⟩
theorem sim_die {P : Nat → Prop} {M F s : Nat} {ws : List Int} {wv wvi : Value} {w wr w' : World} {k : Int} (h : MSt wr M F s ws wvi ∧ MStep M wv wvi w wr) (hb : Below wr.heap.size wr w') : EvP P (.stop k) F s ws M wv w (.panicked [stopV k]) w' := ⟨wvi, h.1.below hb, h.2.below hb, rfl⟩
theorem want_no2 (w : World) : Calls Try.prog 62 #[.bool false] w fun e w' => (e = .returned (.tuple #[]) ∧ w' = w ∧ Hid False) ∨ (e = .panicked [stopV (-1)] ∧ w' = w) := (want_no w).mono (fun e w' h => .inr h)
set_option maxHeartbeats 8000000 in
set_option maxRecDepth 100000 in
theorem simple_field (P : Nat → Prop) (w : World) (M F g s : Nat) (ws : List Int) (wv : Value) (cp : Addr) (x y n : Int) (i : Bool) (ts : List Int) (us : List Co) (e : En) (ep : Option Addr) (o : Out (List Va)) (s' : Nat) (ws' : List Int) (hC : EvC F g) (hm : MSt w M F s ws wv) (hc : CPt w (SfT M wv P) cp (.mk 8 x y n i ts us)) (he : EAt w (SfT M wv P) e ep) (hL : evL (fun c s w => ev F g c e s w) us s ws = some (o, s', ws')) (hn0 : ∀ vs, o = .ok vs → 0 ≤ n) (oo : Out Va) (s2 : Nat) (ws2 : List Int) (hF : finO (field n s' ws') s' ws' o oo s2 ws2):
    Calls Try.prog 64 #[.pointer (some ⟨M, 0, none⟩), .pointer (some cp), .pointer ep] w (EvP P oo F s2 ws2 M wv w) := by
  have HF := hid hF
  have HN0 := hid hn0
  clear hF hn0
  have hul9 := evL_len hL
  obtain ⟨T, tc, A, c, hcells, hI, hsz, hrow, hwf⟩ := hc.cells
  have hlc := cell_lt hcells.1
  have hul := hsz.2.2.2
  have HC := hid (And.intro hcells (And.intro hlc (And.intro hrow (And.intro hC (And.intro he hm)))))
  have HL0 := hid hL
  have HI0 := hid (And.intro hI hwf)
  have hSc := hc.1
  have HSC := hid hSc
  obtain ⟨z0, z1, z2, z3, z4, z5, z6⟩ := hcells
  clear hc hI hsz hrow hwf hC he hm hL hlc hSc
  go_enter Try.func64, Try.ntmps64
  go_wp2
  go_loopg [62, 7] us.length (fun gg z lv wr => ∃ (j si : Nat) (wsi : List Int) (wvi : Value) (ds : List Va) (xs : List Value) (r : Out (List Va)) (A7 : Option Addr) (c7 : Nat), j + gg = us.length ∧ z = .int .i64 j ∧ lv = .slice A7 j c7 ∧ Hid (MSt wr M F si wsi wvi ∧ MStep M wv wvi w wr) ∧ Hid (BldV w.heap.size M wvi (.slice A7 j c7) (Now P w) ds j xs wr) ∧ Hid (evL (fun c s w => ev F g c e s w) (us.drop j) si wsi = some (r, s', ws') ∧ o = pre ds r))
  case atStart => exact ⟨0, s, ws, wv, [], [], o, none, 0, by omega, rfl, rfl, hid ⟨HC.out.2.2.2.2.2, MStep.refl _ _ _⟩, hid (BldV.start _ _ _ _ _), hid ⟨HL0.out, by cases o <;> rfl⟩⟩
  case round =>
    obtain ⟨j, si, wsi, wvi, ds, xs, r, A7, c7, hj, rfl, rfl, hMS, hB, hE⟩ := hrel
    have Hj := hid hj
    have hkc : wr.heap[cp.block]? = w.heap[cp.block]? := (hMS.out.2.keeps cp.block HSC.out.1 HC.out.2.1).1
    obtain ⟨y0, y1, y2, y3, y4, y5, y6⟩ := at7_keep hkc rfl HC.out.1
    by_cases hlt : j < us.length
    case pos =>
      have hlt' : (j : Int) < us.length := by omega
      have HLT := hid hlt
      have hdr : us.drop j = us[j]'hlt :: us.drop (j + 1) := List.drop_eq_getElem_cons hlt
      have hE1 := hE.out.1
      rw [hdr] at hE1
      obtain ⟨ad, hA, hpt⟩ := HC.out.2.2.1.pt hlt
      subst hA
      have hpt2 : CPt wr (SfT M wvi (fun b => P b ∧ b < w.heap.size)) (ad.add (j * 7)) (us[j]'hlt) := hpt.keep (fun k hk hl => ⟨(hMS.out.2.keepT k hk hl).1, (hMS.out.2.keepT k hk hl).2.1, hk.2, hl⟩)
      have he2 : EAt wr (SfT M wvi (fun b => P b ∧ b < w.heap.size)) e ep := EAt.keep (fun k hk hl => ⟨(hMS.out.2.keepT k hk hl).1, (hMS.out.2.keepT k hk hl).2.1, hk.2, hl⟩) _ _ HC.out.2.2.2.2.1
      have HPE := hid (And.intro hpt2 he2)
      clear hj hdr hkc hpt hpt2 he2
      rcases evL_cons hE1 with ⟨k, h1, h2⟩ | ⟨v, s1, w1', r2, h1, h2, h3⟩
      · have C := hid (HC.out.2.2.2.1 _ _ _ _ _ _ _ h1 _ wr M _ _ wvi hMS.out.1 HPE.out.1 HPE.out.2)
        have HO := hid (show o = .stop k by rw [hE.out.2, h2]; rfl)
        clear h1 h2 hE1
        go_wp2_with (go_at_call 50; go_must (refine C.out.mono ?_); rintro e9 w1 ⟨wv1, hm1, hs1, h9⟩; go_must (have h8 : e9 = .panicked [stopV k] := h9; subst h8; have G := hid (And.intro hm1 hs1); clear hm1 hs1 h9))
        refine ⟨rfl, ?_⟩
        (have hF := HF.out; rw [HO.out] at hF; obtain ⟨rfl, rfl, rfl⟩ := hF; exact sim_stop hMS.out.2 G.out)
      · have C := hid (HC.out.2.2.2.1 _ _ _ _ _ _ _ h1 _ wr M _ _ wvi hMS.out.1 HPE.out.1 HPE.out.2)
        have HO := hid (show o = pre (ds ++ [v]) r2 by rw [hE.out.2, h3, pre_pre])
        have HE := hid h2
        clear h1 h2 h3 hE1
        go_wp2_with (first
          | (go_at_call 50; (refine C.out.mono ?_); rintro e9 w1 ⟨wv1, hm1, hs1, h9⟩; (obtain ⟨vv, h8, hvv⟩ := h9; subst h8; obtain ⟨tt, xx, rfl⟩ := hvv.iface; have G := hid (And.intro hm1 (And.intro hs1 hvv)); clear hm1 hs1 hvv))
          | (at_builtin; go_must (have hO := World.ownsRow.alloc (hB.out.step G.out.2.1).row (.cells #[.iface tt xx] 91); have hCl : (w1.alloc (.cells #[.iface tt xx] 91)).cell? ⟨w1.heap.size, 0, none⟩ = some (.iface tt xx) := (Blk.new w1 _ #[.iface tt xx]).cell 0; have hL1 : j + 1 ≤ 1000000 := (by omega); have hL2 : w.heap.size ≤ (w1.alloc (.cells #[.iface tt xx] 91)).heap.size := by (have h1 := G.out.2.1.size; have h2 := hMS.out.2.size; simp; omega)); go_must (refine wpList_appV (by rfl) _ _ (by rfl) w.heap.size (by rfl) hO (by rfl) hCl (by rfl) hL1 hL2 ?_); clear hO hCl hL1 hL2; intro lv2 w2 hr2 hg2 hn2; go_must (obtain ⟨A8, c8, rfl⟩ := row_sliceV hr2); have R2 := hid (And.intro hr2 (And.intro hg2 hn2)); clear hr2 hg2 hn2))
        have N := hid (sim_next hMS.out.2 hB.out G.out.1 G.out.2.1 G.out.2.2 R2.out.1 R2.out.2.1 R2.out.2.2)
        have hgk := Hj.out
        have hlt9 := HLT.out
        go_roundg (gk - 1)
        case rel => exact ⟨j + 1, s1, w1', wv1, ds ++ [v], xs ++ [.iface tt xx], r2, A8, c8, by omega, by go_num, rfl, hid ⟨N.out.1, N.out.2.1⟩, hid N.out.2.2, hid ⟨HE.out, HO.out⟩⟩
        case measure => omega
    case neg =>
      obtain rfl : j = us.length := by omega
      have hE1 := hE.out.1
      rw [List.drop_length, evL] at hE1
      injection hE1 with hE1
      injection hE1 with hE2 hE1
      injection hE1 with hE3 hE4
      subst hE2 hE3 hE4
      have hF := HF.out
      rw [hE.out.2, pre, List.append_nil] at hF
      have hn0 := HN0.out ds (by rw [hE.out.2, pre, List.append_nil])
      obtain ⟨hF, rfl, rfl⟩ := field_is hF
      have hD := hB.out.done (fun b h => .inr h)
      rcases hF with ⟨t, us2, v, rfl, hv, rfl⟩ | ⟨t, us2, rfl, hv, rfl⟩ | ⟨u, rfl, hu, rfl⟩
      · obtain ⟨ad, vv, hA, hS, hcell, hvv⟩ := hD.2.get (k := 0) (by simp)
        subst hA
        have e0 : ad.add (0 + 0) = ad := by unfold Addr.add; simp
        rw [e0] at hcell
        have hvv2 : VAt wr (SfT M wvi (Now P w)) (.con t us2) vv := hvv
        rw [VAt] at hvv2
        obtain ⟨⟨p, A2, c2, rfl, hSp, hp, hrow2⟩, hwt, hul2⟩ := hvv2
        obtain ⟨hlt2, hv2⟩ := List.getElem?_eq_some_iff.1 hv
        obtain ⟨ad2, vv2, hA2, hS2, hcell2, hvv3⟩ := hrow2.get hlt2
        subst hA2
        obtain ⟨vt, vx, rfl⟩ := hvv3.iface
        have hn9 : n < (us2.length : Int) := by omega
        obtain ⟨m, rfl⟩ : ∃ m : Nat, n = m := ⟨n.toNat, by omega⟩
        have em : (m : Int).toNat = m := by simp
        have hcell3 : wr.cell? (ad2.add m) = some (.iface vt vx) := by rw [← hcell2]; congr 2; omega
        have HV := hid (show VAt wr (SfT M wvi (Now P w)) v (.iface vt vx) by rw [← hv2]; exact hvv3)
        have c0 : wr.cell? ⟨p, 0, none⟩ = some (.int .i64 t) := hp.cell 0
        have c1 : wr.cell? ⟨p, 1, none⟩ = some (.slice (some ad2) us2.length c2) := hp.cell 1
        have hul1 : us.length = 1 := by simpa using hD.1
        have hta := as_con_con (some ⟨p, 0, none⟩)
        have d1 : decide ((m : Int) < (us2.length : Int)) = true := decide_eq_true hn9
        clear hj hkc hv hvv hvv3 hD hrow2 hcell2 em hSp hS hS2 hp hwt
        go_wp2_with (go_at_call 62; first | (refine (want_yes _).mono ?_; rintro e8 w9 ⟨rfl, h9⟩; have h8 := h9.symm; subst h8; clear h9) | (refine (want_no _).mono ?_; rintro e8 w9 ⟨rfl, h9⟩; have h8 := h9.symm; subst h8; clear h9))
        go_quiet ((go_at_call 62; exact Calls.quiet_of_same (want_yes _)))
        go_wp2_with (go_at_call 62; first | (refine (want_yes _).mono ?_; rintro e8 w9 ⟨rfl, h9⟩; have h8 := h9.symm; subst h8; clear h9) | (refine (want_no _).mono ?_; rintro e8 w9 ⟨rfl, h9⟩; have h8 := h9.symm; subst h8; clear h9))
        go_quiet (fail)
        go_wp2
        go_ret
        exact sim_out hMS.out (Below.drewN2 (w := wr) _ _) HV.out
      · obtain ⟨ad, vv, hA, hS, hcell, hvv⟩ := hD.2.get (k := 0) (by simp)
        subst hA
        have e0 : ad.add (0 + 0) = ad := by unfold Addr.add; simp
        rw [e0] at hcell
        have hvv2 : VAt wr (SfT M wvi (Now P w)) (.con t us2) vv := hvv
        rw [VAt] at hvv2
        obtain ⟨⟨p, A2, c2, rfl, hSp, hp, hrow2⟩, hwt, hul2⟩ := hvv2
        have hlt2 := List.getElem?_eq_none_iff.1 hv
        have c0 : wr.cell? ⟨p, 0, none⟩ = some (.int .i64 t) := hp.cell 0
        have c1 : wr.cell? ⟨p, 1, none⟩ = some (.slice A2 us2.length c2) := hp.cell 1
        have hul1 : us.length = 1 := by simpa using hD.1
        have hta := as_con_con (some ⟨p, 0, none⟩)
        have d1 : decide (n < (us2.length : Int)) = false := decide_eq_false (by omega)
        clear hj hkc hv hvv hD hrow2 hSp hS hp hwt hlt2
        go_wp2_with (go_at_call 62; first | (refine (want_yes _).mono ?_; rintro e8 w9 ⟨rfl, h9⟩; have h8 := h9.symm; subst h8; clear h9) | (refine (want_no _).mono ?_; rintro e8 w9 ⟨rfl, h9⟩; have h8 := h9.symm; subst h8; clear h9))
        go_region_held2 (fun w' => w'.cell? ⟨cp.block, cp.off + 3, none⟩ = some (.int .i64 n) ∧ w'.cell? ⟨p, 1, none⟩ = some (.slice A2 us2.length c2) ∧ Below wr.heap.size wr w') (first | exact ⟨y3, c1, Below.drew (Below.refl _ _)⟩ | go_keep) ((go_at_call 62; (refine (want_no2 _).mono ?_); rintro e8 w9 h9; rcases h9 with ⟨rfl, h8, HFA⟩ | ⟨rfl, h8⟩; rotate_left; (have h7 := h8.symm; subst h7; clear h8; exact ⟨rfl, sim_die hMS.out (Below.drew (Below.refl _ _))⟩); have h7 := h8.symm; subst h7; clear h8))
        all_goals exact HFA.out.elim
      · obtain ⟨ad, vv, hA, hS, hcell, hvv⟩ := hD.2.get (k := 0) (by simp)
        subst hA
        have e0 : ad.add (0 + 0) = ad := by unfold Addr.add; simp
        rw [e0] at hcell
        have hvv2 : VAt wr (SfT M wvi (Now P w)) u vv := hvv
        obtain ⟨vt, vx, rfl⟩ := hvv2.iface
        have hta := as_con_bad hvv2 hu
        have hul1 : us.length = 1 := by simpa using hD.1
        clear hj hkc hvv hvv2 hD hS hu
        go_wp2_with (go_at_call 62; first | (refine (want_yes _).mono ?_; rintro e8 w9 ⟨rfl, h9⟩; have h8 := h9.symm; subst h8; clear h9) | (refine (want_no _).mono ?_; rintro e8 w9 ⟨rfl, h9⟩; have h8 := h9.symm; subst h8; clear h9))
        refine wp_region_held_drew (S := fun w' => Below wr.heap.size wr w') (by kernel_rfl) (Below.drew (Below.refl _ _)) (fun hHeld => ?_)
        refine take_d (some 101) (i := 0) (v := .bool false) rfl rfl (by kernel_rfl) (by kernel_rfl) (by kernel_rfl) (fun _ _ _ h => h) (.inl ⟨by rfl, fun w7 hS7 => (by (try dsimp only at hS7); go_simp)⟩) (by assumption) ?_; try simp only [Act.put, List.setIfInBounds_toArray, List.set_cons_zero, List.set_cons_succ]
        refine take_d (some 102) (i := 1) (v := .bool false) rfl rfl (by kernel_rfl) (by kernel_rfl) (by kernel_rfl) (fun _ _ _ h => h) (.inl ⟨by rfl, fun w7 hS7 => (by (try dsimp only at hS7); go_simp)⟩) (by assumption) ?_; try simp only [Act.put, List.setIfInBounds_toArray, List.set_cons_zero, List.set_cons_succ]
        refine take_d (some 103) (i := 2) (v := undef) rfl rfl (by kernel_rfl) (by kernel_rfl) (by kernel_rfl) (fun _ _ _ h => h) (.inr ⟨by rfl, rfl⟩) (by assumption) ?_; try simp only [Act.put, List.setIfInBounds_toArray, List.set_cons_zero, List.set_cons_succ]
        refine take_d (some 104) (i := 3) (v := undef) rfl rfl (by kernel_rfl) (by kernel_rfl) (by kernel_rfl) (fun _ _ _ h => h) (.inr ⟨by rfl, rfl⟩) (by assumption) ?_; try simp only [Act.put, List.setIfInBounds_toArray, List.set_cons_zero, List.set_cons_succ]
        refine take_d (some 105) (i := 4) (v := undef) rfl rfl (by kernel_rfl) (by kernel_rfl) (by kernel_rfl) (fun _ _ _ h => h) (.inr ⟨by rfl, rfl⟩) (by assumption) ?_; try simp only [Act.put, List.setIfInBounds_toArray, List.set_cons_zero, List.set_cons_succ]
        refine take_d (some 106) (i := 5) (v := undef) rfl rfl (by kernel_rfl) (by kernel_rfl) (by kernel_rfl) (fun _ _ _ h => h) (.inr ⟨by rfl, rfl⟩) (by assumption) ?_; try simp only [Act.put, List.setIfInBounds_toArray, List.set_cons_zero, List.set_cons_succ]
        refine take_d (some 107) (i := 6) (v := undef) rfl rfl (by kernel_rfl) (by kernel_rfl) (by kernel_rfl) (fun _ _ _ h => h) (.inr ⟨by rfl, rfl⟩) (by assumption) ?_; try simp only [Act.put, List.setIfInBounds_toArray, List.set_cons_zero, List.set_cons_succ]
        refine take_d (some 108) (i := 7) (v := undef) rfl rfl (by kernel_rfl) (by kernel_rfl) (by kernel_rfl) (fun _ _ _ h => h) (.inr ⟨by rfl, rfl⟩) (by assumption) ?_; try simp only [Act.put, List.setIfInBounds_toArray, List.set_cons_zero, List.set_cons_succ]
        refine take_d (some 109) (i := 8) (v := undef) rfl rfl (by kernel_rfl) (by kernel_rfl) (by kernel_rfl) (fun _ _ _ h => h) (.inr ⟨by rfl, rfl⟩) (by assumption) ?_; try simp only [Act.put, List.setIfInBounds_toArray, List.set_cons_zero, List.set_cons_succ]
        refine take_d (some 110) (i := 9) (v := undef) rfl rfl (by kernel_rfl) (by kernel_rfl) (by kernel_rfl) (fun _ _ _ h => h) (.inr ⟨by rfl, rfl⟩) (by assumption) ?_; try simp only [Act.put, List.setIfInBounds_toArray, List.set_cons_zero, List.set_cons_succ]
        refine take_d (some 111) (i := 10) (v := undef) rfl rfl (by kernel_rfl) (by kernel_rfl) (by kernel_rfl) (fun _ _ _ h => h) (.inr ⟨by rfl, rfl⟩) (by assumption) ?_; try simp only [Act.put, List.setIfInBounds_toArray, List.set_cons_zero, List.set_cons_succ]
        refine take_d (some 112) (i := 11) (v := undef) rfl rfl (by kernel_rfl) (by kernel_rfl) (by kernel_rfl) (fun _ _ _ h => h) (.inr ⟨by rfl, rfl⟩) (by assumption) ?_; try simp only [Act.put, List.setIfInBounds_toArray, List.set_cons_zero, List.set_cons_succ]
        refine take_d (some 113) (i := 12) (v := .bool false) rfl rfl (by kernel_rfl) (by kernel_rfl) (by kernel_rfl) (fun _ _ _ h => h) (.inl ⟨by rfl, fun w7 hS7 => (by (try dsimp only at hS7); go_simp)⟩) (by assumption) ?_; try simp only [Act.put, List.setIfInBounds_toArray, List.set_cons_zero, List.set_cons_succ]
        refine wpAnyH_ready (rs := [13]) (by kernel_rfl) (by simp) (AllReadyH.cons rfl (fun K hK => ?_) AllReadyH.nil)
        go_simp
        go_wp2_with (go_at_call 62; (refine (want_no _).mono ?_); rintro e8 w9 ⟨rfl, h9⟩; have h8 := h9.symm; subst h8; clear h9)
        exact ⟨rfl, sim_die hMS.out (Below.drew (Below.refl _ _))⟩
end Go.Proofs.Ytohdaclbgedeiaa
