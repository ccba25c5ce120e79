/-
  THE WALK OF eval.machine.simple: a primitive.
-/
import Derived.Test.YtohdaclbgedeiaaESimP
import Derived.Test.YtohdaclbgedeiaaESimE
import Derived.Deep.RegionHeld2
namespace Go.Proofs.Ytohdaclbgedeiaa
set_option linter.all false
open Go.ChangeShapes Go.WideShapes Go.ChangeAt Go.RowKit
open Ev (Co Va En Out evL ev R bnd)
def primO (n : Int) (s : Nat) (ws : List Int) (o : Out (List Va)) (oo : Out Va) (s2 : Nat) (ws2 : List Int) : Prop := match o with
  | .ok vs => Ev.prim n s ws vs = some (oo, s2, ws2)
  | .stop k => oo = .stop k ∧ s2 = s ∧ ws2 = ws
def PrimIs (n : Int) (oo : Out Va) (ds : List Va) : Prop := (∃ a b, ds = [.num a, .num b] ∧ ((dok n b = true ∧ ∃ vr, (if n < 6 then Va.num (dov n a b) else Va.con (dov n a b) []) = vr ∧ oo = .ok vr) ∨ (dok n b = false ∧ oo = .stop 2))) ∨ (∃ u v, ds = [u, v] ∧ ((∀ a, u ≠ .num a) ∨ (∀ a, v ≠ .num a)) ∧ oo = .stop (-1))
theorem prim_okv (op a b : Int) (vr : Va) (w : World) (hop : 1 ≤ op ∧ op ≤ 7) (h : dok op b = true) (hv : (if op < 6 then Va.num (dov op a b) else Va.con (dov op a b) []) = vr) : Calls Try.prog 71 #[.int .i64 op, .int .i64 a, .int .i64 b] w fun e w' => (∃ v, e = .returned v ∧ VAt w' (fun b => w.heap.size ≤ b) vr v) ∧ Below w.heap.size w w' := by
  subst hv
  exact prim_ok op a b w hop h
theorem prim_div2 (op a b : Int) (w : World) (h : dok op b = false) : Calls Try.prog 71 #[.int .i64 op, .int .i64 a, .int .i64 b] w fun e w' => (e = .returned (.iface 86 (.int .i64 0)) ∧ w' = w ∧ Hid False) ∨ (e = .panicked [stopV 2] ∧ w' = w) := (prim_div op a b w h).mono (fun e w' h => .inr h)
theorem number_any {w : World} {S : Nat → Prop} {u : Va} {v : Value} (h : VAt w S u v) (w9 : World) : Calls Try.prog 72 #[v] w9 fun e w' => (∃ n, e = .returned (.int .i64 n) ∧ w' = w9 ∧ Hid (u = .num n)) ∨ (e = .panicked [stopV (-1)] ∧ w' = w9) := by
  cases u with
  | num n => rw [VAt] at h; obtain ⟨rfl, _⟩ := h; exact (number_num n w9).mono (fun e w' h => .inl ⟨n, h.1, h.2, rfl⟩)
  | con t us => rw [VAt] at h; obtain ⟨⟨p, A, c, rfl, _⟩, _⟩ := h; exact (number_con _ w9).mono (fun e w' h => .inr h)
  | clo x self b e => rw [VAt] at h; obtain ⟨p, bp, ep, rfl, _⟩ := h; exact (number_fun _ w9).mono (fun e w' h => .inr h)
theorem prim_no (op a b : Int) (w : World) (h : False) : Calls Try.prog 71 #[.int .i64 op, .int .i64 a, .int .i64 b] w fun e w' => e = .returned (.iface 86 (.int .i64 0)) ∧ w' = w ∧ Hid False := h.elim
theorem prim_is {n : Int} {s : Nat} {ws : List Int} {ds : List Va} {oo : Out Va} {s2 : Nat} {ws2 : List Int} (h : Ev.prim n s ws ds = some (oo, s2, ws2)) : PrimIs n oo ds ∧ s2 = s ∧ ws2 = ws := by
  have bad : ∀ u v : Va, ds = [u, v] → ((∀ a, u ≠ .num a) ∨ (∀ a, v ≠ .num a)) → some (Out.stop (-1), s, ws) = some (oo, s2, ws2) → PrimIs n oo ds ∧ s2 = s ∧ ws2 = ws := fun u v hd hu h2 => by
    injection h2 with h2; injection h2 with h3 h2; injection h2 with h4 h5
    exact ⟨.inr ⟨u, v, hd, hu, h3.symm⟩, h4.symm, h5.symm⟩
  match ds, h, bad with
  | [], h, _ => exact absurd h (by simp [Ev.prim])
  | [_], h, _ => exact absurd h (by simp [Ev.prim])
  | [.num a, .num b], h, _ =>
    rw [Ev.prim] at h
    cases hd : dok n b with
    | true =>
      rw [hd, if_pos rfl] at h
      injection h with h; injection h with h2 h; injection h with h3 h5
      exact ⟨.inl ⟨a, b, rfl, .inl ⟨hd, _, rfl, h2.symm⟩⟩, h3.symm, h5.symm⟩
    | false =>
      rw [hd, if_neg (by simp)] at h
      injection h with h; injection h with h2 h; injection h with h3 h5
      exact ⟨.inl ⟨a, b, rfl, .inr ⟨hd, h2.symm⟩⟩, h3.symm, h5.symm⟩
  | [.num a, .con t us], h, bad => exact bad _ _ rfl (.inr (fun a e => by cases e)) h
  | [.num a, .clo x y z t], h, bad => exact bad _ _ rfl (.inr (fun a e => by cases e)) h
  | [.con t us, v], h, bad => exact bad _ _ rfl (.inl (fun a e => by cases e)) h
  | [.clo x y z t, v], h, bad => exact bad _ _ rfl (.inl (fun a e => by cases e)) h
  | _ :: _ :: _ :: _, h, _ => exact absurd h (by simp [Ev.prim])
set_option maxHeartbeats 8000000 in
set_option maxRecDepth 100000 in
theorem simple_prim (P : Nat → Prop) (w : World) (M F g s : Nat) (ws : List Int) (wv : Value) (cp : Addr) (x y n : Int) (i : Bool) (ts : List Int) (us : List Co) (e : En) (ep : Option Addr) (o : Out (List Va)) (s' : Nat) (ws' : List Int) (hC : EvC F g) (hm : MSt w M F s ws wv) (hc : CPt w (SfT M wv P) cp (.mk 10 x y n i ts us)) (he : EAt w (SfT M wv P) e ep) (hL : evL (fun c s w => ev F g c e s w) us s ws = some (o, s', ws')) (hn : ∀ vs, o = .ok vs → 1 ≤ n ∧ n ≤ 7) (oo : Out Va) (s2 : Nat) (ws2 : List Int) (hF : primO n s' ws' o oo s2 ws2):
    Calls Try.prog 64 #[.pointer (some ⟨M, 0, none⟩), .pointer (some cp), .pointer ep] w (EvP P oo F s2 ws2 M wv w) := by
  have HF := hid hF
  have HNN := hid hn
  clear hF hn
  have hul9 := evL_len hL
  obtain ⟨T, tc, A, c, hcells, hI, hsz, hrow, hwf⟩ := hc.cells
  have hlc := cell_lt hcells.1
  have hul := hsz.2.2.2
  have HC := hid (And.intro hcells (And.intro hlc (And.intro hrow (And.intro hC (And.intro he hm)))))
  have HL0 := hid hL
  have HI0 := hid (And.intro hI hwf)
  have hSc := hc.1
  have HSC := hid hSc
  obtain ⟨z0, z1, z2, z3, z4, z5, z6⟩ := hcells
  clear hc hI hsz hrow hwf hC he hm hL hlc hSc
  go_enter Try.func64, Try.ntmps64
  go_wp2
  go_loopg [62, 7] us.length (fun gg z lv wr => ∃ (j si : Nat) (wsi : List Int) (wvi : Value) (ds : List Va) (xs : List Value) (r : Out (List Va)) (A7 : Option Addr) (c7 : Nat), j + gg = us.length ∧ z = .int .i64 j ∧ lv = .slice A7 j c7 ∧ Hid (MSt wr M F si wsi wvi ∧ MStep M wv wvi w wr) ∧ Hid (BldV w.heap.size M wvi (.slice A7 j c7) (Now P w) ds j xs wr) ∧ Hid (evL (fun c s w => ev F g c e s w) (us.drop j) si wsi = some (r, s', ws') ∧ o = pre ds r))
  case atStart => exact ⟨0, s, ws, wv, [], [], o, none, 0, by omega, rfl, rfl, hid ⟨HC.out.2.2.2.2.2, MStep.refl _ _ _⟩, hid (BldV.start _ _ _ _ _), hid ⟨HL0.out, by cases o <;> rfl⟩⟩
  case round =>
    obtain ⟨j, si, wsi, wvi, ds, xs, r, A7, c7, hj, rfl, rfl, hMS, hB, hE⟩ := hrel
    have Hj := hid hj
    have hkc : wr.heap[cp.block]? = w.heap[cp.block]? := (hMS.out.2.keeps cp.block HSC.out.1 HC.out.2.1).1
    obtain ⟨y0, y1, y2, y3, y4, y5, y6⟩ := at7_keep hkc rfl HC.out.1
    by_cases hlt : j < us.length
    case pos =>
      have hlt' : (j : Int) < us.length := by omega
      have HLT := hid hlt
      have hdr : us.drop j = us[j]'hlt :: us.drop (j + 1) := List.drop_eq_getElem_cons hlt
      have hE1 := hE.out.1
      rw [hdr] at hE1
      obtain ⟨ad, hA, hpt⟩ := HC.out.2.2.1.pt hlt
      subst hA
      have hpt2 : CPt wr (SfT M wvi (fun b => P b ∧ b < w.heap.size)) (ad.add (j * 7)) (us[j]'hlt) := hpt.keep (fun k hk hl => ⟨(hMS.out.2.keepT k hk hl).1, (hMS.out.2.keepT k hk hl).2.1, hk.2, hl⟩)
      have he2 : EAt wr (SfT M wvi (fun b => P b ∧ b < w.heap.size)) e ep := EAt.keep (fun k hk hl => ⟨(hMS.out.2.keepT k hk hl).1, (hMS.out.2.keepT k hk hl).2.1, hk.2, hl⟩) _ _ HC.out.2.2.2.2.1
      have HPE := hid (And.intro hpt2 he2)
      clear hj hdr hkc hpt hpt2 he2
      rcases evL_cons hE1 with ⟨k, h1, h2⟩ | ⟨v, s1, w1', r2, h1, h2, h3⟩
      · have C := hid (HC.out.2.2.2.1 _ _ _ _ _ _ _ h1 _ wr M _ _ wvi hMS.out.1 HPE.out.1 HPE.out.2)
        have HO := hid (show o = .stop k by rw [hE.out.2, h2]; rfl)
        clear h1 h2 hE1
        go_wp2_with (go_at_call 50; go_must (refine C.out.mono ?_); rintro e9 w1 ⟨wv1, hm1, hs1, h9⟩; go_must (have h8 : e9 = .panicked [stopV k] := h9; subst h8; have G := hid (And.intro hm1 hs1); clear hm1 hs1 h9))
        refine ⟨rfl, ?_⟩
        (have hF := HF.out; rw [HO.out] at hF; obtain ⟨rfl, rfl, rfl⟩ := hF; exact sim_stop hMS.out.2 G.out)
      · have C := hid (HC.out.2.2.2.1 _ _ _ _ _ _ _ h1 _ wr M _ _ wvi hMS.out.1 HPE.out.1 HPE.out.2)
        have HO := hid (show o = pre (ds ++ [v]) r2 by rw [hE.out.2, h3, pre_pre])
        have HE := hid h2
        clear h1 h2 h3 hE1
        go_wp2_with (first
          | (go_at_call 50; (refine C.out.mono ?_); rintro e9 w1 ⟨wv1, hm1, hs1, h9⟩; (obtain ⟨vv, h8, hvv⟩ := h9; subst h8; obtain ⟨tt, xx, rfl⟩ := hvv.iface; have G := hid (And.intro hm1 (And.intro hs1 hvv)); clear hm1 hs1 hvv))
          | (at_builtin; go_must (have hO := World.ownsRow.alloc (hB.out.step G.out.2.1).row (.cells #[.iface tt xx] 91); have hCl : (w1.alloc (.cells #[.iface tt xx] 91)).cell? ⟨w1.heap.size, 0, none⟩ = some (.iface tt xx) := (Blk.new w1 _ #[.iface tt xx]).cell 0; have hL1 : j + 1 ≤ 1000000 := (by omega); have hL2 : w.heap.size ≤ (w1.alloc (.cells #[.iface tt xx] 91)).heap.size := by (have h1 := G.out.2.1.size; have h2 := hMS.out.2.size; simp; omega)); go_must (refine wpList_appV (by rfl) _ _ (by rfl) w.heap.size (by rfl) hO (by rfl) hCl (by rfl) hL1 hL2 ?_); clear hO hCl hL1 hL2; intro lv2 w2 hr2 hg2 hn2; go_must (obtain ⟨A8, c8, rfl⟩ := row_sliceV hr2); have R2 := hid (And.intro hr2 (And.intro hg2 hn2)); clear hr2 hg2 hn2))
        have N := hid (sim_next hMS.out.2 hB.out G.out.1 G.out.2.1 G.out.2.2 R2.out.1 R2.out.2.1 R2.out.2.2)
        have hgk := Hj.out
        have hlt9 := HLT.out
        go_roundg (gk - 1)
        case rel => exact ⟨j + 1, s1, w1', wv1, ds ++ [v], xs ++ [.iface tt xx], r2, A8, c8, by omega, by go_num, rfl, hid ⟨N.out.1, N.out.2.1⟩, hid N.out.2.2, hid ⟨HE.out, HO.out⟩⟩
        case measure => omega
    case neg =>
      obtain rfl : j = us.length := by omega
      have hE1 := hE.out.1
      rw [List.drop_length, evL] at hE1
      injection hE1 with hE1
      injection hE1 with hE2 hE1
      injection hE1 with hE3 hE4
      subst hE2 hE3 hE4
      have hF := HF.out
      rw [hE.out.2, pre, List.append_nil] at hF
      obtain ⟨hF2, rfl, rfl⟩ := prim_is hF
      clear hF
      have hD := hB.out.done (fun b h => .inr h)
      rcases hF2 with ⟨a, b, rfl, hF⟩ | ⟨u, v, rfl, hu, rfl⟩
      · obtain ⟨ad, vv, hA, hS, hcell, hvv⟩ := hD.2.get (k := 0) (by simp)
        obtain ⟨ad', vv', hA', hS', hcell', hvv'⟩ := hD.2.get (k := 1) (by simp)
        subst hA
        injection hA' with hA'
        subst hA'
        have e0 : ad.add (0 + 0) = ad := by unfold Addr.add; simp
        rw [e0] at hcell
        have e1 : (⟨ad.block, ad.off + 1, none⟩ : Addr) = ad.add (0 + 1) := by have h := add_seven ad 0 1 (by omega); rw [show ad.add (0 * 7) = ad from by unfold Addr.add; simp] at h; exact h
        rw [← e1] at hcell'
        have hvv2 : VAt wr (SfT M wvi (Now P w)) (.num a) vv := hvv
        have hvv3 : VAt wr (SfT M wvi (Now P w)) (.num b) vv' := hvv'
        rw [VAt] at hvv2 hvv3
        obtain ⟨rfl, hwa⟩ := hvv2
        obtain ⟨rfl, hwb⟩ := hvv3
        have hul1 : us.length = 2 := by simpa using hD.1
        clear hj hkc hvv hvv' hD hS hS' hwa hwb e0 e1
        rcases hF with ⟨hd, vr, hvr, rfl⟩ | ⟨hd, rfl⟩
        · have HD := hid hd
          have HVR := hid hvr
          clear hd hvr
          go_wp2
          go_region_held2 (fun w' => w'.cell? ⟨cp.block, cp.off + 3, none⟩ = some (.int .i64 n) ∧ w'.cell? ad = some (.iface 86 (.int .i64 a)) ∧ w'.cell? ⟨ad.block, ad.off + 1, none⟩ = some (.iface 86 (.int .i64 b)) ∧ Below wr.heap.size wr w') (first | exact ⟨y3, hcell, hcell', Below.drew (Below.refl _ _)⟩ | with_reducible exact KP.out | go_keep) (first
            | (go_at_call 72; (refine (number_num _ _).mono ?_); rintro e8 w9 ⟨rfl, h9⟩; have h8 := h9.symm; subst h8; clear h9)
            | (go_at_call 71; (refine (prim_okv n a b vr _ (HNN.out _ (by rw [hE.out.2, pre, List.append_nil])) HD.out HVR.out).mono ?_); rintro e8 w9 ⟨⟨v8, rfl, hv8⟩, hb8⟩; obtain ⟨vt8, vx8, rfl⟩ := hv8.iface; have V8 := hid (And.intro hv8 hb8); have KP := hid (show w9.cell? ⟨cp.block, cp.off + 3, none⟩ = some (.int .i64 n) ∧ w9.cell? ad = some (.iface 86 (.int .i64 a)) ∧ w9.cell? ⟨ad.block, ad.off + 1, none⟩ = some (.iface 86 (.int .i64 b)) ∧ Below wr.heap.size wr w9 from ⟨(hb8.cell (cell_lt y3)).trans y3, (hb8.cell (cell_lt hcell)).trans hcell, (hb8.cell (cell_lt hcell')).trans hcell', ⟨hb8.os, hb8.tape, hb8.output, hb8.size, hb8.block⟩⟩); clear hv8 hb8))
          go_wp2
          go_ret
          have hb := KP.out.2.2.2
          refine ⟨wvi, hMS.out.1.below hb, hMS.out.2.below hb, ?_⟩
          rw [OutIs]
          exact ⟨_, rfl, VAt.keep (fun k hk hl => ⟨rfl, hMS.out.1.sf hk, .inr (Nat.le_trans hMS.out.2.size hk)⟩) _ _ V8.out.1⟩
        · have HD := hid hd
          clear hd
          go_wp2
          go_region_held2 (fun w' => w'.cell? ⟨cp.block, cp.off + 3, none⟩ = some (.int .i64 n) ∧ w'.cell? ad = some (.iface 86 (.int .i64 a)) ∧ w'.cell? ⟨ad.block, ad.off + 1, none⟩ = some (.iface 86 (.int .i64 b)) ∧ Below wr.heap.size wr w') (first | exact ⟨y3, hcell, hcell', Below.drew (Below.refl _ _)⟩ | go_keep) (first
            | (go_at_call 72; (refine (number_num _ _).mono ?_); rintro e8 w9 ⟨rfl, h9⟩; have h8 := h9.symm; subst h8; clear h9)
            | (go_at_call 71; (refine (prim_div2 n a b _ HD.out).mono ?_); rintro e8 w9 h9; rcases h9 with ⟨rfl, h8, HFA⟩ | ⟨rfl, h8⟩; rotate_left; (have h7 := h8.symm; subst h7; clear h8; exact ⟨rfl, sim_die2 hMS.out (Below.drew (Below.refl _ _))⟩); have h7 := h8.symm; subst h7; clear h8))
          all_goals exact HFA.out.elim
      · obtain ⟨ad, vv, hA, hS, hcell, hvv⟩ := hD.2.get (k := 0) (by simp)
        obtain ⟨ad', vv', hA', hS', hcell', hvv'⟩ := hD.2.get (k := 1) (by simp)
        subst hA
        injection hA' with hA'
        subst hA'
        have e0 : ad.add (0 + 0) = ad := by unfold Addr.add; simp
        rw [e0] at hcell
        have e1 : (⟨ad.block, ad.off + 1, none⟩ : Addr) = ad.add (0 + 1) := by have h := add_seven ad 0 1 (by omega); rw [show ad.add (0 * 7) = ad from by unfold Addr.add; simp] at h; exact h
        rw [← e1] at hcell'
        have HVA0 : VAt wr (SfT M wvi (Now P w)) u vv := hvv
        have HVB0 : VAt wr (SfT M wvi (Now P w)) v vv' := hvv'
        obtain ⟨t1, x1, rfl⟩ := HVA0.iface
        obtain ⟨t2, x2, rfl⟩ := HVB0.iface
        have HVA := hid HVA0
        have HVB := hid HVB0
        have HUV := hid hu
        have hul1 : us.length = 2 := by simpa using hD.1
        clear hj hkc hvv hvv' hD hS hS' HVA0 HVB0 hu e0 e1
        go_wp2
        refine wp_region_held_drew (S := fun w' => w'.cell? ⟨cp.block, cp.off + 3, none⟩ = some (.int .i64 n) ∧ w'.cell? ad = some (.iface t1 x1) ∧ w'.cell? ⟨ad.block, ad.off + 1, none⟩ = some (.iface t2 x2) ∧ Below wr.heap.size wr w') (by kernel_rfl) ⟨y3, hcell, hcell', Below.drew (Below.refl _ _)⟩ (fun hHeld => ?_)
        refine take_d (some 127) (i := 0) (v := .pointer (some cp)) rfl rfl (by kernel_rfl) (by kernel_rfl) (by kernel_rfl) (fun _ _ _ h => h) (.inl ⟨by rfl, fun w7 hS7 => (by (try dsimp only at hS7); obtain ⟨s0, s1, s2, s3⟩ := hS7; go_simp)⟩) (by assumption) ?_; try simp only [Act.put, List.setIfInBounds_toArray, List.set_cons_zero, List.set_cons_succ]
        refine take_d (some 128) (i := 1) (v := .pointer (some cp)) rfl rfl (by kernel_rfl) (by kernel_rfl) (by kernel_rfl) (fun _ _ _ h => h) (.inl ⟨by rfl, fun w7 hS7 => (by (try dsimp only at hS7); obtain ⟨s0, s1, s2, s3⟩ := hS7; go_simp)⟩) (by assumption) ?_; try simp only [Act.put, List.setIfInBounds_toArray, List.set_cons_zero, List.set_cons_succ]
        refine take_d (some 129) (i := 2) (v := .pointer (some ⟨cp.block, cp.off + 3, none⟩)) rfl rfl (by kernel_rfl) (by kernel_rfl) (by kernel_rfl) (fun _ _ _ h => h) (.inl ⟨by rfl, fun w7 hS7 => (by (try dsimp only at hS7); obtain ⟨s0, s1, s2, s3⟩ := hS7; go_simp)⟩) (by assumption) ?_; try simp only [Act.put, List.setIfInBounds_toArray, List.set_cons_zero, List.set_cons_succ]
        refine take_d (some 130) (i := 3) (v := .int .i64 n) rfl rfl (by kernel_rfl) (by kernel_rfl) (by kernel_rfl) (fun _ _ _ h => h) (.inl ⟨by rfl, fun w7 hS7 => (by (try dsimp only at hS7); obtain ⟨s0, s1, s2, s3⟩ := hS7; go_simp)⟩) (by assumption) ?_; try simp only [Act.put, List.setIfInBounds_toArray, List.set_cons_zero, List.set_cons_succ]
        refine take_d (some 131) (i := 4) (v := .slice (some ad) us.length c7) rfl rfl (by kernel_rfl) (by kernel_rfl) (by kernel_rfl) (fun _ _ _ h => h) (.inl ⟨by rfl, fun w7 hS7 => (by (try dsimp only at hS7); obtain ⟨s0, s1, s2, s3⟩ := hS7; go_simp)⟩) (by assumption) ?_; try simp only [Act.put, List.setIfInBounds_toArray, List.set_cons_zero, List.set_cons_succ]
        refine take_d (some 132) (i := 5) (v := .pointer (some ad)) rfl rfl (by kernel_rfl) (by kernel_rfl) (by kernel_rfl) (fun _ _ _ h => h) (.inl ⟨by rfl, fun w7 hS7 => (by (try dsimp only at hS7); obtain ⟨s0, s1, s2, s3⟩ := hS7; go_simp)⟩) (by assumption) ?_; try simp only [Act.put, List.setIfInBounds_toArray, List.set_cons_zero, List.set_cons_succ]
        refine take_d (some 133) (i := 6) (v := .iface t1 x1) rfl rfl (by kernel_rfl) (by kernel_rfl) (by kernel_rfl) (fun _ _ _ h => h) (.inl ⟨by rfl, fun w7 hS7 => (by (try dsimp only at hS7); obtain ⟨s0, s1, s2, s3⟩ := hS7; go_simp)⟩) (by assumption) ?_; try simp only [Act.put, List.setIfInBounds_toArray, List.set_cons_zero, List.set_cons_succ]
        refine take_d (some 135) (i := 8) (v := .slice (some ad) us.length c7) rfl rfl (by kernel_rfl) (by kernel_rfl) (by kernel_rfl) (fun _ _ _ h => h) (.inl ⟨by rfl, fun w7 hS7 => (by (try dsimp only at hS7); obtain ⟨s0, s1, s2, s3⟩ := hS7; go_simp)⟩) (by assumption) ?_; try simp only [Act.put, List.setIfInBounds_toArray, List.set_cons_zero, List.set_cons_succ]
        refine take_d (some 136) (i := 9) (v := .pointer (some ⟨ad.block, ad.off + 1, none⟩)) rfl rfl (by kernel_rfl) (by kernel_rfl) (by kernel_rfl) (fun _ _ _ h => h) (.inl ⟨by rfl, fun w7 hS7 => (by (try dsimp only at hS7); obtain ⟨s0, s1, s2, s3⟩ := hS7; go_simp)⟩) (by assumption) ?_; try simp only [Act.put, List.setIfInBounds_toArray, List.set_cons_zero, List.set_cons_succ]
        refine take_d (some 137) (i := 10) (v := .iface t2 x2) rfl rfl (by kernel_rfl) (by kernel_rfl) (by kernel_rfl) (fun _ _ _ h => h) (.inl ⟨by rfl, fun w7 hS7 => (by (try dsimp only at hS7); obtain ⟨s0, s1, s2, s3⟩ := hS7; go_simp)⟩) (by assumption) ?_; try simp only [Act.put, List.setIfInBounds_toArray, List.set_cons_zero, List.set_cons_succ]
        refine wpAnyH_ready (rs := [7]) (by kernel_rfl) (by simp) (AllReadyH.cons rfl (fun K hK => ?_) AllReadyH.nil)
        go_simp
        by_cases hun : ∃ a, u = .num a
        · obtain ⟨a, rfl⟩ := hun
          have hva := HVA.out
          rw [VAt] at hva
          obtain ⟨hva2, _⟩ := hva
          injection hva2 with hva3 hva4
          subst hva3 hva4
          go_wp2_with (go_at_call 72; (refine (number_num _ _).mono ?_); rintro e8 w9 ⟨rfl, h9⟩; have h8 := h9.symm; subst h8; clear h9)
          refine hK.out _ _ hHeld (fun hHeld2 => ?_)
          clear hK K
          refine wpAnyH_ready (rs := [11]) (by kernel_rfl) (by simp) (AllReadyH.cons rfl (fun K hK => ?_) AllReadyH.nil)
          go_simp
          have hvb : ∀ a, v ≠ .num a := by rcases HUV.out with h | h; exact absurd rfl (h a); exact h
          go_wp2_with (go_at_call 72; (refine (number_bad (HVB.out.up (Below.drew (Below.refl _ _))) hvb).mono ?_); rintro e8 w9 ⟨rfl, h9⟩; have h8 := h9.symm; subst h8; clear h9)
          exact ⟨rfl, sim_die2 hMS.out (Below.drew (Below.refl _ _))⟩
        · go_wp2_with (go_at_call 72; (refine (number_bad (HVA.out.up (Below.drew (Below.refl _ _))) (fun a h => hun ⟨a, h⟩)).mono ?_); rintro e8 w9 ⟨rfl, h9⟩; have h8 := h9.symm; subst h8; clear h9)
          exact ⟨rfl, sim_die2 hMS.out (Below.drew (Below.refl _ _))⟩
end Go.Proofs.Ytohdaclbgedeiaa
