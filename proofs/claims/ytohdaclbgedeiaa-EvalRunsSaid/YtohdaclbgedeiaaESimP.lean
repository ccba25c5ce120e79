/-
  THE WALK OF eval.machine.simple: a number is written.
-/
import Derived.Test.YtohdaclbgedeiaaESimC
namespace Go.Proofs.Ytohdaclbgedeiaa
set_option linter.all false
open Go.ChangeShapes Go.WideShapes Go.ChangeAt Go.RowKit
open Ev (Co Va En Out evL ev R bnd tell)
/-- What is done behind the parts' values. -/
def tellO (s : Nat) (ws : List Int) (o : Out (List Va)) (oo : Out Va) (s2 : Nat) (ws2 : List Int) : Prop := match o with
  | .ok vs => tell s ws vs = some (oo, s2, ws2)
  | .stop k => oo = .stop k ∧ s2 = s ∧ ws2 = ws
def TellIs (ws : List Int) (oo : Out Va) (ws2 : List Int) (ds : List Va) : Prop := (∃ a, ds = [.num a] ∧ ((ws.length = 4096 ∧ oo = .stop 4 ∧ ws2 = ws) ∨ (ws.length ≠ 4096 ∧ oo = .ok (.con 0 []) ∧ ws2 = ws ++ [a]))) ∨ (∃ u, ds = [u] ∧ (∀ a, u ≠ .num a) ∧ oo = .stop (-1) ∧ ws2 = ws)
theorem tell_is {s : Nat} {ws : List Int} {ds : List Va} {oo : Out Va} {s2 : Nat} {ws2 : List Int} (h : tell s ws ds = some (oo, s2, ws2)) : TellIs ws oo ws2 ds ∧ s2 = s := by
  match ds, h with
  | [], h => exact absurd h (by simp [tell])
  | [.num a], h =>
    rw [tell] at h
    by_cases h4 : ws.length = 4096
    · rw [if_pos h4] at h
      injection h with h; injection h with h2 h; injection h with h3 h5
      exact ⟨.inl ⟨a, rfl, .inl ⟨h4, h2.symm, h5.symm⟩⟩, h3.symm⟩
    · rw [if_neg h4] at h
      injection h with h; injection h with h2 h; injection h with h3 h5
      exact ⟨.inl ⟨a, rfl, .inr ⟨h4, h2.symm, h5.symm⟩⟩, h3.symm⟩
  | [.con t us], h =>
    have h2 : some (Out.stop (-1), s, ws) = some (oo, s2, ws2) := h
    injection h2 with h2; injection h2 with h3 h2; injection h2 with h4 h5
    exact ⟨.inr ⟨_, rfl, fun t e => (by cases e), h3.symm, h5.symm⟩, h4.symm⟩
  | [.clo a b c d], h =>
    have h2 : some (Out.stop (-1), s, ws) = some (oo, s2, ws2) := h
    injection h2 with h2; injection h2 with h3 h2; injection h2 with h4 h5
    exact ⟨.inr ⟨_, rfl, fun t e => (by cases e), h3.symm, h5.symm⟩, h4.symm⟩
  | _ :: _ :: _, h => exact absurd h (by simp [tell])
theorem sim_die2 {P : Nat → Prop} {M F s : Nat} {ws : List Int} {wv wvi : Value} {w wr w' : World} {k : Int} (h : MSt wr M F s ws wvi ∧ MStep M wv wvi w wr) (hb : Below wr.heap.size wr w') : EvP P (.stop k) F s ws M wv w (.panicked [stopV k]) w' := ⟨wvi, h.1.below hb, h.2.below hb, rfl⟩
theorem row_sliceN {w : World} {B n : Nat} {v : Value} {xs : List Value} (h : w.ownsRow B 3 1 v n xs) : ∃ A c, v = .slice A n c := by
  rcases h.2 with ⟨rfl, rfl⟩ | ⟨g, cap, cur, rfl, _⟩
  · exact ⟨none, 0, rfl⟩
  · exact ⟨_, cap, rfl⟩
/-- A number is written. -/
theorem print_step {M F s : Nat} {ws : List Int} {wv v' : Value} {w w2 : World} {o : Obj} {a : Int} (h : MSt w M F s ws wv) (ha : (Lit.int .i64 a).wf = true) (hl : ws.length ≠ 4096) (hr : w2.ownsRow (M + 1) 3 1 v' (ws.length + 1) (ws.map (Value.int .i64) ++ [.int .i64 a])) (hg : (w.alloc o).grownBy w2 wv.ownBlock)
    (hn : ∀ g, v'.ownBlock = some g → wv.ownBlock = some g ∨ (w.alloc o).heap.size ≤ g) : Blk w2 M 70 #[.int .i64 F, .int .i64 s, wv] ∧ MSt (w2.setCell ⟨M, 2, none⟩ v') M F s (ws ++ [a]) v' ∧ MStep M wv v' w (w2.setCell ⟨M, 2, none⟩ v') := by
  have hsz : (w.alloc o).heap.size = w.heap.size + 1 := by simp
  have hMl := h.blk.lt
  have hnM : wv.ownBlock ≠ some M := fun e => by have := (h.own.own.lt M e).1; omega
  have hk : ∀ k, k < w.heap.size → wv.ownBlock ≠ some k → w2.heap[k]? = w.heap[k]? := fun k hk hne => (hg.block k (by omega) (fun e => hne e.symm)).trans (Below.heap_alloc _ _ _ hk)
  have hb : Blk w2 M 70 #[.int .i64 F, .int .i64 s, wv] := (hk M hMl hnM).trans h.blk
  have ho : OwnI w2 (M + 1) v' (ws ++ [a]) := ⟨by
    have e : (ws ++ [a]).map (Value.int .i64) = ws.map (Value.int .i64) ++ [.int .i64 a] := by simp
    unfold Own
    rw [e]
    have e2 : (ws.map (Value.int .i64) ++ [Value.int .i64 a]).length = ws.length + 1 := by simp
    rw [e2]
    exact hr, fun x hx => by
    rcases List.mem_append.1 hx with h9 | h9
    · exact h.own.wf x h9
    · simp at h9; subst h9; exact ha⟩
  refine ⟨hb, ⟨hb.set_ 2 v', ho.set_ (by simp) v', h.hF, h.hs, by have := h.hw; simp; omega⟩, hg.os, hg.tape, hg.output, by have := hg.size; simp; omega, fun k hk1 hk2 hk3 => (Below.heap_setCell _ ⟨M, 2, none⟩ _ k hk2).trans (hk k hk1 hk3), fun g e => ?_⟩
  rcases hn g e with h9 | h9
  · exact .inl h9
  · exact .inr (by omega)
set_option maxHeartbeats 8000000 in
set_option maxRecDepth 100000 in
theorem simple_print (P : Nat → Prop) (w : World) (M F g s : Nat) (ws : List Int) (wv : Value) (cp : Addr) (x y n : Int) (i : Bool) (ts : List Int) (us : List Co) (e : En) (ep : Option Addr) (o : Out (List Va)) (s' : Nat) (ws' : List Int) (hC : EvC F g) (hm : MSt w M F s ws wv) (hc : CPt w (SfT M wv P) cp (.mk 11 x y n i ts us)) (he : EAt w (SfT M wv P) e ep) (hL : evL (fun c s w => ev F g c e s w) us s ws = some (o, s', ws')) (oo : Out Va) (s2 : Nat) (ws2 : List Int) (hF : tellO s' ws' o oo s2 ws2):
    Calls Try.prog 64 #[.pointer (some ⟨M, 0, none⟩), .pointer (some cp), .pointer ep] w (EvP P oo F s2 ws2 M wv w) := by
  have HF := hid hF
  clear hF
  have hul9 := evL_len hL
  obtain ⟨T, tc, A, c, hcells, hI, hsz, hrow, hwf⟩ := hc.cells
  have hlc := cell_lt hcells.1
  have hul := hsz.2.2.2
  have HC := hid (And.intro hcells (And.intro hlc (And.intro hrow (And.intro hC (And.intro he hm)))))
  have HL0 := hid hL
  have HI0 := hid (And.intro hI hwf)
  have hSc := hc.1
  have HSC := hid hSc
  obtain ⟨z0, z1, z2, z3, z4, z5, z6⟩ := hcells
  clear hc hI hsz hrow hwf hC he hm hL hlc hSc
  go_enter Try.func64, Try.ntmps64
  go_wp2
  go_loopg [62, 7] us.length (fun gg z lv wr => ∃ (j si : Nat) (wsi : List Int) (wvi : Value) (ds : List Va) (xs : List Value) (r : Out (List Va)) (A7 : Option Addr) (c7 : Nat), j + gg = us.length ∧ z = .int .i64 j ∧ lv = .slice A7 j c7 ∧ Hid (MSt wr M F si wsi wvi ∧ MStep M wv wvi w wr) ∧ Hid (BldV w.heap.size M wvi (.slice A7 j c7) (Now P w) ds j xs wr) ∧ Hid (evL (fun c s w => ev F g c e s w) (us.drop j) si wsi = some (r, s', ws') ∧ o = pre ds r))
  case atStart => exact ⟨0, s, ws, wv, [], [], o, none, 0, by omega, rfl, rfl, hid ⟨HC.out.2.2.2.2.2, MStep.refl _ _ _⟩, hid (BldV.start _ _ _ _ _), hid ⟨HL0.out, by cases o <;> rfl⟩⟩
  case round =>
    obtain ⟨j, si, wsi, wvi, ds, xs, r, A7, c7, hj, rfl, rfl, hMS, hB, hE⟩ := hrel
    have Hj := hid hj
    have hkc : wr.heap[cp.block]? = w.heap[cp.block]? := (hMS.out.2.keeps cp.block HSC.out.1 HC.out.2.1).1
    obtain ⟨y0, y1, y2, y3, y4, y5, y6⟩ := at7_keep hkc rfl HC.out.1
    by_cases hlt : j < us.length
    case pos =>
      have hlt' : (j : Int) < us.length := by omega
      have HLT := hid hlt
      have hdr : us.drop j = us[j]'hlt :: us.drop (j + 1) := List.drop_eq_getElem_cons hlt
      have hE1 := hE.out.1
      rw [hdr] at hE1
      obtain ⟨ad, hA, hpt⟩ := HC.out.2.2.1.pt hlt
      subst hA
      have hpt2 : CPt wr (SfT M wvi (fun b => P b ∧ b < w.heap.size)) (ad.add (j * 7)) (us[j]'hlt) := hpt.keep (fun k hk hl => ⟨(hMS.out.2.keepT k hk hl).1, (hMS.out.2.keepT k hk hl).2.1, hk.2, hl⟩)
      have he2 : EAt wr (SfT M wvi (fun b => P b ∧ b < w.heap.size)) e ep := EAt.keep (fun k hk hl => ⟨(hMS.out.2.keepT k hk hl).1, (hMS.out.2.keepT k hk hl).2.1, hk.2, hl⟩) _ _ HC.out.2.2.2.2.1
      have HPE := hid (And.intro hpt2 he2)
      clear hj hdr hkc hpt hpt2 he2
      rcases evL_cons hE1 with ⟨k, h1, h2⟩ | ⟨v, s1, w1', r2, h1, h2, h3⟩
      · have C := hid (HC.out.2.2.2.1 _ _ _ _ _ _ _ h1 _ wr M _ _ wvi hMS.out.1 HPE.out.1 HPE.out.2)
        have HO := hid (show o = .stop k by rw [hE.out.2, h2]; rfl)
        clear h1 h2 hE1
        go_wp2_with (go_at_call 50; go_must (refine C.out.mono ?_); rintro e9 w1 ⟨wv1, hm1, hs1, h9⟩; go_must (have h8 : e9 = .panicked [stopV k] := h9; subst h8; have G := hid (And.intro hm1 hs1); clear hm1 hs1 h9))
        refine ⟨rfl, ?_⟩
        (have hF := HF.out; rw [HO.out] at hF; obtain ⟨rfl, rfl, rfl⟩ := hF; exact sim_stop hMS.out.2 G.out)
      · have C := hid (HC.out.2.2.2.1 _ _ _ _ _ _ _ h1 _ wr M _ _ wvi hMS.out.1 HPE.out.1 HPE.out.2)
        have HO := hid (show o = pre (ds ++ [v]) r2 by rw [hE.out.2, h3, pre_pre])
        have HE := hid h2
        clear h1 h2 h3 hE1
        go_wp2_with (first
          | (go_at_call 50; (refine C.out.mono ?_); rintro e9 w1 ⟨wv1, hm1, hs1, h9⟩; (obtain ⟨vv, h8, hvv⟩ := h9; subst h8; obtain ⟨tt, xx, rfl⟩ := hvv.iface; have G := hid (And.intro hm1 (And.intro hs1 hvv)); clear hm1 hs1 hvv))
          | (at_builtin; go_must (have hO := World.ownsRow.alloc (hB.out.step G.out.2.1).row (.cells #[.iface tt xx] 91); have hCl : (w1.alloc (.cells #[.iface tt xx] 91)).cell? ⟨w1.heap.size, 0, none⟩ = some (.iface tt xx) := (Blk.new w1 _ #[.iface tt xx]).cell 0; have hL1 : j + 1 ≤ 1000000 := (by omega); have hL2 : w.heap.size ≤ (w1.alloc (.cells #[.iface tt xx] 91)).heap.size := by (have h1 := G.out.2.1.size; have h2 := hMS.out.2.size; simp; omega)); go_must (refine wpList_appV (by rfl) _ _ (by rfl) w.heap.size (by rfl) hO (by rfl) hCl (by rfl) hL1 hL2 ?_); clear hO hCl hL1 hL2; intro lv2 w2 hr2 hg2 hn2; go_must (obtain ⟨A8, c8, rfl⟩ := row_sliceV hr2); have R2 := hid (And.intro hr2 (And.intro hg2 hn2)); clear hr2 hg2 hn2))
        have N := hid (sim_next hMS.out.2 hB.out G.out.1 G.out.2.1 G.out.2.2 R2.out.1 R2.out.2.1 R2.out.2.2)
        have hgk := Hj.out
        have hlt9 := HLT.out
        go_roundg (gk - 1)
        case rel => exact ⟨j + 1, s1, w1', wv1, ds ++ [v], xs ++ [.iface tt xx], r2, A8, c8, by omega, by go_num, rfl, hid ⟨N.out.1, N.out.2.1⟩, hid N.out.2.2, hid ⟨HE.out, HO.out⟩⟩
        case measure => omega
    case neg =>
      obtain rfl : j = us.length := by omega
      have hE1 := hE.out.1
      rw [List.drop_length, evL] at hE1
      injection hE1 with hE1
      injection hE1 with hE2 hE1
      injection hE1 with hE3 hE4
      subst hE2 hE3 hE4
      have hF := HF.out
      rw [hE.out.2, pre, List.append_nil] at hF
      obtain ⟨hF2, rfl⟩ := tell_is hF
      clear hF
      have hD := hB.out.done (fun b h => .inr h)
      rcases hF2 with ⟨a, rfl, hF⟩ | ⟨u, rfl, hu, rfl, rfl⟩
      · obtain ⟨ad, vv, hA, hS, hcell, hvv⟩ := hD.2.get (k := 0) (by simp)
        subst hA
        have e0 : ad.add (0 + 0) = ad := by unfold Addr.add; simp
        rw [e0] at hcell
        have hvv2 : VAt wr (SfT M wvi (Now P w)) (.num a) vv := hvv
        rw [VAt] at hvv2
        obtain ⟨rfl, hwa⟩ := hvv2
        have HWA := hid hwa
        have hul1 : us.length = 1 := by simpa using hD.1
        obtain ⟨A9, c9, hwv, hInts⟩ := hMS.out.1.own.slice
        subst hwv
        obtain ⟨x0, x1, x2⟩ := hMS.out.1.blk.three
        have hsz := hMS.out.1.hw
        clear hj hkc hvv hD hS hwa hInts
        rcases hF with ⟨h4, rfl, rfl⟩ | ⟨h4, rfl, rfl⟩
        · have h4' : ((ws2.length : Int) == 4096) = true := by simp; omega
          have HN := hid h4
          clear h4
          go_wp2_with (go_at_call 72; go_must (refine (number_num _ _).mono ?_); rintro e8 w9 ⟨rfl, h9⟩; have h8 := h9.symm; subst h8; clear h9)
          exact ⟨rfl, sim_die2 hMS.out (Below.refl _ _)⟩
        · have h4' : ((wsi.length : Int) == 4096) = false := by simp; omega
          have HN := hid h4
          have HOW := hid (show wr.ownsRow (M + 1) 3 1 (.slice A9 wsi.length c9) wsi.length (wsi.map (Value.int .i64)) by have h := hMS.out.1.own.own; unfold Own at h; simpa using h)
          clear h4
          go_wp2_with (first
            | (go_at_call 72; go_must (refine (number_num _ _).mono ?_); rintro e8 w9 ⟨rfl, h9⟩; have h8 := h9.symm; subst h8; clear h9)
            | (at_builtin; go_must (refine wpList_appN (by rfl) _ _ (by rfl) (M + 1) (by rfl) (n := wsi.length) (World.ownsRow.alloc HOW.out _) (by rfl) ((Blk.new wr _ #[.int .i64 a]).cell 0) (by rfl) (by omega) (by have := hMS.out.1.blk.lt; simp; omega) ?_); intro lv2 w2 hr2 hg2 hn2; go_must (obtain ⟨A8, c8, rfl⟩ := row_sliceN hr2); have PS := hid (print_step hMS.out.1 HWA.out HN.out hr2 hg2 hn2); have z2 : w2.cell? ⟨M, 2, none⟩ = _ := PS.out.1.cell 2; have f2 := PS.out.1.frozen 2; clear hr2 hg2 hn2))
          go_ret
          have hb : Below (w2.setCell ⟨M, 2, none⟩ (.slice A8 (wsi.length + 1) c8)).heap.size (w2.setCell ⟨M, 2, none⟩ (.slice A8 (wsi.length + 1) c8)) ((w2.setCell ⟨M, 2, none⟩ (.slice A8 (wsi.length + 1) c8)).alloc (.cells #[.int .i64 0, .slice none 0 0] 82)) := al1 _ _
          refine ⟨_, PS.out.2.1.below hb, (hMS.out.2.trans PS.out.2.2).below hb, ?_⟩
          rw [OutIs]
          refine ⟨_, rfl, ?_⟩
          rw [VAt]
          refine ⟨⟨w2.heap.size, none, 0, by rfl, ⟨PS.out.2.1.sf (by simp), .inr ?_⟩, Blk.new' (by simp) _ _, by rw [VRow]; trivial⟩, by decide, by simp⟩
          have h1 := hMS.out.2.size
          have h2 := PS.out.2.2.size
          simp at h2
          omega
      · obtain ⟨ad, vv, hA, hS, hcell, hvv⟩ := hD.2.get (k := 0) (by simp)
        subst hA
        have e0 : ad.add (0 + 0) = ad := by unfold Addr.add; simp
        rw [e0] at hcell
        have hvv2 : VAt wr (SfT M wvi (Now P w)) u vv := hvv
        have hul1 : us.length = 1 := by simpa using hD.1
        have C := hid (number_bad hvv2 hu)
        obtain ⟨vt, vx, rfl⟩ := hvv2.iface
        clear hj hkc hvv hvv2 hD hS hu
        go_wp2_with (go_at_call 72; go_must (refine C.out.mono ?_); rintro e8 w9 ⟨rfl, h9⟩; have h8 := h9.symm; subst h8; clear h9)
        exact ⟨rfl, sim_die2 hMS.out (Below.refl _ _)⟩
end Go.Proofs.Ytohdaclbgedeiaa
