/-
  THE WALK OF eval.machine.simple: a constructor.
-/
import Derived.Test.YtohdaclbgedeiaaESimB
namespace Go.Proofs.Ytohdaclbgedeiaa
set_option linter.all false
open Go.ChangeShapes Go.WideShapes Go.ChangeAt Go.RowKit
open Ev (Co Va En Out evL ev R bnd)
def conO (n : Int) : Out (List Va) → Out Va
  | .ok vs => .ok (.con n vs)
  | .stop k => .stop k
theorem sim_next {P : Nat → Prop} {M F s1 : Nat} {ws1 : List Int} {wv wvi wv1 lv lv' : Value} {ds : List Va} {n : Nat} {xs : List Value} {w wr w1 w2 : World} {o : Obj} {u : Va} {v : Value} (hms : MStep M wv wvi w wr)
    (hB : BldV w.heap.size M wvi lv (Now P w) ds n xs wr) (hm : MSt w1 M F s1 ws1 wv1) (hs : MStep M wvi wv1 wr w1) (hu : VAt w1 (SfT M wv1 (Now (fun b => P b ∧ b < w.heap.size) wr)) u v)
    (hr : w2.ownsRow w.heap.size 91 1 lv' (n + 1) (xs ++ [v])) (hg : (w1.alloc o).grownBy w2 lv.ownBlock) (hn : ∀ g, lv'.ownBlock = some g → lv.ownBlock = some g ∨ (w1.alloc o).heap.size ≤ g) :
    MSt w2 M F s1 ws1 wv1 ∧ MStep M wv wv1 w w2 ∧ BldV w.heap.size M wv1 lv' (Now P w) (ds ++ [u]) (n + 1) (xs ++ [v]) w2 := by
  have hB1 := hB.step hs
  have h0 := hms.size
  have hlow : ∀ g, lv.ownBlock = some g → w.heap.size ≤ g ∧ g < wr.heap.size := fun g e => hB.row.lt g e
  refine ⟨hm.other hg (fun g e => hB1.out g e), (hms.trans hs).other hg (fun g e => (hlow g e).1), hB1.next hm ?_ hr hg hn⟩
  refine VAt.keep (fun k hk hl => ⟨rfl, ⟨hk.1, ?_⟩, fun e => ?_⟩) _ _ hu
  · rcases hk.2 with h | h
    · exact .inl h.1
    · exact .inr (by omega)
  · have := hlow k e
    rcases hk.2 with h | h
    · omega
    · omega
theorem sim_stop {P : Nat → Prop} {k : Int} {M F s' : Nat} {ws' : List Int} {wv wvi wv1 : Value} {w wr w1 : World} (hms : MStep M wv wvi w wr) (hG : MSt w1 M F s' ws' wv1 ∧ MStep M wvi wv1 wr w1) : EvP P (.stop k) F s' ws' M wv w (.panicked [stopV k]) w1 := ⟨wv1, hG.1, hms.trans hG.2, rfl⟩
set_option maxHeartbeats 8000000 in
set_option maxRecDepth 100000 in
theorem simple_con (P : Nat → Prop) (w : World) (M F g s : Nat) (ws : List Int) (wv : Value) (cp : Addr) (x y n : Int) (i : Bool) (ts : List Int) (us : List Co) (e : En) (ep : Option Addr) (o : Out (List Va)) (s' : Nat) (ws' : List Int) (hC : EvC F g) (hm : MSt w M F s ws wv) (hc : CPt w (SfT M wv P) cp (.mk 7 x y n i ts us)) (he : EAt w (SfT M wv P) e ep) (hL : evL (fun c s w => ev F g c e s w) us s ws = some (o, s', ws')) :
    Calls Try.prog 64 #[.pointer (some ⟨M, 0, none⟩), .pointer (some cp), .pointer ep] w (EvP P (conO n o) F s' ws' M wv w) := by
  have hul9 := evL_len hL
  obtain ⟨T, tc, A, c, hcells, hI, hsz, hrow, hwf⟩ := hc.cells
  have hlc := cell_lt hcells.1
  have hul := hsz.2.2.2
  have HC := hid (And.intro hcells (And.intro hlc (And.intro hrow (And.intro hC (And.intro he hm)))))
  have HL0 := hid hL
  have HI0 := hid (And.intro hI hwf)
  have hSc := hc.1
  have HSC := hid hSc
  obtain ⟨z0, z1, z2, z3, z4, z5, z6⟩ := hcells
  clear hc hI hsz hrow hwf hC he hm hL hlc hSc
  go_enter Try.func64, Try.ntmps64
  go_wp2
  go_loopg [62, 7] us.length (fun gg z lv wr => ∃ (j si : Nat) (wsi : List Int) (wvi : Value) (ds : List Va) (xs : List Value) (r : Out (List Va)) (A7 : Option Addr) (c7 : Nat), j + gg = us.length ∧ z = .int .i64 j ∧ lv = .slice A7 j c7 ∧ Hid (MSt wr M F si wsi wvi ∧ MStep M wv wvi w wr) ∧ Hid (BldV w.heap.size M wvi (.slice A7 j c7) (Now P w) ds j xs wr) ∧ Hid (evL (fun c s w => ev F g c e s w) (us.drop j) si wsi = some (r, s', ws') ∧ o = pre ds r))
  case atStart => exact ⟨0, s, ws, wv, [], [], o, none, 0, by omega, rfl, rfl, hid ⟨HC.out.2.2.2.2.2, MStep.refl _ _ _⟩, hid (BldV.start _ _ _ _ _), hid ⟨HL0.out, by cases o <;> rfl⟩⟩
  case round =>
    obtain ⟨j, si, wsi, wvi, ds, xs, r, A7, c7, hj, rfl, rfl, hMS, hB, hE⟩ := hrel
    have Hj := hid hj
    have hkc : wr.heap[cp.block]? = w.heap[cp.block]? := (hMS.out.2.keeps cp.block HSC.out.1 HC.out.2.1).1
    obtain ⟨y0, y1, y2, y3, y4, y5, y6⟩ := at7_keep hkc rfl HC.out.1
    by_cases hlt : j < us.length
    case pos =>
      have hlt' : (j : Int) < us.length := by omega
      have HLT := hid hlt
      have hdr : us.drop j = us[j]'hlt :: us.drop (j + 1) := List.drop_eq_getElem_cons hlt
      have hE1 := hE.out.1
      rw [hdr] at hE1
      obtain ⟨ad, hA, hpt⟩ := HC.out.2.2.1.pt hlt
      subst hA
      have hpt2 : CPt wr (SfT M wvi (fun b => P b ∧ b < w.heap.size)) (ad.add (j * 7)) (us[j]'hlt) := hpt.keep (fun k hk hl => ⟨(hMS.out.2.keepT k hk hl).1, (hMS.out.2.keepT k hk hl).2.1, hk.2, hl⟩)
      have he2 : EAt wr (SfT M wvi (fun b => P b ∧ b < w.heap.size)) e ep := EAt.keep (fun k hk hl => ⟨(hMS.out.2.keepT k hk hl).1, (hMS.out.2.keepT k hk hl).2.1, hk.2, hl⟩) _ _ HC.out.2.2.2.2.1
      have HPE := hid (And.intro hpt2 he2)
      clear hj hdr hkc hpt hpt2 he2
      rcases evL_cons hE1 with ⟨k, h1, h2⟩ | ⟨v, s1, w1', r2, h1, h2, h3⟩
      · have C := hid (HC.out.2.2.2.1 _ _ _ _ _ _ _ h1 _ wr M _ _ wvi hMS.out.1 HPE.out.1 HPE.out.2)
        have HO := hid (show o = .stop k by rw [hE.out.2, h2]; rfl)
        clear h1 h2 hE1
        go_wp2_with (go_at_call 50; go_must (refine C.out.mono ?_); rintro e9 w1 ⟨wv1, hm1, hs1, h9⟩; go_must (have h8 : e9 = .panicked [stopV k] := h9; subst h8; have G := hid (And.intro hm1 hs1); clear hm1 hs1 h9))
        refine ⟨rfl, ?_⟩
        (rw [HO.out]; exact sim_stop hMS.out.2 G.out)
      · have C := hid (HC.out.2.2.2.1 _ _ _ _ _ _ _ h1 _ wr M _ _ wvi hMS.out.1 HPE.out.1 HPE.out.2)
        have HO := hid (show o = pre (ds ++ [v]) r2 by rw [hE.out.2, h3, pre_pre])
        have HE := hid h2
        clear h1 h2 h3 hE1
        go_wp2_with (first
          | (go_at_call 50; (refine C.out.mono ?_); rintro e9 w1 ⟨wv1, hm1, hs1, h9⟩; (obtain ⟨vv, h8, hvv⟩ := h9; subst h8; obtain ⟨tt, xx, rfl⟩ := hvv.iface; have G := hid (And.intro hm1 (And.intro hs1 hvv)); clear hm1 hs1 hvv))
          | (at_builtin; go_must (have hO := World.ownsRow.alloc (hB.out.step G.out.2.1).row (.cells #[.iface tt xx] 91); have hCl : (w1.alloc (.cells #[.iface tt xx] 91)).cell? ⟨w1.heap.size, 0, none⟩ = some (.iface tt xx) := (Blk.new w1 _ #[.iface tt xx]).cell 0; have hL1 : j + 1 ≤ 1000000 := (by omega); have hL2 : w.heap.size ≤ (w1.alloc (.cells #[.iface tt xx] 91)).heap.size := by (have h1 := G.out.2.1.size; have h2 := hMS.out.2.size; simp; omega)); go_must (refine wpList_appV (by rfl) _ _ (by rfl) w.heap.size (by rfl) hO (by rfl) hCl (by rfl) hL1 hL2 ?_); clear hO hCl hL1 hL2; intro lv2 w2 hr2 hg2 hn2; go_must (obtain ⟨A8, c8, rfl⟩ := row_sliceV hr2); have R2 := hid (And.intro hr2 (And.intro hg2 hn2)); clear hr2 hg2 hn2))
        have N := hid (sim_next hMS.out.2 hB.out G.out.1 G.out.2.1 G.out.2.2 R2.out.1 R2.out.2.1 R2.out.2.2)
        have hgk := Hj.out
        have hlt9 := HLT.out
        go_roundg (gk - 1)
        case rel => exact ⟨j + 1, s1, w1', wv1, ds ++ [v], xs ++ [.iface tt xx], r2, A8, c8, by omega, by go_num, rfl, hid ⟨N.out.1, N.out.2.1⟩, hid N.out.2.2, hid ⟨HE.out, HO.out⟩⟩
        case measure => omega
    case neg =>
      obtain rfl : j = us.length := by omega
      have hE1 := hE.out.1
      rw [List.drop_length, evL] at hE1
      injection hE1 with hE1
      injection hE1 with hE2 hE1
      injection hE1 with hE3 hE4
      subst hE2 hE3 hE4
      clear hj hkc
      go_wp2
      go_ret
      have hb : Below wr.heap.size wr (wr.alloc (.cells #[.int .i64 n, .slice A7 us.length c7] 82)) := al1 _ _
      have hD := hB.out.done (fun b h => .inr h)
      have hds : us.length = ds.length := hD.1
      refine ⟨wvi, hMS.out.1.below hb, hMS.out.2.below hb, ?_⟩
      rw [hE.out.2, pre, List.append_nil, conO, OutIs]
      refine ⟨_, rfl, ?_⟩
      rw [VAt]
      refine ⟨⟨wr.heap.size, A7, c7, by rfl, ⟨hMS.out.1.sf (Nat.le_refl _), .inr hMS.out.2.size⟩, by rw [← hds]; exact Blk.new _ _ _, VRow.keep (fun k hk hl => ⟨hb.block k hl, hk⟩) _ _ _ hD.2⟩, HI0.out.2.2.2.2, by omega⟩
end Go.Proofs.Ytohdaclbgedeiaa
