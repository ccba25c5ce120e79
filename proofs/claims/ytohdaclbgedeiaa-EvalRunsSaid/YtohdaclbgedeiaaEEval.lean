/-
  THE WALK OF eval.machine.eval.
-/
import Derived.Test.YtohdaclbgedeiaaESimZ
import Derived.Deep.RegionHeld3
namespace Go.Proofs.Ytohdaclbgedeiaa
set_option linter.all false
open Go.ChangeShapes Go.WideShapes Go.ChangeAt Go.RowKit
open Ev (Co Va En Out evL ev R bnd app around arm)
theorem CPt.up_keep {w w1 : World} {T : Nat → Prop} {W : World} {M : Nat} {wv wv1 : Value} {p : Addr} {c : Co} (h : CPt w (SfT M wv (Now T W)) p c) (hs : MStep M wv wv1 w w1) : CPt w1 (SfT M wv1 (Now T W)) p c := h.keep (fun k hk hl => hs.keepT k hk hl)
theorem EAt.up_keep {w w1 : World} {T : Nat → Prop} {W : World} {M : Nat} {wv wv1 : Value} {p : Option Addr} {c : En} (h : EAt w (SfT M wv (Now T W)) c p) (hs : MStep M wv wv1 w w1) : EAt w1 (SfT M wv1 (Now T W)) c p := EAt.keep (fun k hk hl => hs.keepT k hk hl) _ _ h
theorem VAt.up_keep {w w1 : World} {T : Nat → Prop} {W : World} {M : Nat} {wv wv1 : Value} {p : Value} {c : Va} (h : VAt w (SfT M wv (Now T W)) c p) (hs : MStep M wv wv1 w w1) : VAt w1 (SfT M wv1 (Now T W)) c p := VAt.keep (fun k hk hl => hs.keepT k hk hl) _ _ h
theorem al3 (X : World) (o o2 : Obj) (f : Nat) (i : Nat) (v : Value) (hf : X.heap.size ≤ f) : Below X.heap.size X (((X.alloc o).alloc o2).setCell ⟨f, i, none⟩ v) := by
  refine (al2 X o o2).trans ⟨rfl, rfl, rfl, by simp, fun k hk => ?_⟩
  exact Below.heap_setCell _ ⟨f, i, none⟩ _ k (by simp; omega)
theorem cell_al {w : World} {a : Addr} {v : Value} (h : w.cell? a = some v) (o : Obj) : (w.alloc o).cell? a = some v := cell_of (Below.heap_alloc w o a.block (cell_lt h)) rfl h
theorem evc_no {T : Nat → Prop} {k : Int} {F s : Nat} {ws : List Int} {M : Nat} {wv : Value} {w : World} {xs : Array Value} (h : Calls Try.prog 50 xs w (EvP T (.stop k) F s ws M wv w)) : Calls Try.prog 50 xs w (fun e w' => (e = .returned (.iface 86 (.int .i64 0)) ∧ w' = w ∧ Hid False) ∨ EvP T (.stop k) F s ws M wv w e w') := h.mono (fun _ _ h => .inr h)
theorem drew_below (w : World) : Below w.heap.size w w.drew := Below.drew (Below.refl _ _)
set_option maxHeartbeats 16000000 in
set_option maxRecDepth 100000 in
theorem eval_all (F : Nat) : ∀ g, EvC F g := by
  intro g
  induction g using Nat.strongRecOn with
  | _ g IH =>
  intro c e s ws o s' ws' hE T w M cp ep wv hm hc he
  have HIH := hid IH
  have HI := hid (show EvI T w M F wv o s' ws' g cp ep w from ⟨c, e, s, ws, wv, ⟨hm, MStep.refl _ _ _⟩, hc.keep (fun k hk hl => ⟨rfl, hk.1, .inl hk.2⟩), EAt.keep (fun k hk hl => ⟨rfl, hk.1, .inl hk.2⟩) _ _ he, hE⟩)
  clear IH hE hm hc he
  go_enter Try.func50, Try.ntmps50
  go_wp2
  go_loopg [1, 2] g (fun gg z1 z2 wr => ∃ (cp : Addr) (ep : Option Addr), gg ≤ g ∧ z1 = .pointer (some cp) ∧ z2 = .pointer ep ∧ Hid (EvI T w M F wv o s' ws' gg cp ep wr))
  case atStart => exact ⟨cp, ep, Nat.le_refl _, rfl, rfl, HI⟩
  case round =>
    clear HI
    obtain ⟨cp, ep, hgg, rfl, rfl, hI⟩ := hrel
    obtain ⟨c, e, si, wsi, wvi, hMS0, hpt0, he0, hE0⟩ := hI.out
    obtain ⟨g1, rfl⟩ : ∃ g1, gk = g1 + 1 := by
      cases gk with
      | zero => rw [ev] at hE0; cases hE0
      | succ g1 => exact ⟨g1, rfl⟩
    have HC := hid (HIH.out g1 (by omega))
    obtain ⟨k, x, y, n, i, ts, us⟩ := c
    obtain ⟨Tg, tc, A, ca, hcells, hIt, hsz, hrow0, hwf⟩ := hpt0.cells
    have hMS := hid hMS0
    have hPT := hid (And.intro hpt0 he0)
    have hrow := hid hrow0
    have hCL := hid (And.intro hcells (And.intro (cell_lt hcells.1) (And.intro hpt0.1.1 hwf)))
    have hE := hid hE0
    have hG := hid hgg
    obtain ⟨y0, y1, y2, y3, y4, y5, y6⟩ := hcells
    clear hI hMS0 hpt0 he0 hrow0 hE0 hgg hIt hsz hwf
    by_cases hk4 : k = 4
    · subst hk4
      obtain ⟨a, b, rfl, hE4⟩ := ev_app hE.out
      obtain ⟨ad, hA, pta0⟩ := hrow.out.pt (j := 0) (by simp)
      subst hA
      obtain ⟨ad', hA', ptb0⟩ := hrow.out.pt (j := 1) (by simp)
      injection hA' with hA'
      subst hA'
      rw [show ad.add (0 * 7) = ad from by unfold Addr.add; simp] at pta0
      rw [← add7] at ptb0
      have PTA := hid (show CPt wr _ ad a from pta0)
      have PTB := hid (show CPt wr _ ⟨ad.block, ad.off + 7, none⟩ b from ptb0)
      clear pta0 ptb0 hE
      rcases hE4 with ⟨kk, h1, rfl⟩ | ⟨vf, s1, ws1, h1, hE5⟩
      · have C := hid (HC.out _ _ _ _ _ _ _ h1 (Now T w) wr M _ _ wvi hMS.out.1 PTA.out hPT.out.2)
        clear h1
        -- [A
        go_wp2_with (go_at_call 50; (refine C.out.mono ?_); clear C; rintro e9 w1 ⟨wv1, hm1, hs1, h9⟩; (have h8 : e9 = .panicked [stopV kk] := h9; subst h8; have G := hid (And.intro hm1 hs1); clear hm1 hs1 h9))
        exact ⟨rfl, sim_stop hMS.out.2 G.out⟩
        -- A]
      have C := hid (HC.out _ _ _ _ _ _ _ h1 (Now T w) wr M _ _ wvi hMS.out.1 PTA.out hPT.out.2)
      clear h1
      rcases hE5 with ⟨kk, h2, rfl⟩ | ⟨va, s3, ws3, h2, hA⟩
      · have H2 := hid h2
        clear h2
        -- [B
        go_wp2_with (first
          | (go_at_call 50; (refine C.out.mono ?_); clear C; rintro e9 w1 ⟨wv1, hm1, hs1, h9⟩; (obtain ⟨vv, h8, hvv⟩ := h9; subst h8; obtain ⟨tt, xx, rfl⟩ := hvv.iface; have G := hid (And.intro hm1 (And.intro hs1 (val_now hMS.out.2.size hvv))); clear hm1 hs1 hvv; have hk9 := (G.out.2.1.keeps cp.block hCL.out.2.2.1 hCL.out.2.1).1; obtain ⟨d0, d1, d2, d3, d4, d5, d6⟩ := at7_keep hk9 rfl hCL.out.1; clear hk9; (have C2 := hid (HC.out _ _ _ _ _ _ _ H2.out (Now T w) w1 M ⟨ad.block, ad.off + 7, none⟩ ep wv1 G.out.1 (PTB.out.up_keep G.out.2.1) (hPT.out.2.up_keep G.out.2.1)))))
          | (go_at_call 50; (refine C2.out.mono ?_); clear C2; rintro e9 w2 ⟨wv2, hm2, hs2, h9⟩; (have h8 : e9 = .panicked [stopV kk] := h9; subst h8; have G2 := hid (And.intro hm2 hs2); clear hm2 hs2 h9)))
        exact ⟨rfl, sim_stop (hMS.out.2.trans G.out.2.1) G2.out⟩
        -- B]
      have H2 := hid h2
      clear h2
      rcases app_is hA with ⟨rfl, rfl, rfl, rfl⟩ | ⟨hsF, xf, self, b2, e2, rfl, hRun⟩ | ⟨hsF, hn, rfl, rfl, rfl⟩
      · clear hA
        -- [C
        go_wp2_with (first
          | (go_at_call 50; (refine C.out.mono ?_); clear C; rintro e9 w1 ⟨wv1, hm1, hs1, h9⟩; (obtain ⟨vv, h8, hvv⟩ := h9; subst h8; obtain ⟨tt, xx, rfl⟩ := hvv.iface; have G := hid (And.intro hm1 (And.intro hs1 (val_now hMS.out.2.size hvv))); clear hm1 hs1 hvv; have hk9 := (G.out.2.1.keeps cp.block hCL.out.2.2.1 hCL.out.2.1).1; obtain ⟨d0, d1, d2, d3, d4, d5, d6⟩ := at7_keep hk9 rfl hCL.out.1; clear hk9; (have C2 := hid (HC.out _ _ _ _ _ _ _ H2.out (Now T w) w1 M ⟨ad.block, ad.off + 7, none⟩ ep wv1 G.out.1 (PTB.out.up_keep G.out.2.1) (hPT.out.2.up_keep G.out.2.1)))))
          | (go_at_call 50; (refine C2.out.mono ?_); clear C2; rintro e9 w2 ⟨wv2, hm2, hs2, h9⟩; (obtain ⟨vv2, h8, hvv⟩ := h9; subst h8; obtain ⟨tt2, xx2, rfl⟩ := hvv.iface; have G2 := hid (And.intro hm2 (And.intro hs2 (val_now (Nat.le_trans hMS.out.2.size G.out.2.1.size) hvv))); clear hm2 hs2 hvv; (have C3 := hid (applied_fuel w2 M _ _ wv2 (.iface tt xx) (.iface tt2 xx2) G2.out.1))))
          | (go_at_call 49; refine C3.out.mono ?_; rintro e9 w3 ⟨rfl, b3⟩; have G3 := hid b3; clear b3))
        exact ⟨rfl, _, G2.out.1.below G3.out, ((hMS.out.2.trans G.out.2.1).trans G2.out.2.1).below G3.out, rfl⟩
        -- C]
      · have HR := hid hRun
        clear hA hRun
        have HSF := hid hsF
        clear hsF
        -- [D
        go_wp2_with (first
          | (go_at_call 50; (refine C.out.mono ?_); clear C; rintro e9 w1 ⟨wv1, hm1, hs1, h9⟩; (obtain ⟨vv, h8, hvv⟩ := h9; subst h8; have hvw := val_now hMS.out.2.size hvv; have hvw0 := hvw; rw [VAt] at hvw; obtain ⟨p, bp2, ep2, rfl, hSp, hp, _, _⟩ := hvw; have G := hid (And.intro hm1 (And.intro hs1 hvw0)); have GP := hid (And.intro hSp hp); clear hm1 hs1 hvv hvw0 hSp hp; have hk9 := (G.out.2.1.keeps cp.block hCL.out.2.2.1 hCL.out.2.1).1; obtain ⟨d0, d1, d2, d3, d4, d5, d6⟩ := at7_keep hk9 rfl hCL.out.1; clear hk9; (have C2 := hid (HC.out _ _ _ _ _ _ _ H2.out (Now T w) w1 M ⟨ad.block, ad.off + 7, none⟩ ep wv1 G.out.1 (PTB.out.up_keep G.out.2.1) (hPT.out.2.up_keep G.out.2.1)))))
          | (go_at_call 50; (refine C2.out.mono ?_); clear C2; rintro e9 w2 ⟨wv2, hm2, hs2, h9⟩; (obtain ⟨vv2, h8, hvv⟩ := h9; subst h8; obtain ⟨tt2, xx2, rfl⟩ := hvv.iface; have G2 := hid (And.intro hm2 (And.intro hs2 (val_now (Nat.le_trans hMS.out.2.size G.out.2.1.size) hvv))); clear hm2 hs2 hvv; (have C3 := hid (applied_ok w2 M F s3 ws3 wv2 tt2 xx2 xf p bp2 ep2 G2.out.1 (by have := G2.out.1.hs; have := HSF.out; omega) GP.out.1.1.1 (blk_keep GP.out.2 (fun hl => (G2.out.2.1.keepT p GP.out.1 hl).1))))))
          | (go_at_call 49; refine C3.out.mono ?_; rintro e9 w3 ⟨q, rfl, hq3, hB3, hm3, hs3⟩; have G3 := hid (And.intro hq3 (And.intro hB3 (And.intro hm3 hs3))); clear hq3 hB3 hm3 hs3))
        have hG9 := hG.out
        go_roundg g1
        case rel => exact ⟨bp2, some ⟨q, 0, none⟩, by omega, rfl, rfl, hid (evI_app (G.out.2.2.up_keep G2.out.2.1) (blk_keep GP.out.2 (fun hl => (G2.out.2.1.keepT p GP.out.1 hl).1)) ((hMS.out.2.trans G.out.2.1).trans G2.out.2.1) G3.out.2.2.1 G3.out.2.2.2 G2.out.1 G2.out.2.2 HR.out G3.out.1 G3.out.2.1)⟩
        case measure => omega
        -- D]
      · clear hA
        have HSF := hid (And.intro hsF hn)
        clear hsF hn
        -- [E
        go_wp2_with (first
          | (go_at_call 50; (refine C.out.mono ?_); clear C; rintro e9 w1 ⟨wv1, hm1, hs1, h9⟩; (obtain ⟨vv, h8, hvv⟩ := h9; subst h8; obtain ⟨tt, xx, rfl⟩ := hvv.iface; have G := hid (And.intro hm1 (And.intro hs1 (val_now hMS.out.2.size hvv))); clear hm1 hs1 hvv; have hk9 := (G.out.2.1.keeps cp.block hCL.out.2.2.1 hCL.out.2.1).1; obtain ⟨d0, d1, d2, d3, d4, d5, d6⟩ := at7_keep hk9 rfl hCL.out.1; clear hk9; (have C2 := hid (HC.out _ _ _ _ _ _ _ H2.out (Now T w) w1 M ⟨ad.block, ad.off + 7, none⟩ ep wv1 G.out.1 (PTB.out.up_keep G.out.2.1) (hPT.out.2.up_keep G.out.2.1)))))
          | (go_at_call 50; (refine C2.out.mono ?_); clear C2; rintro e9 w2 ⟨wv2, hm2, hs2, h9⟩; (obtain ⟨vv2, h8, hvv⟩ := h9; subst h8; obtain ⟨tt2, xx2, rfl⟩ := hvv.iface; have G2 := hid (And.intro hm2 (And.intro hs2 (val_now (Nat.le_trans hMS.out.2.size G.out.2.1.size) hvv))); clear hm2 hs2 hvv; (have C3 := hid (applied_bad w2 M F _ _ wv2 (.iface tt xx) (.iface tt2 xx2) _ vf G2.out.1 (by have := G2.out.1.hs; have := HSF.out.1; omega) (G.out.2.2.up_keep G2.out.2.1) HSF.out.2))))
          | (go_at_call 49; refine C3.out.mono ?_; rintro e9 w3 ⟨rfl, hm3, hs3⟩; have G3 := hid (And.intro hm3 hs3); clear hm3 hs3))
        exact ⟨rfl, sim_stop ((hMS.out.2.trans G.out.2.1).trans G2.out.2.1) G3.out⟩
        -- E]
    by_cases hk5 : k = 5
    · subst hk5
      obtain ⟨a, b, rfl, hE4⟩ := ev_let hE.out
      obtain ⟨ad, hA, pta0⟩ := hrow.out.pt (j := 0) (by simp)
      subst hA
      obtain ⟨ad', hA', ptb0⟩ := hrow.out.pt (j := 1) (by simp)
      injection hA' with hA'
      subst hA'
      rw [show ad.add (0 * 7) = ad from by unfold Addr.add; simp] at pta0
      rw [← add7] at ptb0
      have PTA := hid (show CPt wr _ ad a from pta0)
      have PTB := hid (show CPt wr _ ⟨ad.block, ad.off + 7, none⟩ b from ptb0)
      have y6' : wr.cell? ⟨cp.block, cp.off + 6, none⟩ = some (.slice (some ad) 2 ca) := y6
      clear pta0 ptb0 hE y6
      rcases hE4 with ⟨kk, h1, rfl⟩ | ⟨va, s1, ws1, h1, h2⟩
      -- [F
      · have C := hid (evc_no (HC.out _ _ _ _ _ _ _ h1 (Now T w) wr.drew M _ _ wvi (hMS.out.1.below (drew_below wr)) (PTA.out.up (drew_below wr)) (hPT.out.2.up (drew_below wr))))
        clear h1
        go_wp2
        go_region_held2 (fun w' => w'.cell? ⟨cp.block, cp.off + 1, none⟩ = some (.int .i64 x) ∧ w'.cell? ⟨cp.block, cp.off + 6, none⟩ = some (.slice (some ad) 2 ca)) (first | exact ⟨y1, y6'⟩ | go_keep) ((go_at_call 50; (refine C.out.mono ?_); rintro e8 w9 h9; rcases h9 with ⟨rfl, h8, HFA⟩ | ⟨wv1, hm1, hs1, h9⟩; rotate_left; ((have h8 : e8 = .panicked [stopV kk] := h9); subst h8; exact ⟨rfl, sim_stop (hMS.out.2.below (drew_below wr)) ⟨hm1, hs1⟩⟩); have h7 := h8.symm; subst h7; clear h8))
        all_goals exact HFA.out.elim
      -- F]
      -- [G
      · have C := hid (HC.out _ _ _ _ _ _ _ h1 (Now T w) wr.drew M _ _ wvi (hMS.out.1.below (drew_below wr)) (PTA.out.up (drew_below wr)) (hPT.out.2.up (drew_below wr)))
        have H2 := hid h2
        clear h1 h2
        go_wp2
        go_region_held2 (fun w' => w'.cell? ⟨cp.block, cp.off + 1, none⟩ = some (.int .i64 x) ∧ w'.cell? ⟨cp.block, cp.off + 6, none⟩ = some (.slice (some ad) 2 ca)) (first | exact ⟨y1, y6'⟩ | with_reducible exact KP.out | exact ⟨cell_al KP.out.1 _, cell_al KP.out.2 _⟩ | go_keep) ((go_at_call 50; (refine C.out.mono ?_); clear C; rintro e9 w1 ⟨wv1, hm1, hs1, h9⟩; (obtain ⟨vv, h8, hvv⟩ := h9; subst h8; obtain ⟨tt, xx, rfl⟩ := hvv.iface; have G := hid (And.intro hm1 (And.intro hs1 (val_now (Nat.le_trans hMS.out.2.size (drew_below wr).size) hvv))); clear hm1 hs1 hvv; have hk9 : w1.heap[cp.block]? = wr.heap[cp.block]? := (G.out.2.1.keeps cp.block hCL.out.2.2.1 hCL.out.2.1).1; obtain ⟨d0, d1, d2, d3, d4, d5, d6⟩ := at7_keep hk9 rfl hCL.out.1; have KP := hid (And.intro d1 (show w1.cell? ⟨cp.block, cp.off + 6, none⟩ = some (.slice (some ad) 2 ca) from d6)); clear hk9 d0 d1 d2 d3 d4 d5 d6)))
        go_wp2
        have hG9 := hG.out
        go_roundg g1
        case rel => exact ⟨⟨ad.block, ad.off + 7, none⟩, some ⟨w1.heap.size, 0, none⟩, by omega, rfl, rfl, hid (evI_let G.out.1 ((hMS.out.2.below (drew_below wr)).trans G.out.2.1) ((PTB.out.up (drew_below wr)).up_keep G.out.2.1) ((hPT.out.2.up (drew_below wr)).up_keep G.out.2.1) G.out.2.2 H2.out (al1 _ _) (Nat.le_refl _) (Blk.new _ _ _))⟩
        case measure => omega
      -- G]
    by_cases hk6 : k = 6
    · subst hk6
      obtain ⟨a, b, rfl, hx, h2⟩ := ev_rec hE.out
      obtain ⟨ad, hA, pta0⟩ := hrow.out.pt (j := 0) (by simp)
      subst hA
      obtain ⟨ad', hA', ptb0⟩ := hrow.out.pt (j := 1) (by simp)
      injection hA' with hA'
      subst hA'
      rw [show ad.add (0 * 7) = ad from by unfold Addr.add; simp] at pta0
      rw [← add7] at ptb0
      have PTA := hid (show CPt wr _ ad a from pta0)
      have PTB := hid (show CPt wr _ ⟨ad.block, ad.off + 7, none⟩ b from ptb0)
      have y6' : wr.cell? ⟨cp.block, cp.off + 6, none⟩ = some (.slice (some ad) 2 ca) := y6
      clear pta0 ptb0 hE y6
      have H2 := hid (And.intro hx h2)
      clear hx h2
      -- [H
      have hcl := hCL.out.2.1
      go_wp2
      go_region
      go_wp2
      go_region
      go_wp2
      have hG9 := hG.out
      go_roundg g1
      case rel => exact ⟨⟨ad.block, ad.off + 7, none⟩, some ⟨wr.heap.size + 1, 0, none⟩, by omega, rfl, rfl, hid (evI_rec H2.out.1 hMS.out.1 hMS.out.2 PTA.out PTB.out hPT.out.2 H2.out.2 (Below.drew (Below.drew (al2 _ _ _))) (Nat.le_refl _) (by omega) (Blk.drew (Blk.drew ((Blk.new _ _ _).alloc _))) (Blk.drew (Blk.drew (Blk.new' (by simp) _ _))))⟩
      case measure => omega
      -- H]
    by_cases hk9 : k = 9
    · subst hk9
      obtain ⟨a, rest, rfl, hE4⟩ := ev_sw hE.out
      obtain ⟨ad, hA, pta0⟩ := hrow.out.pt (j := 0) (by simp)
      subst hA
      rw [show ad.add (0 * 7) = ad from by unfold Addr.add; simp] at pta0
      have PTA := hid (show CPt wr _ ad a from pta0)
      have hrl : (0 : Int) < (a :: rest).length := by simp
      clear pta0 hE
      rcases hE4 with ⟨kk, h1, rfl⟩ | ⟨va, s1, ws1, h1, hE5⟩
      -- [I
      · have C := hid (HC.out _ _ _ _ _ _ _ h1 (Now T w) wr M _ _ wvi hMS.out.1 PTA.out hPT.out.2)
        clear h1
        go_wp2_with (go_at_call 50; (refine C.out.mono ?_); clear C; rintro e9 w1 ⟨wv1, hm1, hs1, h9⟩; (have h8 : e9 = .panicked [stopV kk] := h9; subst h8; have G := hid (And.intro hm1 hs1); clear hm1 hs1 h9))
        exact ⟨rfl, sim_stop hMS.out.2 G.out⟩
      -- I]
      have C := hid (HC.out _ _ _ _ _ _ _ h1 (Now T w) wr M _ _ wvi hMS.out.1 PTA.out hPT.out.2)
      clear h1
      rcases hE5 with ⟨c2, hArm, h2⟩ | ⟨hArm, rfl, rfl, rfl⟩
      -- [J
      · have H2 := hid (And.intro hArm h2)
        clear hArm h2
        go_wp2_with (first
          | (go_at_call 50; (refine C.out.mono ?_); clear C; rintro e9 w1 ⟨wv1, hm1, hs1, h9⟩; (obtain ⟨vv, h8, hvv⟩ := h9; subst h8; obtain ⟨tt, xx, rfl⟩ := hvv.iface; have G := hid (And.intro hm1 (And.intro hs1 (val_now hMS.out.2.size hvv))); clear hm1 hs1 hvv; have hk9 := (G.out.2.1.keeps cp.block hCL.out.2.2.1 hCL.out.2.1).1; obtain ⟨d0, d1, d2, d3, d4, d5, d6⟩ := at7_keep hk9 rfl hCL.out.1; clear hk9; (have C2 := hid (eval_chosen cp 9 x y n i ts a rest va (.iface tt xx) (SfT M wv1 (Now T w)) w1 (hPT.out.1.up_keep G.out.2.1) G.out.2.2))))
          | (go_at_call 63; refine C2.out.mono ?_; clear C2; rintro e9 w2 ⟨h9, hb2⟩; rw [H2.out.1] at h9; obtain ⟨p2, rfl, hp2⟩ := h9; have G2 := hid (And.intro hp2 hb2); clear hp2 hb2))
        have hG9 := hG.out
        go_roundg g1
        case rel => exact ⟨p2, ep, by omega, rfl, rfl, hid ⟨c2, e, s1, ws1, wv1, ⟨G.out.1.below G2.out.2, (hMS.out.2.trans G.out.2.1).below G2.out.2⟩, G2.out.1, (hPT.out.2.up_keep G.out.2.1).up G2.out.2, H2.out.2⟩⟩
        case measure => omega
      -- J]
      -- [K
      · have H2 := hid hArm
        clear hArm
        go_wp2_with (first
          | (go_at_call 50; (refine C.out.mono ?_); clear C; rintro e9 w1 ⟨wv1, hm1, hs1, h9⟩; (obtain ⟨vv, h8, hvv⟩ := h9; subst h8; obtain ⟨tt, xx, rfl⟩ := hvv.iface; have G := hid (And.intro hm1 (And.intro hs1 (val_now hMS.out.2.size hvv))); clear hm1 hs1 hvv; have hk9 := (G.out.2.1.keeps cp.block hCL.out.2.2.1 hCL.out.2.1).1; obtain ⟨d0, d1, d2, d3, d4, d5, d6⟩ := at7_keep hk9 rfl hCL.out.1; clear hk9; (have C2 := hid (eval_chosen cp 9 x y n i ts a rest va (.iface tt xx) (SfT M wv1 (Now T w)) w1 (hPT.out.1.up_keep G.out.2.1) G.out.2.2))))
          | (go_at_call 63; refine C2.out.mono ?_; clear C2; rintro e9 w2 ⟨h9, hb2⟩; rw [H2.out] at h9; have h8 : e9 = .panicked [stopV (-1)] := h9; subst h8; have G2 := hid hb2; clear hb2 h9))
        exact ⟨rfl, sim_stop (hMS.out.2.trans G.out.2.1) ⟨G.out.1.below G2.out, (MStep.refl _ _ _).below G2.out⟩⟩
      -- K]
    have b4 : (k == 4) = false := by simp [hk4]
    have b5 : (k == 5) = false := by simp [hk5]
    have b6 : (k == 6) = false := by simp [hk6]
    have b9 : (k == 9) = false := by simp [hk9]
    have C := hid (simple_all (Now T w) wr M F g1 si wsi wvi cp k x y n i ts us e ep o s' ws' HC.out hMS.out.1 hPT.out.1 hPT.out.2 hk4 hk5 hk6 hk9 hE.out)
    clear hk4 hk5 hk6 hk9 hE
    -- [Z
    cases o with
    | stop kk =>
      go_wp2_with (go_at_call 64; refine C.out.mono ?_; rintro e9 w1 ⟨wv1, hm1, hs1, h9⟩; (have h8 : e9 = .panicked [stopV kk] := h9; subst h8; have G := hid (And.intro hm1 hs1); clear hm1 hs1 h9))
      exact ⟨rfl, sim_stop hMS.out.2 G.out⟩
    | ok u =>
      go_wp2_with (go_at_call 64; refine C.out.mono ?_; rintro e9 w1 h9; have H9 := hid (evP_up hMS.out.2 h9); (obtain ⟨wv1, hm1, hs1, vv, h8, h7⟩ := h9; subst h8; clear hm1 hs1 h7))
      go_ret
      exact H9.out
    -- Z]
end Go.Proofs.Ytohdaclbgedeiaa
