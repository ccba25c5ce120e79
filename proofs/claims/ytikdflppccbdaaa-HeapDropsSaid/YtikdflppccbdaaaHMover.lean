/-
  THE WALK OF (*heap.mover).word.
-/
import Derived.Test.YtikdflppccbdaaaHWordM
namespace Go.Proofs.Ytikdflppccbdaaa
open Go.ChangeShapes Go.WideShapes Go.ChangeAt Go.RowKit

/-- The mover in memory. -/
structure PSt (W : World) (M g r : Nat) (A : Option Addr) (n c : Nat) (st : St) : Prop where
  blk : Blk W M 73 #[.slice A n c, .slice (some ⟨g, 0, none⟩) n n, .int .i64 st.top, .map (some r)]
  to : Row W g n n (tab n st.to)
  mv : MapIs W r st.top st.mv

set_option maxHeartbeats 2000000 in
set_option maxRecDepth 100000 in
theorem mover_new (B M g r : Nat) (A : Option Addr) (n c : Nat) (ws : List Int) (st : St) (x : Int) (p s : Nat) (W : World) (h : PSt W M g r A n c st) (hi : Ints W B A n c ws) (_hg : B ≤ g) (_hM : B ≤ M)
    (h1 : M ≠ g) (h2 : M ≠ r) (h3 : g ≠ r) (hx : PlOk x) (hwf : (Lit.int .i64 x).wf = true) (hp : plN x = p) (hpn : p + s < n) (h0 : st.mv p = 0) (hs : ofS (gw ws p) = s) (hok : OfOk (gw ws p)) (hroom : st.top + s + 1 ≤ n) (hn : n ≤ 6000) :
    Calls Try.prog 42 #[.pointer (some ⟨M, 0, none⟩), .int .i64 x] W fun e W' => e = .returned (.int .i64 (1024 + 4 * st.top)) ∧ PSt W' M g r A n c ⟨cpy st.to (gw ws) st.top p (s + 1), st.top + s + 1, upd st.mv p (1024 + 4 * st.top)⟩ ∧ Keeps3 M g r W W' := by
  obtain ⟨to, top, mv⟩ := st
  dsimp only at h h0 hroom ⊢
  obtain ⟨hb, ht, hv⟩ := h
  dsimp only at hb ht hv
  have hP := hid (plV_yes hx)
  rw [hp] at hP
  have hO := hid (ofV_yes hok)
  rw [hs] at hO
  have hwx := hid hwf
  have hpn' : p < n := by omega
  obtain ⟨ad, rfl⟩ := hi.some_ hpn'
  have q1 := hi.cell hpn'
  have hw := hid (hi.wf_at hpn')
  obtain ⟨x0, x1, x2, x3, f0, f1, f2, f3⟩ := (hb).four
  have HT1 := hid ht
  have HV1 := hid hv
  have HB1 := hid hb
  have HI1 := hid (hi.sub (p := p) (q := s + 1) (by omega) (by omega))
  have hlen := hid (And.intro hi.len hi.cap)
  have hs64 : s ≤ 64 := by rw [← hs]; exact ofS_le hok
  have n3 : ¬ g = M := fun h => h1 h.symm
  have n4 : ¬ M = g := h1
  have n5 : ¬ r = M := fun h => h2 h.symm
  have n6 : ¬ M = r := h2
  have n7 : ¬ r = g := fun h => h3 h.symm
  have n8 : ¬ g = r := h3
  have b1 : (0 : Int) ≤ (top : Int) := by omega
  have b2 : (top : Int) ≤ (n : Int) := by omega
  have b3 : (0 : Int) ≤ (p : Int) := by omega
  have b4 : (p : Int) ≤ (p : Int) + (s : Int) + 1 := by omega
  have b5 : (p : Int) + (s : Int) + 1 ≤ (c : Int) := by have := hi.cap; omega
  have b6 : ¬ n = top := by omega
  have b7 : ¬ c = p := by have := hi.cap; omega
  have b8 : (0 : Int) ≤ (p : Int) + (s : Int) + 1 := by omega
  have hd0 : decide (mv p ≠ 0) = false := by simp [h0]
  have Hd0 := hid hd0
  have H0 := hid h0
  clear hx hp hwf hok hs h0 ht hv hb hi hd0
  go_enter Try.func42, Try.ntmps42
  go_wp2_with (first | (go_at_call 31; go_must (refine (cells_Place x hwx.out _).mono ?_); rw [hP.out]; rintro e w1 ⟨rfl, rfl⟩) | (at_lookup; go_must (refine wpList_lookI (by rfl) _ _ (by rfl) HV1.out (p := p) (by omega) (by rfl) (by rfl) ?_); rw [Hd0.out, H0.out]) | (go_at_call 43; go_must (refine (cells_Of _ hw.out _).mono ?_); rw [hO.out]; rintro e w1 ⟨rfl, rfl⟩) | (go_at_call 39; go_must (refine (cells_Pointer _ _).mono ?_); rw [ptV_yes (by omega)]; rintro e w1 ⟨rfl, rfl⟩))
  have b9 : IntKind.i64.wrap ((p : Int) + (s : Int)) = (p : Int) + (s : Int) := IntWalk.i64_in _ (by omega)
  have b10 : IntKind.i64.wrap ((p : Int) + (s : Int) + 1) = (p : Int) + (s : Int) + 1 := IntWalk.i64_in _ (by omega)
  have HI2 : Hid (Ints W.drew B (some (ad.add p)) (p + s + 1 - p) (c - p) ((ws.drop p).take (s + 1))) := hid (by rw [show p + s + 1 - p = s + 1 from by omega]; exact HI1.out.drew)
  go_region_held3 (fun w' => w'.cell? ⟨M, 0, none⟩ = some (.slice (some ad) n c) ∧ w'.cell? ⟨M, 1, none⟩ = some (.slice (some ⟨g, 0, none⟩) n n) ∧ w'.cell? ⟨M, 2, none⟩ = some (.int .i64 top)) (first | go_keep | exact ⟨(ho.cell (p := ⟨M, 0, none⟩) h1).trans x0, (ho.cell (p := ⟨M, 1, none⟩) h1).trans x1, (ho.cell (p := ⟨M, 2, none⟩) h1).trans x2⟩)
    ((refine step_copyI (by rfl) _ _ (by rfl) (g := g) (n := n) (cap := n) (xs := tab n to) HT1.out.drew (m := p + s + 1 - p) (Bs := B) (ys := (ws.drop p).take (s + 1)) HI2.out (by rfl) (by rfl) (off := top) (fun _ => by rfl) (by omega) (by omega) ?_; intro w2 ho hr2))
  have hb2 := ho.blk HB1.out.drew h1
  have hv2 := HV1.out.drew.only ho n7
  rw [spl_tab (by have := hlen.out; omega) (by omega)] at hr2
  have HO2 := hid ho
  clear x0 x1 x2 x3 f0 f1 f2 f3 q1
  obtain ⟨x0, x1, x2, x3, f0, f1, f2, f3⟩ := (hb2).four
  have HB2 := hid hb2
  have HV2 := hid hv2
  have HR2 := hid hr2
  clear hb2 hv2 hr2 ho b9 b10
  have hu := hid (show (Lit.int .i64 (1024 + 4 * (top : Int))).wf = true by rw [← wrap_small (z := 1024 + 4 * (top : Int)) (by omega)]; exact wrap64_wf _)
  go_wp2_with (at_mapUpdate; go_must (refine wpList_updI (by rfl) _ _ _ (by rfl) (HV2.out.only (Only.setCell _ M 2 _) n5) (p := p) (u := 1024 + 4 * (top : Int)) (by omega) (by omega) hu.out (by omega) (by rfl) (by rfl) (by rfl) ?_); intro w3 ho3 hv3)
  go_ret
  refine ⟨rfl, ⟨?_, (HR2.out.far n3 _).only ho3 n8, hv3.mono (by dsimp only; omega)⟩, ho3.os.trans HO2.out.os, ho3.tape.trans HO2.out.tape, ho3.output.trans HO2.out.output, ?_, fun j h4 h5 h6 h7 => (ho3.block j h7).trans ((Below.heap_setCell w2 ⟨M, 2, none⟩ _ j h5).trans (HO2.out.block j h6))⟩
  · dsimp only
    rw [show ((top + s + 1 : Nat) : Int) = (top : Int) + ((s : Int) + 1) from by omega]
    exact ho3.blk (HB2.out.set_ 2 _) n6
  · rw [ho3.size]
    simp only [World.setCell, Array.size_modify]
    rw [HO2.out.size]
    exact Nat.le_refl _

/-- One word that may be. -/
theorem mover_word (B M g r : Nat) (A : Option Addr) (n c : Nat) (ws : List Int) (st : St) (x : Int) (W : World) (sts mvl : List Nat) (b lim : Nat) (h : PSt W M g r A n c st) (hi : Ints W B A n c ws)
    (hM : B ≤ M) (hg : B ≤ g) (h1 : M ≠ g) (h2 : M ≠ r) (h3 : g ≠ r) (hn : n ≤ 6000) (hx : wordB n sts x = true) (hwf : (Lit.int .i64 x).wf = true) (hm : MI (gw ws) sts b st mvl) (hG : HG (gw ws) n sts b lim) :
    Calls Try.prog 42 #[.pointer (some ⟨M, 0, none⟩), .int .i64 x] W fun e W' => e = .returned (.int .i64 (mvv (mvw (gw ws) st x) x)) ∧ PSt W' M g r A n c (mvw (gw ws) st x) ∧ Keeps3 M g r W W' := by
  rcases wordB_pl hx with ⟨p1, p2⟩ | ⟨p1, p2, p3, p4⟩
  · have e1 : mvw (gw ws) st x = st := mvw_same (fun h => p1 h.1)
    have e2 : mvv st x = x := if_neg p1
    rw [e1, e2]
    have hP := hid (plV_no p1)
    have hwx := hid hwf
    have HR := hid h
    clear h hx p1 p2 e1 e2 hwf
    go_enter Try.func42, Try.ntmps42
    go_wp2_with (go_at_call 31; go_must (refine (cells_Place x hwx.out _).mono ?_); rw [hP.out]; rintro e w1 ⟨rfl, rfl⟩)
    go_ret
    exact ⟨rfl, HR.out, Keeps3.refl _ _ _ _⟩
  · by_cases h0 : st.mv (plN x) = 0
    · have e1 := mvw_new (f := gw ws) ⟨p1, h0⟩
      have hr := hm.room hG p4 h0
      have hl := hG.lim
      have e2 : mvv (mvw (gw ws) st x) x = 1024 + 4 * st.top := by unfold mvv; rw [if_pos p1, e1]; show upd _ _ _ _ = _; unfold upd; rw [if_pos rfl]
      rw [e2, e1]
      exact mover_new B M g r A n c ws st x _ _ W h hi hg hM h1 h2 h3 p1 hwf rfl (hG.fit _ p4) h0 rfl (hG.ok _ p4) (by omega) hn
    · have e1 := mvw_same (f := gw ws) (st := st) (x := x) (fun h => h0 h.2)
      have e2 : mvv (mvw (gw ws) st x) x = st.mv (plN x) := by unfold mvv; rw [if_pos p1, e1]
      rw [e2, e1]
      have hP := hid (plV_yes p1)
      have hwx := hid hwf
      have HR := hid h
      obtain ⟨hb, ht, hv⟩ := h
      have HV := hid hv
      obtain ⟨x0, x1, x2, x3, f0, f1, f2, f3⟩ := (hb).four
      generalize plN x = p at hP h0 p3
      have Hd0 := hid (show decide (st.mv p ≠ 0) = true by simp [h0])
      have hp6 : p < 6000 := by omega
      clear hb ht hv p1 p2 p4 hx hwf e1 e2 h0
      go_enter Try.func42, Try.ntmps42
      go_wp2_with (first | (go_at_call 31; go_must (refine (cells_Place x hwx.out _).mono ?_); rw [hP.out]; rintro e w1 ⟨rfl, rfl⟩) | (at_lookup; go_must (refine wpList_lookI (by rfl) _ _ (by rfl) HV.out (p := p) (by omega) (by rfl) (by rfl) ?_); rw [Hd0.out]))
      go_ret
      exact ⟨rfl, HR.out, Keeps3.refl _ _ _ _⟩
end Go.Proofs.Ytikdflppccbdaaa
