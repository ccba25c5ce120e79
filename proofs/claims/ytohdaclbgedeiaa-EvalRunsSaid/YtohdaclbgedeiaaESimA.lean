/-
  THE WALK OF eval.machine.simple: a variable, an integer, a function.
-/
import Derived.Test.YtohdaclbgedeiaaEAppV
import Derived.Deep.LoopGhost
namespace Go.Proofs.Ytohdaclbgedeiaa
set_option linter.all false
open Go.ChangeShapes Go.WideShapes Go.ChangeAt Go.RowKit
open Ev (Co Va En Out)
def lenE : En → Nat
  | .nil => 0
  | .bind _ _ e => lenE e + 1
theorem ev_out {F s : Nat} {ws : List Int} {M : Nat} {wv : Value} {w w' : World} {u : Va} {v : Value} (hm : MSt w M F s ws wv) (hb : Below w.heap.size w w') {T : Nat → Prop} (hv : VAt w' (SfT M wv (Now T w)) u v) : EvP T (.ok u) F s ws M wv w (.returned v) w' :=
  ⟨wv, hm.below hb, (MStep.refl M wv w).below hb, v, rfl, hv⟩
theorem MSt.sf {w : World} {M F s : Nat} {ws : List Int} {wv : Value} (h : MSt w M F s ws wv) {g : Nat} (hg : w.heap.size ≤ g) : Sf M wv g := ⟨fun e => by have := h.blk.lt; omega, fun e => by have := (h.own.own.lt g e).2; omega⟩
theorem VAt.up {w w' : World} {S : Nat → Prop} {u : Va} {v : Value} (h : VAt w S u v) (hb : Below w.heap.size w w') : VAt w' S u v := VAt.keep (fun k hk hl => ⟨hb.block k hl, hk⟩) u v h
theorem EAt.up {w w' : World} {S : Nat → Prop} {u : En} {v : Option Addr} (h : EAt w S u v) (hb : Below w.heap.size w w') : EAt w' S u v := EAt.keep (fun k hk hl => ⟨hb.block k hl, hk⟩) u v h
theorem up_now {P : Nat → Prop} {M : Nat} {wv : Value} {w w' : World} (hb : Below w.heap.size w w') : ∀ k, SfT M wv P k → k < w.heap.size → w'.heap[k]? = w.heap[k]? ∧ SfT M wv (Now P w) k := fun k hk hl => ⟨hb.block k hl, hk.1, .inl hk.2⟩
theorem VAt.iface {w : World} {S : Nat → Prop} {u : Va} {v : Value} (h : VAt w S u v) : ∃ t x, v = .iface t x := by
  cases u with
  | num n => rw [VAt] at h; exact ⟨_, _, h.1⟩
  | con t us => rw [VAt] at h; obtain ⟨⟨p, A, c, rfl, _⟩, _⟩ := h; exact ⟨_, _, rfl⟩
  | clo x self b e => rw [VAt] at h; obtain ⟨p, bp, ep, rfl, _⟩ := h; exact ⟨_, _, rfl⟩
set_option maxHeartbeats 4000000 in
set_option maxRecDepth 100000 in
theorem simple_int (P : Nat → Prop) (w : World) (M F s : Nat) (ws : List Int) (wv : Value) (cp : Addr) (x y n : Int) (i : Bool) (ts : List Int) (us : List Co) (ep : Option Addr) (hm : MSt w M F s ws wv) (hc : CPt w (SfT M wv P) cp (.mk 2 x y n i ts us)) :
    Calls Try.prog 64 #[.pointer (some ⟨M, 0, none⟩), .pointer (some cp), .pointer ep] w (EvP P (.ok (.num n)) F s ws M wv w) := by
  obtain ⟨T, tc, A, c, ⟨z0, z1, z2, z3, z4, z5, z6⟩, hI, hsz, hrow, hwf⟩ := hc.cells
  have HM := hid (And.intro hm hwf)
  clear hm hc hI hsz hrow hwf
  go_enter Try.func64, Try.ntmps64
  go_wp2
  go_ret
  exact ev_out HM.out.1 (Below.refl _ _) (by rw [VAt]; exact ⟨rfl, HM.out.2.2.2.2⟩)
set_option maxHeartbeats 4000000 in
set_option maxRecDepth 100000 in
theorem simple_lam (P : Nat → Prop) (w : World) (M F s : Nat) (ws : List Int) (wv : Value) (cp : Addr) (x y n : Int) (i : Bool) (ts : List Int) (b : Co) (e : En) (ep : Option Addr) (hm : MSt w M F s ws wv) (hc : CPt w (SfT M wv P) cp (.mk 3 x y n i ts [b])) (he : EAt w (SfT M wv P) e ep) :
    Calls Try.prog 64 #[.pointer (some ⟨M, 0, none⟩), .pointer (some cp), .pointer ep] w (EvP P (.ok (.clo x 0 b e)) F s ws M wv w) := by
  obtain ⟨T, tc, A, c, ⟨z0, z1, z2, z3, z4, z5, z6⟩, hI, hsz, hrow, hwf⟩ := hc.cells
  obtain ⟨ad, rfl, hpt⟩ := hrow.pt (j := 0) (by simp)
  have hlc := cell_lt z0
  have e0 : (ad.add (0 * 7)) = ad := by unfold Addr.add; simp
  rw [e0] at hpt
  have HM := hid (And.intro hm (And.intro hpt he))
  have z6' : w.cell? ⟨cp.block, cp.off + 6, none⟩ = some (.slice (some ad) 1 c) := z6
  clear hm hc hI hsz hrow hwf hpt he z6
  go_enter Try.func64, Try.ntmps64
  go_wp2
  go_region
  go_wp2
  go_ret
  have hb : Below w.heap.size w (w.alloc (.cells #[.int .i64 x, .pointer (some ad), .pointer ep] 107)).drew := Below.drew (al1 _ _)
  exact ev_out HM.out.1 hb (by rw [VAt]; exact ⟨w.heap.size, ad, ep, rfl, ⟨HM.out.1.sf (Nat.le_refl _), .inr (Nat.le_refl _)⟩, Blk.drew (Blk.new _ _ _), HM.out.2.1.keep (up_now hb), .inl ⟨by omega, EAt.keep (up_now hb) _ _ HM.out.2.2⟩⟩)
set_option maxHeartbeats 4000000 in
set_option maxRecDepth 100000 in
theorem simple_var (P : Nat → Prop) (w : World) (M F s : Nat) (ws : List Int) (wv : Value) (cp : Addr) (x y n : Int) (i : Bool) (ts : List Int) (us : List Co) (e : En) (ep : Option Addr) (u : Va) (hm : MSt w M F s ws wv) (hc : CPt w (SfT M wv P) cp (.mk 1 x y n i ts us)) (he : EAt w (SfT M wv P) e ep) (hu : e.find x = some u) :
    Calls Try.prog 64 #[.pointer (some ⟨M, 0, none⟩), .pointer (some cp), .pointer ep] w (EvP P (.ok u) F s ws M wv w) := by
  obtain ⟨T, tc, A, c, ⟨z0, z1, z2, z3, z4, z5, z6⟩, hI, hsz, hrow, hwf⟩ := hc.cells
  have hlc := cell_lt z0
  have HM := hid (And.intro hm (And.intro he hu))
  have HZ := hid (And.intro z1 hlc)
  clear hm hc hI hsz hrow hwf he hu
  go_enter Try.func64, Try.ntmps64
  go_wp2
  go_loopg [2] (lenE e) (fun g z wr => ∃ (e2 : En) (ep2 : Option Addr), lenE e2 ≤ g ∧ z = .pointer ep2 ∧ Hid (EAt w (SfT M wv P) e2 ep2 ∧ e2.find x = some u) ∧ Hid (Below w.heap.size w wr))
  case atStart => exact ⟨e, ep, Nat.le_refl _, rfl, hid HM.out.2, hid (Below.refl _ _)⟩
  case round =>
    obtain ⟨e2, ep2, hg, rfl, hE, hb⟩ := hrel
    obtain ⟨he2, hf⟩ := hE.out
    cases e2 with
    | nil => rw [En.find] at hf; cases hf
    | bind y2 v2 e3 =>
      rw [EAt] at he2
      obtain ⟨q, val, ep3, rfl, hSq, hq, hv, he3⟩ := he2
      rw [En.find] at hf
      obtain ⟨t9, x9, rfl⟩ := hv.iface
      obtain ⟨y0, y1, y3⟩ := (hq.below hb.out hq.lt).three
      have z1' : wr.cell? ⟨cp.block, cp.off + 1, none⟩ = some (.int .i64 x) := cell_of (hb.out.block _ HZ.out.2) (p := ⟨cp.block, cp.off + 1, none⟩) rfl HZ.out.1
      have HV := hid (And.intro hv he3)
      have HG := hid hg
      clear hv he3 hg hq hSq hE
      by_cases h : y2 = x
      · rw [if_pos h] at hf
        injection hf with hf
        have HF := hid hf
        subst h
        clear hf
        go_wp2
        go_quiet (fail)
        go_wp2
        go_ret
        have hB : Below w.heap.size w (wr.drewN nq) := hb.out.trans ((drewN_below _ _).mono hb.out.size)
        exact ev_out HM.out.1 hB (by rw [← HF.out]; exact VAt.keep (up_now hB) _ _ HV.out.1)
      · rw [if_neg h] at hf
        have HF := hid hf
        have hne : (y2 != x) = true := by simpa using h
        clear hf h
        go_wp2
        go_quiet (fail)
        go_wp2
        go_roundg (lenE e3)
        case rel => exact ⟨e3, ep3, Nat.le_refl _, rfl, hid ⟨HV.out.2, HF.out⟩, hid (hb.out.trans ((drewN_below _ _).mono hb.out.size))⟩
        case measure => have := HG.out; rw [lenE] at this; omega
end Go.Proofs.Ytohdaclbgedeiaa
