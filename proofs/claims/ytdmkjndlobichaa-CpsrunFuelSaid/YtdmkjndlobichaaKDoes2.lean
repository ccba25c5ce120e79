/-
  THE WALK OF cpsrun's does: A FIELD, A SWITCH, WHAT IS WRITTEN, THE END.
-/
import Derived.Test.YtdmkjndlobichaaKDoes
import Derived.Test.YtdmkjndlobichaaKChosen
import Derived.Test.YtdmkjndlobichaaKShow
import Derived.Deep.RegionHeld2
namespace Go.Proofs.Ytdmkjndlobichaa
set_option linter.all false
open Go.ChangeShapes Go.WideShapes Go.ChangeAt Go.RowKit Go.Maps
open Tm (Te Pv Fr lookV setV atomV armS tellS haltS showP)
open Ev (Out)
def swS (ws : List Int) (fs : List Fr) : Option Te → Tm.St
  | some u => .go u fs ws
  | none => .halt (-1) ws []
set_option maxHeartbeats 16000000 in
set_option maxRecDepth 100000 in
theorem does_6 (x n : Int) (i : Bool) (ts : List Int) (av : Bool) (an : Int) (fh : List (Int × List Int)) (fb : List Te) (us : List Te) (M F s : Nat) (ws : List Int) (wv : Value) (φ : List (Nat × Nat)) (fs : List Fr) (N e ep mp : Nat) (p : Addr) (w : World) (hm : MK w M F s ws wv φ fs N) (hN : N ≤ 1000000000000000) (he : φ[e]? = some (ep, mp)) (ht : TPt w (Nm M φ wv) p (.mk 6 x n i ts [(av, an)] fh fb us))  :
    Calls Try.prog 91 #[.pointer (some ⟨M, 0, none⟩), .pointer (some p), .pointer (some ⟨ep, 0, none⟩)] w (DoP (swS ws fs (armS i ts us (atomV fs e (av, an)))) M F s φ wv (N + 65536) w) := by
  obtain ⟨T, tc, A, ac, F9, fc, U, uc, ⟨x0, x1, x2, x3, x4, x5, x6, x7⟩, hI, hA, hF, hfe, hfr, hU, hrow, hwf⟩ := ht.cells
  obtain ⟨aa, hAa, hSa, a0, a1, hwa⟩ := hA.2 0 (by simp)
  subst hAa
  have e1 : aa.add 0 = aa := by unfold Addr.add; simp
  rw [Nat.zero_mul, e1] at a0 a1
  have a0 : w.cell? aa = some (.bool av) := a0
  have a1 : w.cell? ⟨aa.block, aa.off + 1, none⟩ = some (.int .i64 an) := a1
  have hwa : (Lit.int .i64 an).wf = true := hwa
  have H := hid (And.intro hm (And.intro ht (And.intro hrow hwf)))
  have HE := hid he
  have C := hid (run_atom av an fs φ (Nm M φ wv) e ep mp w hm.fr hm.new he hwa)
  obtain ⟨va, hva⟩ : ∃ va, va = atomV fs e (av, an) := ⟨_, rfl⟩
  rw [← hva] at C ⊢
  clear hm he ht hI hA hF hfe hfr hU hrow hwf hSa hwa hva
  cases hr : armS i ts us va with
  | none =>
    have HR := hid hr
    clear hr
    go_enter Try.func91, Try.ntmps91
    go_wp2_with (first
      | (go_at_call 113; (refine C.out.mono ?_); rintro e9 w1 ⟨⟨q, rfl, hq⟩, b1⟩; have G := hid (And.intro hq b1); clear hq b1)
      | (go_at_call 118; (refine (run_chosen 6 x n i ts [(av, an)] fh fb us va (Nm M φ wv) φ p q w1 (H.out.2.1.up G.out.2) G.out.1).mono ?_); rw [HR.out]; rintro e9 w2 ⟨rfl, b2⟩; have G2 := hid (below_hop b2 G.out.2); clear b2))
    exact ⟨rfl, rfl, H.out.1.halt G2.out (by decide)⟩
  | some u =>
    have HR := hid hr
    clear hr
    go_enter Try.func91, Try.ntmps91
    go_wp2_with (first
      | (go_at_call 113; (refine C.out.mono ?_); rintro e9 w1 ⟨⟨q, rfl, hq⟩, b1⟩; have G := hid (And.intro hq b1); clear hq b1)
      | (go_at_call 118; (refine (run_chosen 6 x n i ts [(av, an)] fh fb us va (Nm M φ wv) φ p q w1 (H.out.2.1.up G.out.2) G.out.1).mono ?_); rw [HR.out]; rintro e9 w2 ⟨⟨p2, rfl, hp2⟩, b2⟩; have G2 := hid (And.intro hp2 (below_hop b2 G.out.2)); clear b2 hp2))
    go_ret
    exact DoP.go ((H.out.1.up G2.out.2).wide (by omega)) G2.out.1 (KS.of_below G2.out.2)
theorem MK.wrote {w w2 : World} {M F s : Nat} {ws : List Int} {A A' : Option Addr} {n c c' : Nat} {φ : List (Nat × Nat)} {fs : List Fr} {N : Nat} {q : Int} (h : MK w M F s ws (.slice A n c) φ fs N) (hr : w2.ownsRow (M + 1) 3 1 (.slice A' (ws.length + 1) c') (ws.length + 1) ((ws ++ [q]).map (.int .i64))) (hg : w.grownBy w2 (Value.slice A n c).ownBlock) (hn : ∀ g, (Value.slice A' (ws.length + 1) c').ownBlock = some g → (Value.slice A n c).ownBlock = some g ∨ w.heap.size ≤ g) (hl : ws.length ≠ 4096) (hq9 : (Lit.int .i64 q).wf = true) :
    MK (w2.setCell ⟨M, 2, none⟩ (.slice A' (ws.length + 1) c')) M F s (ws ++ [q]) (.slice A' (ws.length + 1) c') φ fs N ∧ KS M φ φ (.slice A n c) (.slice A' (ws.length + 1) c') w (w2.setCell ⟨M, 2, none⟩ (.slice A' (ws.length + 1) c')) ∧ w2.frozen? ⟨M, 2, none⟩ = false ∧ w2.cell? ⟨M, 2, none⟩ = some (.slice A n c) := by
  have hM : (Value.slice A n c).ownBlock ≠ some M := fun e => by have := h.row.lt M e; omega
  have hb2 : Blk w2 M 113 #[.int .i64 F, .int .i64 s, .slice A n c, .slice none 0 0] := (hg.block M h.blk.lt (fun e => hM e.symm)).trans h.blk
  have kk : ∀ k, Nm M φ (.slice A n c) k → k < w.heap.size → (w2.setCell ⟨M, 2, none⟩ (.slice A' (ws.length + 1) c')).heap[k]? = w.heap[k]? ∧ Nm M φ (.slice A' (ws.length + 1) c') k := fun k hk hl2 => ⟨(Below.heap_setCell _ _ _ _ hk.1).trans (hg.block k hl2 (fun e => hk.2.1 e.symm)), hk.1, fun e => by
    rcases hn k e with e | e
    · exact hk.2.1 e
    · omega, hk.2.2⟩
  refine ⟨⟨hb2.set_ 2 _, ?_, h.len.snoc hl hq9, h.fr.keep (fun e p m he => (Below.heap_setCell _ _ _ _ (by have := (h.low e p m he).1; dsimp only; omega)).trans (hg.block m (h.fr.mlt he) (fun e2 => (h.low e p m he).2 e2.symm))) kk, h.dis, fun e p m he => ⟨(h.low e p m he).1, fun e2 => ?_⟩, h.ent, h.hF, h.hs⟩, ⟨hg.os, hg.tape, hg.output, by have := hg.size; simpa using this, kk, Ext.refl _⟩, hb2.frozen 2, hb2.cell 2⟩
  · rw [List.length_append]
    exact row_keepX hr (fun g e => Below.heap_setCell _ _ _ _ (fun e2 => by have := hr.lt g e; dsimp only at e2; omega))
  · rcases hn m e2 with e3 | e3
    · exact (h.low e p m he).2 e3
    · have := h.fr.mlt he; omega
theorem wrote7 {w w1 w3 : World} {M : Nat} {φ : List (Nat × Nat)} {wv wv' : Value} {p : Addr} {j : Nat} {v : Value} (hb : Below w.heap.size w w1) (hk : KS M φ φ wv wv' w1 w3) (hS : Nm M φ wv p.block) (hc : w.cell? ⟨p.block, p.off + j, none⟩ = some v) : w3.cell? ⟨p.block, p.off + j, none⟩ = some v := by
  have hl : p.block < w.heap.size := cell_lt (a := ⟨p.block, p.off + j, none⟩) hc
  have hs := hb.size
  exact cell_of (w := w) (b := p.block) ((hk.block _ hS (by omega)).1.trans (hb.block _ hl)) rfl hc
mutual
theorem show_stops : ∀ (v : Pv) (l : List Int) (k : Int), showP v l = .stop k → k ≠ 1
  | .zero, l, k, h => by rw [showP] at h; split at h; · injection h with h; omega
                         · cases h
  | .num n, l, k, h => by rw [showP] at h; split at h; · injection h with h; omega
                          · cases h
  | .con n us, l, k, h => by
    rw [showP] at h
    split at h
    · injection h with h; omega
    · exact showL_stops us _ k h
  | .fn ps b e, l, k, h => by rw [showP] at h; injection h with h; omega
theorem showL_stops : ∀ (us : List Pv) (l : List Int) (k : Int), Tm.showPL us l = .stop k → k ≠ 1
  | [], l, k, h => by rw [Tm.showPL] at h; cases h
  | u :: us, l, k, h => by
    rw [Tm.showPL] at h
    cases h1 : showP u l with
    | ok l1 => rw [h1] at h; exact showL_stops us l1 k h
    | stop j => rw [h1] at h; injection h with h; subst h; exact show_stops u l j h1
end
theorem MK.shown {w w1 w2 : World} {M F s : Nat} {ws : List Int} {wv sv : Value} {φ : List (Nat × Nat)} {fs : List Fr} {N : Nat} {l ss : List Int} {k : Int} (h : MK w M F s ws wv φ fs N) (hb : Below w.heap.size w w1) (hs : Sh w2 M F s wv sv l) (hg : ShG M (.slice none 0 0) sv w1 w2) (hk : k = 1 → l = ss) : HaltP M F s k ws ss φ wv w w2 := by
  have h1 := h.up hb
  have kk : ∀ b, b < w1.heap.size → b ≠ M → w2.heap[b]? = w1.heap[b]? := fun b hl hM => hg.block b hl hM (fun e => by simp [Value.ownBlock] at e)
  refine ⟨wv, sv, l, hs.blk, row_keepX h1.row (fun g e => kk g (h1.row.lt g e).2 (by have := h1.row.lt g e; omega)), hs.row, ⟨hk, h.len, hs.len⟩, hg.os.trans hb.os, hg.tape.trans hb.tape, hg.output.trans hb.output, Nat.le_trans hb.size hg.size, fun b hb2 hl => (kk b (by have := hb.size; omega) hb2.1).trans (hb.block b hl)⟩
set_option maxHeartbeats 16000000 in
set_option maxRecDepth 100000 in
theorem does_8 (x n : Int) (i : Bool) (ts : List Int) (av : Bool) (an : Int) (fh : List (Int × List Int)) (fb : List Te) (us : List Te) (M F s : Nat) (ws : List Int) (wv : Value) (φ : List (Nat × Nat)) (fs : List Fr) (N e ep mp : Nat) (p : Addr) (w : World) (hm : MK w M F s ws wv φ fs N) (hN : N ≤ 1000000000000000) (he : φ[e]? = some (ep, mp)) (ht : TPt w (Nm M φ wv) p (.mk 8 x n i ts [(av, an)] fh fb us))  :
    Calls Try.prog 91 #[.pointer (some ⟨M, 0, none⟩), .pointer (some p), .pointer (some ⟨ep, 0, none⟩)] w (DoP (haltS ws (showP (atomV fs e (av, an)) [])) M F s φ wv (N + 65536) w) := by
  obtain ⟨T, tc, A, ac, F9, fc, U, uc, ⟨x0, x1, x2, x3, x4, x5, x6, x7⟩, hI, hA, hF, hfe, hfr, hU, hrow, hwf⟩ := ht.cells
  obtain ⟨aa, hAa, hSa, a0, a1, hwa⟩ := hA.2 0 (by simp)
  subst hAa
  have e1 : aa.add 0 = aa := by unfold Addr.add; simp
  rw [Nat.zero_mul, e1] at a0 a1
  have a0 : w.cell? aa = some (.bool av) := a0
  have a1 : w.cell? ⟨aa.block, aa.off + 1, none⟩ = some (.int .i64 an) := a1
  have hwa : (Lit.int .i64 an).wf = true := hwa
  have H := hid (And.intro hm (And.intro ht (And.intro hrow hwf)))
  have HE := hid he
  have C := hid (run_atom av an fs φ (Nm M φ wv) e ep mp w hm.fr hm.new he hwa)
  obtain ⟨va, hva⟩ : ∃ va, va = atomV fs e (av, an) := ⟨_, rfl⟩
  rw [← hva] at C ⊢
  have CS := hid (fun (w1 : World) (q : Nat) (hb : Below w.heap.size w w1) (hq : PAt w1 (Nm M φ wv) φ va q) => run_show _ va (Nat.le_refl _) va (by simp) [] (Nm M φ wv) φ M q F s wv (.slice none 0 0) w1 (PAt.keep (Ext.refl _) (fun k hk hl => ⟨rfl, hk, hk.1, fun e => by simp [Value.ownBlock] at e⟩) _ _ hq) ⟨(hm.up hb).blk, World.ownsRow_nil _ _ _ _, Wr.nil⟩)
  clear hm he ht hI hA hF hfe hfr hU hrow hwf hSa hwa hva
  cases hr : showP va [] with
  | ok l =>
    have HR := hid hr
    clear hr
    go_enter Try.func91, Try.ntmps91
    go_wp2_with (first
      | (go_at_call 113; (refine C.out.mono ?_); rintro e9 w1 ⟨⟨q, rfl, hq⟩, b1⟩; have G := hid (And.intro hq b1); clear hq b1)
      | (go_at_call 120; (refine (CS.out w1 q G.out.2 G.out.1).mono ?_); rw [HR.out]; rintro e9 w2 ⟨rfl, sv2, h5, g5⟩; have G2 := hid (And.intro h5 g5); clear h5 g5))
    exact ⟨rfl, rfl, H.out.1.shown G.out.2 G2.out.1 G2.out.2 (fun _ => rfl)⟩
  | stop k =>
    have HR := hid hr
    clear hr
    go_enter Try.func91, Try.ntmps91
    go_wp2_with (first
      | (go_at_call 113; (refine C.out.mono ?_); rintro e9 w1 ⟨⟨q, rfl, hq⟩, b1⟩; have G := hid (And.intro hq b1); clear hq b1)
      | (go_at_call 120; (refine (CS.out w1 q G.out.2 G.out.1).mono ?_); rw [HR.out]; rintro e9 w2 ⟨rfl, sv2, l2, h5, g5⟩; have G2 := hid (And.intro h5 g5); clear h5 g5))
    exact ⟨rfl, rfl, H.out.1.shown G.out.2 G2.out.1 G2.out.2 (fun e => absurd e (show_stops va [] k HR.out))⟩
set_option maxHeartbeats 16000000 in
set_option maxRecDepth 100000 in
theorem does_7 (x n : Int) (i : Bool) (ts : List Int) (av : Bool) (an : Int) (fh : List (Int × List Int)) (fb : List Te) (u : Te) (us : List Te) (M F s : Nat) (ws : List Int) (wv : Value) (φ : List (Nat × Nat)) (fs : List Fr) (N e ep mp : Nat) (p : Addr) (w : World) (hm : MK w M F s ws wv φ fs N) (hN : N ≤ 1000000000000000) (he : φ[e]? = some (ep, mp)) (ht : TPt w (Nm M φ wv) p (.mk 7 x n i ts [(av, an)] fh fb us)) (hus : us = [u]) :
    Calls Try.prog 91 #[.pointer (some ⟨M, 0, none⟩), .pointer (some p), .pointer (some ⟨ep, 0, none⟩)] w (DoP (tellS u fs ws (atomV fs e (av, an))) M F s φ wv (N + 65536) w) := by
  obtain ⟨T, tc, A, ac, F9, fc, U, uc, ⟨x0, x1, x2, x3, x4, x5, x6, x7⟩, hI, hA, hF, hfe, hfr, hU, hrow, hwf⟩ := ht.cells
  subst hus
  obtain ⟨aa, hAa, hSa, a0, a1, hwa⟩ := hA.2 0 (by simp)
  subst hAa
  have e1 : aa.add 0 = aa := by unfold Addr.add; simp
  rw [Nat.zero_mul, e1] at a0 a1
  have a0 : w.cell? aa = some (.bool av) := a0
  have a1 : w.cell? ⟨aa.block, aa.off + 1, none⟩ = some (.int .i64 an) := a1
  have hwa : (Lit.int .i64 an).wf = true := hwa
  have H := hid (And.intro hm (And.intro ht (And.intro hrow hwf)))
  have HE := hid he
  obtain ⟨ad, hUa, hpt⟩ := hrow.pt (j := 0) (by simp)
  subst hUa
  have hpt0 : TPt w (Nm M φ wv) ad u := by have h9 := hpt; rw [Nat.zero_mul] at h9; simpa [Addr.add] using h9
  have e0 : ad.add 0 = ad := by unfold Addr.add; simp
  have HPT := hid hpt0
  have C := hid (run_number av an fs φ (Nm M φ wv) e ep mp w hm.fr hm.new he hwa)
  obtain ⟨va, hva⟩ : ∃ va, va = atomV fs e (av, an) := ⟨_, rfl⟩
  rw [← hva] at C ⊢
  obtain ⟨A0, c0, hwv, _⟩ := rowX hm.row
  subst hwv
  have hpl : p.block < w.heap.size := cell_lt x0
  have X7 := hid (And.intro x7 hpl)
  clear hm he ht hI hA hF hfe hfr hU hrow hwf hSa hwa hva hpt hpt0
  unfold tellS
  cases hn : Tm.numOf va with
  | none =>
    have HNO := hid hn
    clear hn
    simp only
    go_enter Try.func91, Try.ntmps91
    go_wp2_with (go_at_call 117; (refine C.out.mono ?_); unfold NumP; rw [HNO.out]; rintro e9 w1 ⟨rfl, b1⟩; have G := hid b1; clear b1)
    exact ⟨rfl, rfl, H.out.1.halt G.out (by decide)⟩
  | some q =>
    have HNO := hid hn
    clear hn
    simp only
    by_cases h4 : ws.length = 4096
    · rw [if_pos h4]
      have H4 := hid h4
      clear h4
      go_enter Try.func91, Try.ntmps91
      go_wp2_with (first
        | (go_at_call 117; (refine C.out.mono ?_); unfold NumP; rw [HNO.out]; rintro e9 w1 ⟨⟨rfl, hq⟩, b1⟩; have G := hid (And.intro hq b1); have m2 : w1.cell? ⟨M, 2, none⟩ = some (.slice A0 ws.length c0) := (H.out.1.up b1).blk.cell 2; clear hq b1)
        | (go_at_call 119; (refine (run_more ws A0 c0 q (M + 1) w1 (H.out.1.up G.out.2).row (H.out.1.up G.out.2).blk.lt H.out.1.len.1).mono ?_); intro e9 w2 hM; rw [if_pos H4.out] at hM; obtain ⟨rfl, h9⟩ := hM; have h8 := h9.symm; subst h8; clear h9))
      exact ⟨rfl, rfl, H.out.1.halt G.out.2 (by decide)⟩
    · rw [if_neg h4]
      have H4 := hid h4
      clear h4
      go_enter Try.func91, Try.ntmps91
      go_wp2_with (first
        | (go_at_call 117; (refine C.out.mono ?_); unfold NumP; rw [HNO.out]; rintro e9 w1 ⟨⟨rfl, hq⟩, b1⟩; have G := hid (And.intro hq b1); have m2 : w1.cell? ⟨M, 2, none⟩ = some (.slice A0 ws.length c0) := (H.out.1.up b1).blk.cell 2; clear hq b1)
        | (go_at_call 119; (refine (run_more ws A0 c0 q (M + 1) w1 (H.out.1.up G.out.2).row (H.out.1.up G.out.2).blk.lt H.out.1.len.1).mono ?_); intro e9 w2 hM; rw [if_neg H4.out] at hM; obtain ⟨A1, c1, rfl, hr1, hg1, hn1⟩ := hM; have P := hid ((H.out.1.up G.out.2).wrote hr1 hg1 hn1 H4.out G.out.1); have fz := P.out.2.2.1; have m3 := P.out.2.2.2; have z7 : (w2.setCell ⟨M, 2, none⟩ (.slice A1 (ws.length + 1) c1)).cell? ⟨p.block, p.off + 7, none⟩ = some (.slice (some ad) 1 uc) := wrote7 G.out.2 P.out.2.1 H.out.2.1.1 X7.out.1; clear hr1 hg1 hn1))
      go_ret
      exact DoP.go (P.out.1.wide (by omega)) (HPT.out.keep (fun k hk hl => ⟨(P.out.2.1.block k hk (by have := G.out.2.size; omega)).1.trans (G.out.2.block k hl), (P.out.2.1.block k hk (by have := G.out.2.size; omega)).2⟩)) ((KS.of_below G.out.2).trans P.out.2.1)
end Go.Proofs.Ytdmkjndlobichaa
