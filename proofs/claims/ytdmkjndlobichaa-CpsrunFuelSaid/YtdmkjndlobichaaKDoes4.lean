/-
  THE WALK OF cpsrun's does: FUNCTIONS THAT ARE BOUND.
-/
import Derived.Test.YtdmkjndlobichaaKDoes1
namespace Go.Proofs.Ytdmkjndlobichaa
set_option linter.all false
open Go.ChangeShapes Go.WideShapes Go.ChangeAt Go.RowKit Go.Maps
open Tm (Te Pv Fr lookV setV atomV fixF)
open Ev (Out)
attribute [local go_sem] Oper.semAt_some
theorem KS.cell {M : Nat} {φ ψ : List (Nat × Nat)} {wv wv' : Value} {w w' : World} (h : KS M φ ψ wv wv' w w') {a : Addr} {v : Value} (hS : Nm M φ wv a.block) (hc : w.cell? a = some v) : w'.cell? a = some v := cell_of (w := w) (b := a.block) (h.block _ hS (cell_lt hc)).1 rfl hc
theorem fix_step {e : Nat} {fh : List (Int × List Int)} {fb : List Te} {fs : List Fr} {j : Nat} (h1 : j < fh.length) (h2 : j < fb.length) : fixF e (fh.drop j) (fb.drop j) fs = fixF e (fh.drop (j + 1)) (fb.drop (j + 1)) (setV fs e fh[j].1 (.fn fh[j].2 fb[j] e)) := by
  rw [List.drop_eq_getElem_cons h1, List.drop_eq_getElem_cons h2, fixF]
theorem fix_end {e : Nat} {fh : List (Int × List Int)} {fb : List Te} {fs : List Fr} : fixF e (fh.drop fb.length) (fb.drop fb.length) fs = fs := by rw [List.drop_length, fixF]
theorem MK.setlen {fs : List Fr} {e : Nat} {x : Int} {u : Pv} : (setV fs e x u).length = fs.length := by unfold setV; simp
set_option maxHeartbeats 16000000 in
set_option maxRecDepth 100000 in
theorem does_4 (x n : Int) (i : Bool) (ts : List Int) (ats : List (Bool × Int)) (fh : List (Int × List Int)) (fb : List Te) (u : Te) (M F s : Nat) (ws : List Int) (wv : Value) (φ : List (Nat × Nat)) (fs : List Fr) (N e ep mp : Nat) (p : Addr) (w : World) (hm : MK w M F s ws wv φ fs N) (hN : N ≤ 1000000000000000) (he : φ[e]? = some (ep, mp)) (ht : TPt w (Nm M φ wv) p (.mk 4 x n i ts ats fh fb [u])) (hl : fb.length ≤ 65536) :
    Calls Try.prog 91 #[.pointer (some ⟨M, 0, none⟩), .pointer (some p), .pointer (some ⟨ep, 0, none⟩)] w (DoP (.go u (fixF e fh fb fs) ws) M F s φ wv (N + 65536) w) := by
  obtain ⟨T, tc, A, ac, F9, fc, U, uc, ⟨x0, x1, x2, x3, x4, x5, x6, x7⟩, hI, hA, hF, hfe, hfr, hU, hrow, hwf⟩ := ht.cells
  obtain ⟨ad, hUa, hpt⟩ := hrow.pt (j := 0) (by simp)
  subst hUa
  have hpt0 : TPt w (Nm M φ wv) ad u := by have h9 := hpt; rw [Nat.zero_mul] at h9; simpa [Addr.add] using h9
  have e0 : ad.add 0 = ad := by unfold Addr.add; simp
  have hfl : fb.length ≤ 281474976710656 := by omega
  have H := hid (And.intro hm (And.intro ht.1 (And.intro hpt0 (And.intro hfr (And.intro hfe he)))))
  have X := hid (And.intro x6 x7)
  have HL := hid hl
  clear hm he ht hI hA hF hfe hfr hU hrow hwf hpt hpt0 x5 x4 x3 x2 x1 x7 hl
  go_enter Try.func91, Try.ntmps91
  go_wp2
  clear x6 x0
  go_loopg [131] fb.length (fun g z wr => ∃ (j : Nat) (fsj : List Fr), j + g = fb.length ∧ z = .int .i64 j ∧ Hid (MK wr M F s ws wv φ fsj (N + j)) ∧ Hid (KS M φ φ wv wv w wr) ∧ Hid (fixF e (fh.drop j) (fb.drop j) fsj = fixF e fh fb fs))
  case atStart => exact ⟨0, fs, by omega, rfl, hid H.out.1, hid (KS.refl _ _ _ _), hid (by simp)⟩
  case round =>
    obtain ⟨j, fsj, hj, rfl, hM, hK, hX⟩ := hrel
    have Hj := hid hj
    clear hj
    have x6 : wr.cell? ⟨p.block, p.off + 6, none⟩ = some (.slice F9 fb.length fc) := hK.out.cell (a := ⟨p.block, p.off + 6, none⟩) H.out.2.1 X.out.1
    have x7 : wr.cell? ⟨p.block, p.off + 7, none⟩ = some (.slice (some ad) 1 uc) := hK.out.cell (a := ⟨p.block, p.off + 7, none⟩) H.out.2.1 X.out.2
    by_cases hlt : j < fb.length
    · have hlt' : (j : Int) < fb.length := by omega
      have hlt2 : j < fh.length := by rw [H.out.2.2.2.2.1]; exact hlt
      obtain ⟨f, ua, hf, hfS, hfb, hfm, hfl2⟩ := hM.out.frame_ H.out.2.2.2.2.2
      have y1 : wr.cell? ⟨ep, 1, none⟩ = some (.map (some mp)) := hfb.cell 1
      have hfr2 : FRow wr (Nm M φ wv) fh fb F9 0 := FRow.keep (fun k hk hl => hK.out.block k hk hl) fb fh F9 0 H.out.2.2.2.1
      obtain ⟨fa, P, pc, rfl, fS, f0, f1, f2, f3, f4⟩ := hfr2.pt hlt hlt2
      obtain ⟨fn, hfn⟩ : ∃ fn, fn = fh[j].1 := ⟨_, rfl⟩
      obtain ⟨fp, hfp⟩ : ∃ fp, fp = fh[j].2 := ⟨_, rfl⟩
      obtain ⟨fq, hfq⟩ : ∃ fq, fq = fb[j] := ⟨_, rfl⟩
      rw [← hfn] at f0 f3
      rw [← hfp] at f1 f2
      rw [← hfq] at f4
      have hfx := fix_step (e := e) (fs := fsj) hlt2 hlt
      rw [← hfn, ← hfp, ← hfq] at hfx
      have HX := hid hfx
      clear hfx hfn hfp hfq
      have BB := hid (below_hop (drew_below (wr.alloc (.cells #[.int .i64 3, .int .i64 0, .slice none 0 0, .pointer (some (fa.add (j * 10))), .pointer (some ⟨ep, 0, none⟩)] 106))) (al1 wr _))
      have MU := hid (hM.out.up BB.out)
      obtain ⟨w6, hrun, hput⟩ := run_putV (w := (wr.alloc (.cells #[.int .i64 3, .int .i64 0, .slice none 0 0, .pointer (some (fa.add (j * 10))), .pointer (some ⟨ep, 0, none⟩)] 106)).drew) (S := Nm M φ wv) (φ := φ) (B := mp) (vars := f.vars) (s := fn) (u := .fn fp fq e) (g := wr.heap.size) (MU.out.mapv H.out.2.2.2.2.2 hf) (by have := HL.out; unfold maxLen; omega) f3 (by
        rw [PAt]
        exact ⟨hM.out.new _ (Nat.le_refl _), fa.add (j * 10), ep, mp, P, pc, Blk.new _ _ _, H.out.2.2.2.2.2, fS, BB.out.cell (p := ⟨(fa.add (j * 10)).block, (fa.add (j * 10)).off + 1, none⟩) (cell_lt (a := ⟨(fa.add (j * 10)).block, (fa.add (j * 10)).off + 1, none⟩) f1) |>.trans f1, f2.up BB.out, f4.up BB.out⟩)
      have KP := hid (MU.out.put H.out.2.2.2.2.2 hf hput)
      have HF0 := hid (And.intro hfS fS)
      clear hput f1 f2 f4 hfr2 hf hfS hfb hfm hfl2 f3 fS
      have k6 : ∀ (a : Addr) (v : Value), Nm M φ wv a.block → wr.cell? a = some v → w6.cell? a = some v := fun a v hS hc => KP.out.2.cell hS ((BB.out.cell (p := a) (cell_lt hc)).trans hc)
      have z1 := k6 ⟨ep, 1, none⟩ _ HF0.out.1 y1
      have z2 := k6 ⟨p.block, p.off + 6, none⟩ _ H.out.2.1 x6
      have z3 := k6 (fa.add (j * 10)) _ HF0.out.2 f0
      clear k6
      go_wp2
      go_region_held3 (fun w' => w'.cell? ⟨ep, 1, none⟩ = some (.map (some mp)) ∧ w'.cell? ⟨p.block, p.off + 6, none⟩ = some (.slice (some fa) fb.length fc) ∧ w'.cell? (fa.add (j * 10)) = some (.int .i64 fn)) (first | with_reducible exact ⟨y1, x6, f0⟩ | with_reducible exact ⟨z1, z2, z3⟩ | go_keep) (fail)
      all_goals
        have hgk := Hj.out
        go_wp2
        go_roundg (gk - 1)
        case rel => exact ⟨j + 1, _, by omega, by go_num, hid KP.out.1, hid (hK.out.trans ((KS.of_below BB.out).trans KP.out.2)), hid (HX.out.symm.trans hX.out)⟩
        case measure => omega
    · obtain rfl : j = fb.length := by have := Hj.out; omega
      clear x6
      go_wp2
      go_ret
      refine DoP.go ?_ (H.out.2.2.1.keep (fun k hk hl => hK.out.block k hk hl)) hK.out
      rw [← hX.out, fix_end]
      exact hM.out.wide (by have := HL.out; omega)
end Go.Proofs.Ytdmkjndlobichaa
