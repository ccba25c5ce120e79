/-
  THE WALK OF cpsrun's does: WHERE IT STOPS AT A SUM.
-/
import Derived.Test.YtdmkjndlobichaaKDoes
import Derived.Deep.RegionHeld2
namespace Go.Proofs.Ytdmkjndlobichaa
set_option linter.all false
open Go.ChangeShapes Go.WideShapes Go.ChangeAt Go.RowKit Go.Maps
open Tm (Te Pv Fr lookV setV atomV primS bindS)
open Ev (Out)
theorem num_alt {u : Pv} {w w' : World} {e : Ending} (hn : Tm.numOf u = none) (h : NumP u w e w') : (e = .returned (.int .i64 0) ∧ w' = w ∧ Hid False) ∨ (e = .panicked [stopK (-1)] ∧ Below w.heap.size w w') := by
  unfold NumP at h
  rw [hn] at h
  exact .inr h
theorem out_alt {k : Int} {S : Nat → Prop} {φ : List (Nat × Nat)} {w w' : World} {e : Ending} (h : OutP (.stop k) S φ w e w') : (e = .returned (.pointer (some ⟨0, 0, none⟩)) ∧ w' = w ∧ Hid False) ∨ (e = .panicked [stopK k] ∧ Below w.heap.size w w') := .inr h
set_option maxHeartbeats 16000000 in
set_option maxRecDepth 100000 in
theorem does_1a (x n : Int) (i : Bool) (ts : List Int) (av bv : Bool) (an bn : Int) (fh : List (Int × List Int)) (fb : List Te) (u : Te) (M F s : Nat) (ws : List Int) (wv : Value) (φ : List (Nat × Nat)) (fs : List Fr) (N e ep mp : Nat) (p : Addr) (w : World) (hm : MK w M F s ws wv φ fs N) (hN : N ≤ 1000000000000000) (he : φ[e]? = some (ep, mp)) (ht : TPt w (Nm M φ wv) p (.mk 1 x n i ts [(av, an), (bv, bn)] fh fb [u])) (hyp : Tm.numOf (atomV fs e (av, an)) = none ∧ atomV fs e (bv, bn) = atomV fs e (bv, bn)) :
    Calls Try.prog 91 #[.pointer (some ⟨M, 0, none⟩), .pointer (some p), .pointer (some ⟨ep, 0, none⟩)] w (DoP (.halt (-1) ws []) M F s φ wv (N + 65536) w) := by
  obtain ⟨T, tc, A, ac, F9, fc, U, uc, ⟨x0, x1, x2, x3, x4, x5, x6, x7⟩, hI, hA, hF, hfe, hfr, hU, hrow, hwf⟩ := ht.cells
  obtain ⟨f, ua, hf, hfS, hfb, hfm, hfl⟩ := hm.frame_ he
  have y1 : w.cell? ⟨ep, 1, none⟩ = some (.map (some mp)) := hfb.cell 1
  have hpl : p.block < w.heap.size := cell_lt x0
  have hepl := hfb.lt
  have hml := hfm.lt
  obtain ⟨ad, hUa, hpt⟩ := hrow.pt (j := 0) (by simp)
  subst hUa
  have hpt0 : TPt w (Nm M φ wv) ad u := by have h9 := hpt; rw [Nat.zero_mul] at h9; simpa [Addr.add] using h9
  have e0 : ad.add 0 = ad := by unfold Addr.add; simp
  obtain ⟨aa, hAa, hSa, a0, a1, hwa⟩ := hA.2 0 (by simp)
  obtain ⟨aa2, hAa2, _, b0, b1, hwb⟩ := hA.2 1 (by simp)
  subst hAa
  injection hAa2 with hAa2
  subst hAa2
  have e1 : aa.add 0 = aa := by unfold Addr.add; simp
  rw [Nat.zero_mul, e1] at a0 a1
  have e2 : aa.add 2 = ⟨aa.block, aa.off + 2, none⟩ := by unfold Addr.add; simp
  rw [Nat.one_mul, e2] at b0 b1
  have a0 : w.cell? aa = some (.bool av) := a0
  have a1 : w.cell? ⟨aa.block, aa.off + 1, none⟩ = some (.int .i64 an) := a1
  have b0 : w.cell? ⟨aa.block, aa.off + 2, none⟩ = some (.bool bv) := b0
  have b1 : w.cell? ⟨aa.block, aa.off + 2 + 1, none⟩ = some (.int .i64 bn) := b1
  have hwa : (Lit.int .i64 an).wf = true := hwa
  have hwb : (Lit.int .i64 bn).wf = true := hwb
  have AC := hid (And.intro a0 (And.intro a1 (And.intro b0 b1)))
  have AL := hid (And.intro (cell_lt a0) (cell_lt a0))
  have AS := hid hSa
  have ASB := hid hSa
  have H := hid (And.intro hm (And.intro hf (And.intro hfm (And.intro hwf (And.intro hpt0 (And.intro hpl hepl))))))
  have HE := hid he
  have HFL := hid hfl
  have Y := hid (And.intro y1 (And.intro x1 (And.intro x2 (And.intro x5 (And.intro ht.1 (And.intro hfS x7))))))
  have C := hid (run_number av an fs φ (Nm M φ wv) e ep mp w.drew (hm.fr.up (drew_below w)) (fun b hb => hm.new b hb) he hwa)
  have C2 := hid (fun (q : Int) (w1 : World) (hb : Below w.heap.size w w1) => run_prim n q bv bn fs φ (Nm M φ wv) e ep mp w1 (hm.fr.up hb) (fun b h2 => hm.new b (Nat.le_trans hb.size h2)) he hwb)
  obtain ⟨va, hva⟩ : ∃ va, va = atomV fs e (av, an) := ⟨_, rfl⟩
  obtain ⟨vb, hvb⟩ : ∃ vb, vb = atomV fs e (bv, bn) := ⟨_, rfl⟩
  rw [← hva] at C hyp
  rw [← hvb] at C2 hyp
  have HP := hid hyp
  clear hm he ht hI hA hF hfe hfr hU hrow hwf hf hfS hfb hfm hpt hpt0 hfl hwa hwb hSa hva hvb hyp
  go_enter Try.func91, Try.ntmps91
  go_wp2
  go_region_held2 (fun w' => w'.cell? ⟨ep, 1, none⟩ = some (.map (some mp)) ∧ w'.cell? ⟨p.block, p.off + 1, none⟩ = some (.int .i64 x) ∧ w'.cell? ⟨p.block, p.off + 2, none⟩ = some (.int .i64 n) ∧ w'.cell? ⟨p.block, p.off + 5, none⟩ = some (.slice (some aa) 2 ac) ∧ w'.cell? aa = some (.bool av) ∧ w'.cell? ⟨aa.block, aa.off + 1, none⟩ = some (.int .i64 an) ∧ w'.cell? ⟨aa.block, aa.off + 2, none⟩ = some (.bool bv) ∧ w'.cell? ⟨aa.block, aa.off + 2 + 1, none⟩ = some (.int .i64 bn)) (first | with_reducible exact ⟨y1, x1, x2, x5, a0, a1, b0, b1⟩ | with_reducible exact ⟨z1, z2, z3, z4, z5, z6, z7, z8⟩ | go_keep) (first
    | (go_at_call 117; (refine C.out.mono ?_); rintro e9 w1 h9; rcases num_alt HP.out.1 h9 with ⟨rfl, h8, HFA⟩ | ⟨rfl, b1'⟩; rotate_left; exact ⟨rfl, rfl, H.out.1.halt (below_hop b1' (drew_below w)) (by decide)⟩; have h7 := h8.symm; subst h7; clear h8)
    | (go_at_call 116; (refine Calls.mono (HFA.out.elim : Calls _ _ _ _ (fun e w' => e = .returned (.pointer (some ⟨0, 0, none⟩)) ∧ w' = w.drew)) ?_); rintro e9 w2 ⟨rfl, h8⟩; have h7 := h8.symm; subst h7; clear h8; have hrun : (Instr.mapUpdate 117 (.map (some mp)) (.int .i64 x) (.pointer (some ⟨0, 0, none⟩))).run Try.prog w.drew = .ok () w.drew := HFA.out.elim))
  all_goals exact HFA.out.elim
set_option maxHeartbeats 16000000 in
set_option maxRecDepth 100000 in
theorem does_1b (x n : Int) (i : Bool) (ts : List Int) (av bv : Bool) (an bn : Int) (fh : List (Int × List Int)) (fb : List Te) (u : Te) (M F s : Nat) (ws : List Int) (wv : Value) (φ : List (Nat × Nat)) (fs : List Fr) (N e ep mp : Nat) (p : Addr) (w : World) (hm : MK w M F s ws wv φ fs N) (hN : N ≤ 1000000000000000) (he : φ[e]? = some (ep, mp)) (ht : TPt w (Nm M φ wv) p (.mk 1 x n i ts [(av, an), (bv, bn)] fh fb [u])) (q k : Int) (hk : k ≠ 1) (hyp : Tm.numOf (atomV fs e (av, an)) = some q ∧ primS n (.num q) (atomV fs e (bv, bn)) = .stop k) :
    Calls Try.prog 91 #[.pointer (some ⟨M, 0, none⟩), .pointer (some p), .pointer (some ⟨ep, 0, none⟩)] w (DoP (bindS e x u fs ws (.stop k)) M F s φ wv (N + 65536) w) := by
  obtain ⟨T, tc, A, ac, F9, fc, U, uc, ⟨x0, x1, x2, x3, x4, x5, x6, x7⟩, hI, hA, hF, hfe, hfr, hU, hrow, hwf⟩ := ht.cells
  obtain ⟨f, ua, hf, hfS, hfb, hfm, hfl⟩ := hm.frame_ he
  have y1 : w.cell? ⟨ep, 1, none⟩ = some (.map (some mp)) := hfb.cell 1
  have hpl : p.block < w.heap.size := cell_lt x0
  have hepl := hfb.lt
  have hml := hfm.lt
  obtain ⟨ad, hUa, hpt⟩ := hrow.pt (j := 0) (by simp)
  subst hUa
  have hpt0 : TPt w (Nm M φ wv) ad u := by have h9 := hpt; rw [Nat.zero_mul] at h9; simpa [Addr.add] using h9
  have e0 : ad.add 0 = ad := by unfold Addr.add; simp
  obtain ⟨aa, hAa, hSa, a0, a1, hwa⟩ := hA.2 0 (by simp)
  obtain ⟨aa2, hAa2, _, b0, b1, hwb⟩ := hA.2 1 (by simp)
  subst hAa
  injection hAa2 with hAa2
  subst hAa2
  have e1 : aa.add 0 = aa := by unfold Addr.add; simp
  rw [Nat.zero_mul, e1] at a0 a1
  have e2 : aa.add 2 = ⟨aa.block, aa.off + 2, none⟩ := by unfold Addr.add; simp
  rw [Nat.one_mul, e2] at b0 b1
  have a0 : w.cell? aa = some (.bool av) := a0
  have a1 : w.cell? ⟨aa.block, aa.off + 1, none⟩ = some (.int .i64 an) := a1
  have b0 : w.cell? ⟨aa.block, aa.off + 2, none⟩ = some (.bool bv) := b0
  have b1 : w.cell? ⟨aa.block, aa.off + 2 + 1, none⟩ = some (.int .i64 bn) := b1
  have hwa : (Lit.int .i64 an).wf = true := hwa
  have hwb : (Lit.int .i64 bn).wf = true := hwb
  have AC := hid (And.intro a0 (And.intro a1 (And.intro b0 b1)))
  have AL := hid (And.intro (cell_lt a0) (cell_lt a0))
  have AS := hid hSa
  have ASB := hid hSa
  have H := hid (And.intro hm (And.intro hf (And.intro hfm (And.intro hwf (And.intro hpt0 (And.intro hpl hepl))))))
  have HE := hid he
  have HFL := hid hfl
  have Y := hid (And.intro y1 (And.intro x1 (And.intro x2 (And.intro x5 (And.intro ht.1 (And.intro hfS x7))))))
  have C := hid (run_number av an fs φ (Nm M φ wv) e ep mp w.drew (hm.fr.up (drew_below w)) (fun b hb => hm.new b hb) he hwa)
  have C2 := hid (fun (q : Int) (w1 : World) (hb : Below w.heap.size w w1) => run_prim n q bv bn fs φ (Nm M φ wv) e ep mp w1 (hm.fr.up hb) (fun b h2 => hm.new b (Nat.le_trans hb.size h2)) he hwb)
  obtain ⟨va, hva⟩ : ∃ va, va = atomV fs e (av, an) := ⟨_, rfl⟩
  obtain ⟨vb, hvb⟩ : ∃ vb, vb = atomV fs e (bv, bn) := ⟨_, rfl⟩
  rw [← hva] at C hyp
  rw [← hvb] at C2 hyp
  have HP := hid hyp
  clear hm he ht hI hA hF hfe hfr hU hrow hwf hf hfS hfb hfm hpt hpt0 hfl hwa hwb hSa hva hvb hyp
  go_enter Try.func91, Try.ntmps91
  go_wp2
  go_region_held2 (fun w' => w'.cell? ⟨ep, 1, none⟩ = some (.map (some mp)) ∧ w'.cell? ⟨p.block, p.off + 1, none⟩ = some (.int .i64 x) ∧ w'.cell? ⟨p.block, p.off + 2, none⟩ = some (.int .i64 n) ∧ w'.cell? ⟨p.block, p.off + 5, none⟩ = some (.slice (some aa) 2 ac) ∧ w'.cell? aa = some (.bool av) ∧ w'.cell? ⟨aa.block, aa.off + 1, none⟩ = some (.int .i64 an) ∧ w'.cell? ⟨aa.block, aa.off + 2, none⟩ = some (.bool bv) ∧ w'.cell? ⟨aa.block, aa.off + 2 + 1, none⟩ = some (.int .i64 bn)) (first | with_reducible exact ⟨y1, x1, x2, x5, a0, a1, b0, b1⟩ | with_reducible exact ⟨z1, z2, z3, z4, z5, z6, z7, z8⟩ | go_keep) (first
    | (go_at_call 117; (refine C.out.mono ?_); unfold NumP; rw [HP.out.1]; rintro e9 w1 ⟨⟨rfl, hq9⟩, b1'⟩; have B1 := hid (below_hop b1' (drew_below w)); clear y1 x1 x2 x5 a0 a1 b0 b1; have y1 : w1.cell? ⟨ep, 1, none⟩ = some (.map (some mp)) := (B1.out.cell (p := ⟨ep, 1, none⟩) H.out.2.2.2.2.2.2).trans Y.out.1; have x1 : w1.cell? ⟨p.block, p.off + 1, none⟩ = some (.int .i64 x) := (B1.out.cell (p := ⟨p.block, p.off + 1, none⟩) H.out.2.2.2.2.2.1).trans Y.out.2.1; have x2 : w1.cell? ⟨p.block, p.off + 2, none⟩ = some (.int .i64 n) := (B1.out.cell (p := ⟨p.block, p.off + 2, none⟩) H.out.2.2.2.2.2.1).trans Y.out.2.2.1; have x5 : w1.cell? ⟨p.block, p.off + 5, none⟩ = some (.slice (some aa) 2 ac) := (B1.out.cell (p := ⟨p.block, p.off + 5, none⟩) H.out.2.2.2.2.2.1).trans Y.out.2.2.2.1; have a0 : w1.cell? aa = some (.bool av) := (B1.out.cell (p := aa) AL.out.1).trans AC.out.1; have a1 : w1.cell? ⟨aa.block, aa.off + 1, none⟩ = some (.int .i64 an) := (B1.out.cell (p := ⟨aa.block, aa.off + 1, none⟩) AL.out.1).trans AC.out.2.1; have b0 : w1.cell? ⟨aa.block, aa.off + 2, none⟩ = some (.bool bv) := (B1.out.cell (p := ⟨aa.block, aa.off + 2, none⟩) AL.out.2).trans AC.out.2.2.1; have b1 : w1.cell? ⟨aa.block, aa.off + 2 + 1, none⟩ = some (.int .i64 bn) := (B1.out.cell (p := ⟨aa.block, aa.off + 2 + 1, none⟩) AL.out.2).trans AC.out.2.2.2)
    | (go_at_call 116; (refine (C2.out q w1 B1.out).mono ?_); rw [HP.out.2]; rintro e9 w2 h9; rcases out_alt h9 with ⟨rfl, h8, HFA⟩ | ⟨rfl, b2'⟩; rotate_left; exact ⟨rfl, rfl, H.out.1.halt (below_hop b2' B1.out) hk⟩; have h7 := h8.symm; subst h7; clear h8; have hrun : (Instr.mapUpdate 117 (.map (some mp)) (.int .i64 x) (.pointer (some ⟨0, 0, none⟩))).run Try.prog w1 = .ok () w1 := HFA.out.elim))
  all_goals exact HFA.out.elim
end Go.Proofs.Ytdmkjndlobichaa
