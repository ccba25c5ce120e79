/-
  THE WALK OF cpsrun's call: WHERE IT STOPS.
-/
import Derived.Test.YtdmkjndlobichaaKDoesA
import Derived.BigQuiet
import Derived.Deep.RegionHeld2
namespace Go.Proofs.Ytdmkjndlobichaa
set_option linter.all false
open Go.ChangeShapes Go.WideShapes Go.ChangeAt Go.RowKit Go.Maps
open Tm (Te Pv Fr lookV setV atomV bindP)
open Ev (Out)
attribute [local go_sem] Oper.semAt_some
/-- What a call leads to. -/
def CallP (r : Option (Te × List Fr)) (M F s : Nat) (ws : List Int) (φ : List (Nat × Nat)) (wv : Value) (N : Nat) (w : World) (e : Ending) (w' : World) : Prop := match r with
  | some (b, fs1) => ∃ p nf nm, e = .returned (.tuple #[.pointer (some p), .pointer (some ⟨nf, 0, none⟩)]) ∧ MK w' M F s ws wv (φ ++ [(nf, nm)]) fs1 N ∧ TPt w' (Nm M (φ ++ [(nf, nm)]) wv) p b ∧ KS M φ (φ ++ [(nf, nm)]) wv wv w w'
  | none => e = .panicked [stopK (-1)] ∧ HaltP M F s (-1) ws [] φ wv w w'
set_option maxHeartbeats 8000000 in
set_option maxRecDepth 100000 in
theorem call_fuel (M F s : Nat) (ws : List Int) (wv : Value) (φ : List (Nat × Nat)) (fs : List Fr) (N : Nat) (vp ve : Value) (w : World) (hm : MK w M F s ws wv φ fs N) (hs : s = F) :
    Calls Try.prog 90 #[.pointer (some ⟨M, 0, none⟩), vp, ve] w fun e w' => e = .panicked [stopK 3] ∧ HaltP M F s 3 ws [] φ wv w w' := by
  have m0 : w.cell? ⟨M, 0, none⟩ = some (.int .i64 F) := hm.blk.cell 0
  have m1 : w.cell? ⟨M, 1, none⟩ = some (.int .i64 s) := hm.blk.cell 1
  have H := hid hm
  have d0 : decide ((s : Int) = (F : Int)) = true := decide_eq_true (by omega)
  have d1 : ((s : Int) == (F : Int)) = true := by simpa using d0
  clear hm hs
  go_enter Try.func90, Try.ntmps90
  go_wp2
  go_quiet (fail)
  rename_i nq
  have B2 := hid (below_drewN (Below.refl w.heap.size w) nq)
  generalize w.drewN nq = w2 at B2 ⊢
  go_wp2
  exact ⟨rfl, rfl, H.out.halt B2.out (by decide)⟩
/-- A step more, as the code reckons. -/
theorem MK.tick2 {w : World} {M F s : Nat} {ws : List Int} {wv : Value} {φ : List (Nat × Nat)} {fs : List Fr} {N : Nat} (h : MK w M F s ws wv φ fs N) (hs : s + 1 ≤ F) : MK (w.setCell ⟨M, 1, none⟩ (.int .i64 ((s : Int) + 1))) M F (s + 1) ws wv φ fs N ∧ KS M φ φ wv wv w (w.setCell ⟨M, 1, none⟩ (.int .i64 ((s : Int) + 1))) := h.tick hs
theorem MK.halt2 {w w3 w' : World} {M F s : Nat} {ws : List Int} {wv : Value} {φ : List (Nat × Nat)} {fs : List Fr} {N : Nat} (h : MK w3 M F s ws wv φ fs N) (h3 : KS M φ φ wv wv w w3) (hb : Below w3.heap.size w3 w') {k : Int} (hk : k ≠ 1) {ss : List Int} : HaltP M F s k ws ss φ wv w w' := by
  obtain ⟨wv', sv', l, h1, h2, h4, h5, h6, h7, h8, h9, h10⟩ := h.halt hb hk (ss := ss)
  refine ⟨wv', sv', l, h1, h2, h4, h5, h6.trans h3.os, h7.trans h3.tape, h8.trans h3.output, Nat.le_trans h3.size h9, fun b hb2 hl => ?_⟩
  obtain ⟨k1, k2⟩ := h3.block b hb2 hl
  exact (h10 b k2 (Nat.lt_of_lt_of_le hl h3.size)).trans k1
theorem KS.then_cell {M : Nat} {φ ψ : List (Nat × Nat)} {wv wv' : Value} {w w3 w' : World} (h : KS M φ ψ wv wv' w w3) (hb : Below w3.heap.size w3 w') {a : Addr} {v : Value} (hS : Nm M φ wv a.block) (hc : w.cell? a = some v) : w'.cell? a = some v :=
  (hb.cell (p := a) (cell_lt (h.cell hS hc))).trans (h.cell hS hc)
set_option maxHeartbeats 16000000 in
set_option maxRecDepth 100000 in
theorem call_a (x n : Int) (i : Bool) (ts : List Int) (av : Bool) (an : Int) (rest : List (Bool × Int)) (fh : List (Int × List Int)) (fb us : List Te) (M F s : Nat) (ws : List Int) (wv : Value) (φ : List (Nat × Nat)) (fs : List Fr) (N e ep mp : Nat) (p : Addr) (w : World) (hm : MK w M F s ws wv φ fs N) (hsF : s + 1 ≤ F) (hl : rest.length ≤ 16) (he : φ[e]? = some (ep, mp)) (ht : TPt w (Nm M φ wv) p (.mk 5 x n i ts ((av, an) :: rest) fh fb us)) (va : Pv) (hva : va = atomV fs e (av, an)) (hk : (knd va == 3) = false) :
    Calls Try.prog 90 #[.pointer (some ⟨M, 0, none⟩), .pointer (some p), .pointer (some ⟨ep, 0, none⟩)] w (CallP none M F (s + 1) ws φ wv (N + 65536) w) := by
  obtain ⟨T, tc, A, ac, F9, fc, U, uc, ⟨x0, x1, x2, x3, x4, x5, x6, x7⟩, hI, hA, hF, hfe, hfr, hU, hrow, hwf⟩ := ht.cells
  obtain ⟨aa, hAa, hSa, a0, a1, hwa⟩ := hA.2 0 (by simp)
  subst hAa
  have e1 : aa.add 0 = aa := by unfold Addr.add; simp
  rw [Nat.zero_mul, e1] at a0 a1
  have a0 : w.cell? aa = some (.bool av) := a0
  have a1 : w.cell? ⟨aa.block, aa.off + 1, none⟩ = some (.int .i64 an) := a1
  have hwa : (Lit.int .i64 an).wf = true := hwa
  have x5 : w.cell? ⟨p.block, p.off + 5, none⟩ = some (.slice (some aa) (rest.length + 1) ac) := by rw [x5, List.length_cons]
  have hrl : ((rest.length + 1 : Nat) : Int) = (rest.length : Int) + 1 := by omega
  have m0 : w.cell? ⟨M, 0, none⟩ = some (.int .i64 F) := hm.blk.cell 0
  have m1 : w.cell? ⟨M, 1, none⟩ = some (.int .i64 s) := hm.blk.cell 1
  have hF9 : F ≤ 1048576 := hm.hF
  have d0 : decide ((s : Int) = (F : Int)) = false := decide_eq_false (by omega)
  have H := hid (And.intro hm (And.intro ht.1 (And.intro hSa (And.intro hA (And.intro he hwa)))))
  have X := hid (And.intro x5 (And.intro a0 a1))
  clear hm ht hI hA hF hfe hfr hU hrow hwf hSa x0 x1 x2 x3 x4 x6 x7
  go_enter Try.func90, Try.ntmps90
  go_wp2
  go_quiet (fail)
  rename_i nq
  have B2 := hid (below_drewN (Below.refl w.heap.size w) nq)
  generalize w.drewN nq = w2 at B2 ⊢
  have M2 := hid (H.out.1.up B2.out)
  have m1' : w2.cell? ⟨M, 1, none⟩ = some (.int .i64 s) := M2.out.blk.cell 1
  have fz := M2.out.blk.frozen 1
  have TK := hid (M2.out.tick2 hsF)
  clear m0 m1 x5 a0 a1
  have K3 := hid ((KS.of_below (M := M) (φ := φ) (wv := wv) B2.out).trans TK.out.2)
  have x5 := K3.out.cell (a := ⟨p.block, p.off + 5, none⟩) H.out.2.1 X.out.1
  have a0 := K3.out.cell (a := aa) H.out.2.2.1 X.out.2.1
  have a1 := K3.out.cell (a := ⟨aa.block, aa.off + 1, none⟩) H.out.2.2.1 X.out.2.2
  have C := hid (run_atom av an fs φ (Nm M φ wv) e ep mp _ TK.out.1.fr TK.out.1.new he hwa)
  rw [← hva] at C
  clear he hwa hva
  go_wp2_with (go_at_call 113; (refine C.out.mono ?_); rintro e9 w4 ⟨⟨q, rfl, hq⟩, b1⟩; obtain ⟨A9, c9, f9, e9, hb9, _⟩ := hq.cells; have G := hid (And.intro hq b1); have q0 : w4.cell? ⟨q, 0, none⟩ = some (.int .i64 (knd va)) := hb9.cell 0; clear hq b1 hb9)
  refine wp_region_held_drew (S := fun w' => w'.cell? ⟨q, 0, none⟩ = some (.int .i64 (knd va))) (by kernel_rfl) q0 (fun hHeld => ?_)
  refine take_d (some 38) (i := 0) (v := .pointer (some ⟨q, 0, none⟩)) rfl rfl (by kernel_rfl) (by kernel_rfl) (by kernel_rfl) (fun _ _ _ h => h) (.inl ⟨by rfl, fun w7 hS7 => (by (try dsimp only at hS7); go_simp)⟩) (by assumption) ?_; try simp only [Act.put, List.setIfInBounds_toArray, List.set_cons_zero, List.set_cons_succ]
  refine take_d (some 39) (i := 1) (v := .pointer (some ⟨q, 0, none⟩)) rfl rfl (by kernel_rfl) (by kernel_rfl) (by kernel_rfl) (fun _ _ _ h => h) (.inl ⟨by rfl, fun w7 hS7 => (by (try dsimp only at hS7); go_simp)⟩) (by assumption) ?_; try simp only [Act.put, List.setIfInBounds_toArray, List.set_cons_zero, List.set_cons_succ]
  refine take_d (some 40) (i := 2) (v := .pointer (some ⟨q, 0, none⟩)) rfl rfl (by kernel_rfl) (by kernel_rfl) (by kernel_rfl) (fun _ _ _ h => h) (.inl ⟨by rfl, fun w7 hS7 => (by (try dsimp only at hS7); go_simp)⟩) (by assumption) ?_; try simp only [Act.put, List.setIfInBounds_toArray, List.set_cons_zero, List.set_cons_succ]
  refine take_d (some 41) (i := 3) (v := .int .i64 (knd va)) rfl rfl (by kernel_rfl) (by kernel_rfl) (by kernel_rfl) (fun _ _ _ h => h) (.inl ⟨by rfl, fun w7 hS7 => (by (try dsimp only at hS7); go_simp)⟩) (by assumption) ?_; try simp only [Act.put, List.setIfInBounds_toArray, List.set_cons_zero, List.set_cons_succ]
  refine take_d (some 42) (i := 4) (v := .bool false) rfl rfl (by kernel_rfl) (by kernel_rfl) (by kernel_rfl) (fun _ _ _ h => h) (.inl ⟨by rfl, fun w7 hS7 => (by (try dsimp only at hS7); go_simp)⟩) (by assumption) ?_; try simp only [Act.put, List.setIfInBounds_toArray, List.set_cons_zero, List.set_cons_succ]
  refine take_d (some 43) (i := 5) (v := .bool false) rfl rfl (by kernel_rfl) (by kernel_rfl) (by kernel_rfl) (fun _ _ _ h => h) (.inl ⟨by rfl, fun w7 hS7 => (by (try dsimp only at hS7); go_simp)⟩) (by assumption) ?_; try simp only [Act.put, List.setIfInBounds_toArray, List.set_cons_zero, List.set_cons_succ]
  refine take_d (some 44) (i := 6) (v := undef) rfl rfl (by kernel_rfl) (by kernel_rfl) (by kernel_rfl) (fun _ _ _ h => h) (.inr ⟨by rfl, rfl⟩) (by assumption) ?_; try simp only [Act.put, List.setIfInBounds_toArray, List.set_cons_zero, List.set_cons_succ]
  refine take_d (some 45) (i := 7) (v := undef) rfl rfl (by kernel_rfl) (by kernel_rfl) (by kernel_rfl) (fun _ _ _ h => h) (.inr ⟨by rfl, rfl⟩) (by assumption) ?_; try simp only [Act.put, List.setIfInBounds_toArray, List.set_cons_zero, List.set_cons_succ]
  refine take_d (some 46) (i := 8) (v := undef) rfl rfl (by kernel_rfl) (by kernel_rfl) (by kernel_rfl) (fun _ _ _ h => h) (.inr ⟨by rfl, rfl⟩) (by assumption) ?_; try simp only [Act.put, List.setIfInBounds_toArray, List.set_cons_zero, List.set_cons_succ]
  refine take_d (some 47) (i := 9) (v := undef) rfl rfl (by kernel_rfl) (by kernel_rfl) (by kernel_rfl) (fun _ _ _ h => h) (.inr ⟨by rfl, rfl⟩) (by assumption) ?_; try simp only [Act.put, List.setIfInBounds_toArray, List.set_cons_zero, List.set_cons_succ]
  refine take_d (some 48) (i := 10) (v := undef) rfl rfl (by kernel_rfl) (by kernel_rfl) (by kernel_rfl) (fun _ _ _ h => h) (.inr ⟨by rfl, rfl⟩) (by assumption) ?_; try simp only [Act.put, List.setIfInBounds_toArray, List.set_cons_zero, List.set_cons_succ]
  refine take_d (some 49) (i := 11) (v := undef) rfl rfl (by kernel_rfl) (by kernel_rfl) (by kernel_rfl) (fun _ _ _ h => h) (.inr ⟨by rfl, rfl⟩) (by assumption) ?_; try simp only [Act.put, List.setIfInBounds_toArray, List.set_cons_zero, List.set_cons_succ]
  refine take_d (some 50) (i := 12) (v := undef) rfl rfl (by kernel_rfl) (by kernel_rfl) (by kernel_rfl) (fun _ _ _ h => h) (.inr ⟨by rfl, rfl⟩) (by assumption) ?_; try simp only [Act.put, List.setIfInBounds_toArray, List.set_cons_zero, List.set_cons_succ]
  refine take_d (some 51) (i := 13) (v := undef) rfl rfl (by kernel_rfl) (by kernel_rfl) (by kernel_rfl) (fun _ _ _ h => h) (.inr ⟨by rfl, rfl⟩) (by assumption) ?_; try simp only [Act.put, List.setIfInBounds_toArray, List.set_cons_zero, List.set_cons_succ]
  refine take_d (some 52) (i := 14) (v := undef) rfl rfl (by kernel_rfl) (by kernel_rfl) (by kernel_rfl) (fun _ _ _ h => h) (.inr ⟨by rfl, rfl⟩) (by assumption) ?_; try simp only [Act.put, List.setIfInBounds_toArray, List.set_cons_zero, List.set_cons_succ]
  refine take_d (some 53) (i := 15) (v := undef) rfl rfl (by kernel_rfl) (by kernel_rfl) (by kernel_rfl) (fun _ _ _ h => h) (.inr ⟨by rfl, rfl⟩) (by assumption) ?_; try simp only [Act.put, List.setIfInBounds_toArray, List.set_cons_zero, List.set_cons_succ]
  refine take_d (some 54) (i := 16) (v := undef) rfl rfl (by kernel_rfl) (by kernel_rfl) (by kernel_rfl) (fun _ _ _ h => h) (.inr ⟨by rfl, rfl⟩) (by assumption) ?_; try simp only [Act.put, List.setIfInBounds_toArray, List.set_cons_zero, List.set_cons_succ]
  refine take_d (some 55) (i := 17) (v := undef) rfl rfl (by kernel_rfl) (by kernel_rfl) (by kernel_rfl) (fun _ _ _ h => h) (.inr ⟨by rfl, rfl⟩) (by assumption) ?_; try simp only [Act.put, List.setIfInBounds_toArray, List.set_cons_zero, List.set_cons_succ]
  refine take_d (some 56) (i := 18) (v := undef) rfl rfl (by kernel_rfl) (by kernel_rfl) (by kernel_rfl) (fun _ _ _ h => h) (.inr ⟨by rfl, rfl⟩) (by assumption) ?_; try simp only [Act.put, List.setIfInBounds_toArray, List.set_cons_zero, List.set_cons_succ]
  refine take_d (some 57) (i := 19) (v := undef) rfl rfl (by kernel_rfl) (by kernel_rfl) (by kernel_rfl) (fun _ _ _ h => h) (.inr ⟨by rfl, rfl⟩) (by assumption) ?_; try simp only [Act.put, List.setIfInBounds_toArray, List.set_cons_zero, List.set_cons_succ]
  refine take_d (some 58) (i := 20) (v := undef) rfl rfl (by kernel_rfl) (by kernel_rfl) (by kernel_rfl) (fun _ _ _ h => h) (.inr ⟨by rfl, rfl⟩) (by assumption) ?_; try simp only [Act.put, List.setIfInBounds_toArray, List.set_cons_zero, List.set_cons_succ]
  refine take_d (some 59) (i := 21) (v := .bool false) rfl rfl (by kernel_rfl) (by kernel_rfl) (by kernel_rfl) (fun _ _ _ h => h) (.inl ⟨by rfl, fun w7 hS7 => (by (try dsimp only at hS7); go_simp)⟩) (by assumption) ?_; try simp only [Act.put, List.setIfInBounds_toArray, List.set_cons_zero, List.set_cons_succ]
  refine wpAnyH_ready (rs := [22]) (by kernel_rfl) (by simp) (AllReadyH.cons rfl (fun K hK => ?_) AllReadyH.nil)
  go_simp
  go_wp2_with (go_at_call 114; (refine (want_no _).mono ?_); rintro e8 w9 ⟨rfl, h9⟩; have h8 := h9.symm; subst h8; clear h9)
  exact ⟨rfl, rfl, TK.out.1.halt2 K3.out (below_hop (drew_below w4) G.out.2) (by decide)⟩
set_option maxHeartbeats 16000000 in
set_option maxRecDepth 100000 in
theorem call_b (x n : Int) (i : Bool) (ts : List Int) (av : Bool) (an : Int) (rest : List (Bool × Int)) (fh : List (Int × List Int)) (fb us : List Te) (M F s : Nat) (ws : List Int) (wv : Value) (φ : List (Nat × Nat)) (fs : List Fr) (N e ep mp : Nat) (p : Addr) (w : World) (hm : MK w M F s ws wv φ fs N) (hsF : s + 1 ≤ F) (hl : rest.length ≤ 16) (he : φ[e]? = some (ep, mp)) (ht : TPt w (Nm M φ wv) p (.mk 5 x n i ts ((av, an) :: rest) fh fb us)) (va : Pv) (hva : va = atomV fs e (av, an)) (ps : List Int) (b : Te) (e2 : Nat) (hk : va = .fn ps b e2) (hne : ps.length ≠ rest.length) :
    Calls Try.prog 90 #[.pointer (some ⟨M, 0, none⟩), .pointer (some p), .pointer (some ⟨ep, 0, none⟩)] w (CallP none M F (s + 1) ws φ wv (N + 65536) w) := by
  obtain ⟨T, tc, A, ac, F9, fc, U, uc, ⟨x0, x1, x2, x3, x4, x5, x6, x7⟩, hI, hA, hF, hfe, hfr, hU, hrow, hwf⟩ := ht.cells
  obtain ⟨aa, hAa, hSa, a0, a1, hwa⟩ := hA.2 0 (by simp)
  subst hAa
  have e1 : aa.add 0 = aa := by unfold Addr.add; simp
  rw [Nat.zero_mul, e1] at a0 a1
  have a0 : w.cell? aa = some (.bool av) := a0
  have a1 : w.cell? ⟨aa.block, aa.off + 1, none⟩ = some (.int .i64 an) := a1
  have hwa : (Lit.int .i64 an).wf = true := hwa
  have x5 : w.cell? ⟨p.block, p.off + 5, none⟩ = some (.slice (some aa) (rest.length + 1) ac) := by rw [x5, List.length_cons]
  have hrl : ((rest.length + 1 : Nat) : Int) = (rest.length : Int) + 1 := by omega
  have m0 : w.cell? ⟨M, 0, none⟩ = some (.int .i64 F) := hm.blk.cell 0
  have m1 : w.cell? ⟨M, 1, none⟩ = some (.int .i64 s) := hm.blk.cell 1
  have hF9 : F ≤ 1048576 := hm.hF
  have d0 : decide ((s : Int) = (F : Int)) = false := decide_eq_false (by omega)
  have H := hid (And.intro hm (And.intro ht.1 (And.intro hSa (And.intro hA (And.intro he hwa)))))
  have X := hid (And.intro x5 (And.intro a0 a1))
  clear hm ht hI hA hF hfe hfr hU hrow hwf hSa x0 x1 x2 x3 x4 x6 x7
  go_enter Try.func90, Try.ntmps90
  go_wp2
  go_quiet (fail)
  rename_i nq
  have B2 := hid (below_drewN (Below.refl w.heap.size w) nq)
  generalize w.drewN nq = w2 at B2 ⊢
  have M2 := hid (H.out.1.up B2.out)
  have m1' : w2.cell? ⟨M, 1, none⟩ = some (.int .i64 s) := M2.out.blk.cell 1
  have fz := M2.out.blk.frozen 1
  have TK := hid (M2.out.tick2 hsF)
  clear m0 m1 x5 a0 a1
  have K3 := hid ((KS.of_below (M := M) (φ := φ) (wv := wv) B2.out).trans TK.out.2)
  have x5 := K3.out.cell (a := ⟨p.block, p.off + 5, none⟩) H.out.2.1 X.out.1
  have a0 := K3.out.cell (a := aa) H.out.2.2.1 X.out.2.1
  have a1 := K3.out.cell (a := ⟨aa.block, aa.off + 1, none⟩) H.out.2.2.1 X.out.2.2
  have C := hid (run_atom av an fs φ (Nm M φ wv) e ep mp _ TK.out.1.fr TK.out.1.new he hwa)
  rw [← hva] at C
  clear he hwa hva
  subst hk
  go_wp2_with (go_at_call 113; (refine C.out.mono ?_); rintro e9 w4 ⟨⟨q, rfl, hq⟩, b1⟩; have hq2 := hq; rw [PAt] at hq2; obtain ⟨hq3, fa, ep2, mp2, P, pc, hb9, hep2, hfS, f1, hI1, hT1⟩ := hq2; have hpl : ps.length ≤ 17592186044416 := hI1.1.2.2.2; have G := hid (And.intro hq b1); have q0 : w4.cell? ⟨q, 0, none⟩ = some (.int .i64 3) := hb9.cell 0; have q3 : w4.cell? ⟨q, 3, none⟩ = some (.pointer (some fa)) := hb9.cell 3; clear x5; have x5 : w4.cell? ⟨p.block, p.off + 5, none⟩ = some (.slice (some aa) (rest.length + 1) ac) := K3.out.then_cell b1 H.out.2.1 X.out.1; clear hq b1 hb9 hI1 hT1 hep2)
  have hpl2 : ps.length ≤ 281474976710656 := by omega
  have q1 : IntKind.i64.wrap (rest.length : Int) = rest.length := IntWalk.i64_in _ (by omega)
  have d2 : ((ps.length : Int) == (rest.length : Int)) = false := by rw [beq_eq_false_iff_ne]; omega
  go_region_held2 (fun w' => w'.cell? ⟨q, 0, none⟩ = some (.int .i64 3) ∧ w'.cell? ⟨q, 3, none⟩ = some (.pointer (some fa)) ∧ w'.cell? ⟨fa.block, fa.off + 1, none⟩ = some (.slice P ps.length pc) ∧ w'.cell? ⟨p.block, p.off + 5, none⟩ = some (.slice (some aa) (rest.length + 1) ac)) (first | with_reducible exact ⟨q0, q3, f1, x5⟩ | go_keep) ((go_at_call 114; (refine (want_no2k _).mono ?_); rintro e8 w9 h9; rcases h9 with ⟨rfl, h8, HFA⟩ | ⟨rfl, h8⟩; rotate_left; (have h7 := h8.symm; subst h7; clear h8; exact ⟨rfl, rfl, TK.out.1.halt2 K3.out (below_hop (drew_below w4) G.out.2) (by decide)⟩); have h7 := h8.symm; subst h7; clear h8))
  all_goals exact HFA.out.elim
end Go.Proofs.Ytdmkjndlobichaa
