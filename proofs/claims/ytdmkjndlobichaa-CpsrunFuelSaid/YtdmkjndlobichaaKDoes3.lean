/-
  THE WALK OF cpsrun's does: A FIELD.
-/
import Derived.Test.YtdmkjndlobichaaKDoes1
import Derived.Deep.RegionHeld2
namespace Go.Proofs.Ytdmkjndlobichaa
set_option linter.all false
open Go.ChangeShapes Go.WideShapes Go.ChangeAt Go.RowKit Go.Maps
open Tm (Te Pv Fr lookV setV atomV bindS fieldS)
open Ev (Out)
attribute [local go_sem] Oper.semAt_some
/-- An operation of a drawn region is taken first; where it puts what it yields is told. -/
theorem take_d {P : Program} {ops : Array Oper} {Q : Exit → Act → World → Prop} {md : Region.Mode} {S : World → Prop} (d : Option Nat) {i : Nat} {oi : Oper} {v : Value} {fuel : Nat} {listed : Array Bool} {a : Act} {w : World} (hi : ops[i]? = some oi) (hd : oi.dst = d)
    (hs : Region.noSelect ops = true) (hf : Region.free md ops listed i = true) (hr : (Region.ready md ops listed).contains i = true)
    (hQ : ∀ c a w, Q (.panic c) (a.put d v) w → Q (.panic c) a w) (hy : YieldsIf P ops S oi v a) (hS : S w)
    (h : wpAnyH P md ops Q S fuel (listed.setIfInBounds i true) (a.put d v) w) : wpAnyH P md ops Q S (fuel + 1) listed a w := by
  subst hd
  exact wpAnyH_take hi hs hf hr hQ hy hS h
set_option maxHeartbeats 16000000 in
set_option maxRecDepth 100000 in
theorem does_3a (x n : Int) (i : Bool) (ts : List Int) (av : Bool) (an : Int) (fh : List (Int × List Int)) (fb : List Te) (u : Te) (M F s : Nat) (ws : List Int) (wv : Value) (φ : List (Nat × Nat)) (fs : List Fr) (N e ep mp : Nat) (p : Addr) (w : World) (hm : MK w M F s ws wv φ fs N) (hN : N ≤ 1000000000000000) (he : φ[e]? = some (ep, mp)) (ht : TPt w (Nm M φ wv) p (.mk 3 x n i ts [(av, an)] fh fb [u])) (va : Pv) (hva : va = atomV fs e (av, an)) (hk : (knd va == 2) = false) :
    Calls Try.prog 91 #[.pointer (some ⟨M, 0, none⟩), .pointer (some p), .pointer (some ⟨ep, 0, none⟩)] w (DoP (.halt (-1) ws []) M F s φ wv (N + 65536) w) := by
  obtain ⟨T, tc, A, ac, F9, fc, U, uc, ⟨x0, x1, x2, x3, x4, x5, x6, x7⟩, hI, hA, hF, hfe, hfr, hU, hrow, hwf⟩ := ht.cells
  obtain ⟨aa, hAa, hSa, a0, a1, hwa⟩ := hA.2 0 (by simp)
  subst hAa
  have e1 : aa.add 0 = aa := by unfold Addr.add; simp
  rw [Nat.zero_mul, e1] at a0 a1
  have a0 : w.cell? aa = some (.bool av) := a0
  have a1 : w.cell? ⟨aa.block, aa.off + 1, none⟩ = some (.int .i64 an) := a1
  have hwa : (Lit.int .i64 an).wf = true := hwa
  obtain ⟨ad, hUa, hpt⟩ := hrow.pt (j := 0) (by simp)
  subst hUa
  have hpt0 : TPt w (Nm M φ wv) ad u := by have h9 := hpt; rw [Nat.zero_mul] at h9; simpa [Addr.add] using h9
  have e0 : ad.add 0 = ad := by unfold Addr.add; simp
  have C := hid (run_atom av an fs φ (Nm M φ wv) e ep mp w hm.fr hm.new he hwa)
  rw [← hva] at C
  have hpl : p.block < w.heap.size := cell_lt x0
  have H := hid (And.intro hm (And.intro hpt0 (And.intro hwf (And.intro hpl (And.intro ht.1 (And.intro he (And.intro x1 (And.intro x2 x7))))))))
  clear hm he ht hI hA hF hfe hfr hU hrow hwf hSa hwa hva hpt hpt0
  go_enter Try.func91, Try.ntmps91
  go_wp2_with (go_at_call 113; (refine C.out.mono ?_); rintro e9 w1 ⟨⟨q, rfl, hq⟩, b1⟩; obtain ⟨A9, c9, f9, e9, hb9, _⟩ := hq.cells; have G := hid (And.intro hq b1); have q0 : w1.cell? ⟨q, 0, none⟩ = some (.int .i64 (knd va)) := hb9.cell 0; clear hq b1 hb9)
  refine wp_region_held_drew (S := fun w' => w'.cell? ⟨q, 0, none⟩ = some (.int .i64 (knd va))) (by kernel_rfl) q0 (fun hHeld => ?_)
  refine take_d (some 88) (i := 0) (v := .pointer (some ⟨q, 0, none⟩)) rfl rfl (by kernel_rfl) (by kernel_rfl) (by kernel_rfl) (fun _ _ _ h => h) (.inl ⟨by rfl, fun w7 hS7 => (by (try dsimp only at hS7); go_simp)⟩) (by assumption) ?_; try simp only [Act.put, List.setIfInBounds_toArray, List.set_cons_zero, List.set_cons_succ]
  refine take_d (some 89) (i := 1) (v := .pointer (some ⟨q, 0, none⟩)) rfl rfl (by kernel_rfl) (by kernel_rfl) (by kernel_rfl) (fun _ _ _ h => h) (.inl ⟨by rfl, fun w7 hS7 => (by (try dsimp only at hS7); go_simp)⟩) (by assumption) ?_; try simp only [Act.put, List.setIfInBounds_toArray, List.set_cons_zero, List.set_cons_succ]
  refine take_d (some 90) (i := 2) (v := .pointer (some ⟨q, 0, none⟩)) rfl rfl (by kernel_rfl) (by kernel_rfl) (by kernel_rfl) (fun _ _ _ h => h) (.inl ⟨by rfl, fun w7 hS7 => (by (try dsimp only at hS7); go_simp)⟩) (by assumption) ?_; try simp only [Act.put, List.setIfInBounds_toArray, List.set_cons_zero, List.set_cons_succ]
  refine take_d (some 91) (i := 3) (v := .int .i64 (knd va)) rfl rfl (by kernel_rfl) (by kernel_rfl) (by kernel_rfl) (fun _ _ _ h => h) (.inl ⟨by rfl, fun w7 hS7 => (by (try dsimp only at hS7); go_simp)⟩) (by assumption) ?_; try simp only [Act.put, List.setIfInBounds_toArray, List.set_cons_zero, List.set_cons_succ]
  refine take_d (some 92) (i := 4) (v := .bool false) rfl rfl (by kernel_rfl) (by kernel_rfl) (by kernel_rfl) (fun _ _ _ h => h) (.inl ⟨by rfl, fun w7 hS7 => (by (try dsimp only at hS7); go_simp)⟩) (by assumption) ?_; try simp only [Act.put, List.setIfInBounds_toArray, List.set_cons_zero, List.set_cons_succ]
  refine take_d (some 93) (i := 5) (v := .bool false) rfl rfl (by kernel_rfl) (by kernel_rfl) (by kernel_rfl) (fun _ _ _ h => h) (.inl ⟨by rfl, fun w7 hS7 => (by (try dsimp only at hS7); go_simp)⟩) (by assumption) ?_; try simp only [Act.put, List.setIfInBounds_toArray, List.set_cons_zero, List.set_cons_succ]
  refine take_d (some 94) (i := 6) (v := undef) rfl rfl (by kernel_rfl) (by kernel_rfl) (by kernel_rfl) (fun _ _ _ h => h) (.inr ⟨by rfl, rfl⟩) (by assumption) ?_; try simp only [Act.put, List.setIfInBounds_toArray, List.set_cons_zero, List.set_cons_succ]
  refine take_d (some 95) (i := 7) (v := undef) rfl rfl (by kernel_rfl) (by kernel_rfl) (by kernel_rfl) (fun _ _ _ h => h) (.inr ⟨by rfl, rfl⟩) (by assumption) ?_; try simp only [Act.put, List.setIfInBounds_toArray, List.set_cons_zero, List.set_cons_succ]
  refine take_d (some 96) (i := 8) (v := undef) rfl rfl (by kernel_rfl) (by kernel_rfl) (by kernel_rfl) (fun _ _ _ h => h) (.inr ⟨by rfl, rfl⟩) (by assumption) ?_; try simp only [Act.put, List.setIfInBounds_toArray, List.set_cons_zero, List.set_cons_succ]
  refine take_d (some 97) (i := 9) (v := undef) rfl rfl (by kernel_rfl) (by kernel_rfl) (by kernel_rfl) (fun _ _ _ h => h) (.inr ⟨by rfl, rfl⟩) (by assumption) ?_; try simp only [Act.put, List.setIfInBounds_toArray, List.set_cons_zero, List.set_cons_succ]
  refine take_d (some 98) (i := 10) (v := undef) rfl rfl (by kernel_rfl) (by kernel_rfl) (by kernel_rfl) (fun _ _ _ h => h) (.inr ⟨by rfl, rfl⟩) (by assumption) ?_; try simp only [Act.put, List.setIfInBounds_toArray, List.set_cons_zero, List.set_cons_succ]
  refine take_d (some 99) (i := 11) (v := undef) rfl rfl (by kernel_rfl) (by kernel_rfl) (by kernel_rfl) (fun _ _ _ h => h) (.inr ⟨by rfl, rfl⟩) (by assumption) ?_; try simp only [Act.put, List.setIfInBounds_toArray, List.set_cons_zero, List.set_cons_succ]
  refine take_d (some 100) (i := 12) (v := undef) rfl rfl (by kernel_rfl) (by kernel_rfl) (by kernel_rfl) (fun _ _ _ h => h) (.inr ⟨by rfl, rfl⟩) (by assumption) ?_; try simp only [Act.put, List.setIfInBounds_toArray, List.set_cons_zero, List.set_cons_succ]
  refine take_d (some 101) (i := 13) (v := undef) rfl rfl (by kernel_rfl) (by kernel_rfl) (by kernel_rfl) (fun _ _ _ h => h) (.inr ⟨by rfl, rfl⟩) (by assumption) ?_; try simp only [Act.put, List.setIfInBounds_toArray, List.set_cons_zero, List.set_cons_succ]
  refine take_d (some 102) (i := 14) (v := undef) rfl rfl (by kernel_rfl) (by kernel_rfl) (by kernel_rfl) (fun _ _ _ h => h) (.inr ⟨by rfl, rfl⟩) (by assumption) ?_; try simp only [Act.put, List.setIfInBounds_toArray, List.set_cons_zero, List.set_cons_succ]
  refine take_d (some 103) (i := 15) (v := undef) rfl rfl (by kernel_rfl) (by kernel_rfl) (by kernel_rfl) (fun _ _ _ h => h) (.inr ⟨by rfl, rfl⟩) (by assumption) ?_; try simp only [Act.put, List.setIfInBounds_toArray, List.set_cons_zero, List.set_cons_succ]
  refine take_d (some 104) (i := 16) (v := .bool false) rfl rfl (by kernel_rfl) (by kernel_rfl) (by kernel_rfl) (fun _ _ _ h => h) (.inl ⟨by rfl, fun w7 hS7 => (by (try dsimp only at hS7); go_simp)⟩) (by assumption) ?_; try simp only [Act.put, List.setIfInBounds_toArray, List.set_cons_zero, List.set_cons_succ]
  refine wpAnyH_ready (rs := [17]) (by kernel_rfl) (by simp) (AllReadyH.cons rfl (fun K hK => ?_) AllReadyH.nil)
  go_simp
  go_wp2_with (go_at_call 114; (refine (want_no _).mono ?_); rintro e8 w9 ⟨rfl, h9⟩; have h8 := h9.symm; subst h8; clear h9)
  exact ⟨rfl, rfl, H.out.1.halt (below_hop (drew_below w1) G.out.2) (by decide)⟩
theorem want_no2k (w : World) : Calls Try.prog 114 #[.bool false] w fun e w' => (e = .returned (.tuple #[]) ∧ w' = w ∧ Hid False) ∨ (e = .panicked [stopK (-1)] ∧ w' = w) := (want_no w).mono (fun e w' h => .inr h)
set_option maxHeartbeats 16000000 in
set_option maxRecDepth 100000 in
theorem does_3b (x n : Int) (i : Bool) (ts : List Int) (av : Bool) (an : Int) (fh : List (Int × List Int)) (fb : List Te) (u : Te) (M F s : Nat) (ws : List Int) (wv : Value) (φ : List (Nat × Nat)) (fs : List Fr) (N e ep mp : Nat) (p : Addr) (w : World) (hm : MK w M F s ws wv φ fs N) (hN : N ≤ 1000000000000000) (he : φ[e]? = some (ep, mp)) (ht : TPt w (Nm M φ wv) p (.mk 3 x n i ts [(av, an)] fh fb [u])) (va : Pv) (hva : va = atomV fs e (av, an)) (c : Int) (vs : List Pv) (hk : va = .con c vs) (hn : (vs.length : Int) ≤ n) :
    Calls Try.prog 91 #[.pointer (some ⟨M, 0, none⟩), .pointer (some p), .pointer (some ⟨ep, 0, none⟩)] w (DoP (.halt (-1) ws []) M F s φ wv (N + 65536) w) := by
  obtain ⟨T, tc, A, ac, F9, fc, U, uc, ⟨x0, x1, x2, x3, x4, x5, x6, x7⟩, hI, hA, hF, hfe, hfr, hU, hrow, hwf⟩ := ht.cells
  obtain ⟨aa, hAa, hSa, a0, a1, hwa⟩ := hA.2 0 (by simp)
  subst hAa
  have e1 : aa.add 0 = aa := by unfold Addr.add; simp
  rw [Nat.zero_mul, e1] at a0 a1
  have a0 : w.cell? aa = some (.bool av) := a0
  have a1 : w.cell? ⟨aa.block, aa.off + 1, none⟩ = some (.int .i64 an) := a1
  have hwa : (Lit.int .i64 an).wf = true := hwa
  obtain ⟨ad, hUa, hpt⟩ := hrow.pt (j := 0) (by simp)
  subst hUa
  have hpt0 : TPt w (Nm M φ wv) ad u := by have h9 := hpt; rw [Nat.zero_mul] at h9; simpa [Addr.add] using h9
  have e0 : ad.add 0 = ad := by unfold Addr.add; simp
  have C := hid (run_atom av an fs φ (Nm M φ wv) e ep mp w hm.fr hm.new he hwa)
  rw [← hva] at C
  have hpl : p.block < w.heap.size := cell_lt x0
  have H := hid (And.intro hm (And.intro hpt0 (And.intro hwf (And.intro hpl (And.intro ht.1 (And.intro he (And.intro x1 (And.intro x2 x7))))))))
  clear hm he ht hI hA hF hfe hfr hU hrow hwf hSa hwa hva hpt hpt0
  subst hk
  have d1 : decide (n < (vs.length : Int)) = false := decide_eq_false (by omega)
  go_enter Try.func91, Try.ntmps91
  go_wp2_with (go_at_call 113; (refine C.out.mono ?_); rintro e9 w1 ⟨⟨q, rfl, hq⟩, b1⟩; obtain ⟨A9, c9, f9, e9, hb9, _⟩ := hq.cells; have G := hid (And.intro hq b1); have q0 : w1.cell? ⟨q, 0, none⟩ = some (.int .i64 2) := hb9.cell 0; have q2 : w1.cell? ⟨q, 2, none⟩ = some (.slice A9 vs.length c9) := hb9.cell 2; clear x2; have x2 : w1.cell? ⟨p.block, p.off + 2, none⟩ = some (.int .i64 n) := (b1.cell (p := ⟨p.block, p.off + 2, none⟩) H.out.2.2.2.1).trans H.out.2.2.2.2.2.2.2.1; clear hq b1 hb9)
  go_region_held2 (fun w' => w'.cell? ⟨q, 0, none⟩ = some (.int .i64 2) ∧ w'.cell? ⟨q, 2, none⟩ = some (.slice A9 vs.length c9) ∧ w'.cell? ⟨p.block, p.off + 2, none⟩ = some (.int .i64 n)) (first | with_reducible exact ⟨q0, q2, x2⟩ | go_keep) ((go_at_call 114; (refine (want_no2k _).mono ?_); rintro e8 w9 h9; rcases h9 with ⟨rfl, h8, HFA⟩ | ⟨rfl, h8⟩; rotate_left; (have h7 := h8.symm; subst h7; clear h8; exact ⟨rfl, rfl, H.out.1.halt (below_hop (drew_below w1) G.out.2) (by decide)⟩); have h7 := h8.symm; subst h7; clear h8))
  all_goals exact HFA.out.elim
theorem quiet_want (w : World) (n : Nat) : True := trivial
set_option maxHeartbeats 16000000 in
set_option maxRecDepth 100000 in
theorem does_3ok (x n : Int) (i : Bool) (ts : List Int) (av : Bool) (an : Int) (fh : List (Int × List Int)) (fb : List Te) (u : Te) (M F s : Nat) (ws : List Int) (wv : Value) (φ : List (Nat × Nat)) (fs : List Fr) (N e ep mp : Nat) (p : Addr) (w : World) (hm : MK w M F s ws wv φ fs N) (hN : N ≤ 1000000000000000) (he : φ[e]? = some (ep, mp)) (ht : TPt w (Nm M φ wv) p (.mk 3 x n i ts [(av, an)] fh fb [u])) (va : Pv) (hva : va = atomV fs e (av, an)) (c : Int) (vs : List Pv) (m : Nat) (r : Pv) (hk : va = .con c vs) (hnm : n = (m : Int)) (hr : vs[m]? = some r) :
    Calls Try.prog 91 #[.pointer (some ⟨M, 0, none⟩), .pointer (some p), .pointer (some ⟨ep, 0, none⟩)] w (DoP (bindS e x u fs ws (.ok r)) M F s φ wv (N + 65536) w) := by
  obtain ⟨T, tc, A, ac, F9, fc, U, uc, ⟨x0, x1, x2, x3, x4, x5, x6, x7⟩, hI, hA, hF, hfe, hfr, hU, hrow, hwf⟩ := ht.cells
  obtain ⟨aa, hAa, hSa, a0, a1, hwa⟩ := hA.2 0 (by simp)
  subst hAa
  have e1 : aa.add 0 = aa := by unfold Addr.add; simp
  rw [Nat.zero_mul, e1] at a0 a1
  have a0 : w.cell? aa = some (.bool av) := a0
  have a1 : w.cell? ⟨aa.block, aa.off + 1, none⟩ = some (.int .i64 an) := a1
  have hwa : (Lit.int .i64 an).wf = true := hwa
  obtain ⟨ad, hUa, hpt⟩ := hrow.pt (j := 0) (by simp)
  subst hUa
  have hpt0 : TPt w (Nm M φ wv) ad u := by have h9 := hpt; rw [Nat.zero_mul] at h9; simpa [Addr.add] using h9
  have e0 : ad.add 0 = ad := by unfold Addr.add; simp
  have C := hid (run_atom av an fs φ (Nm M φ wv) e ep mp w hm.fr hm.new he hwa)
  rw [← hva] at C
  have hpl : p.block < w.heap.size := cell_lt x0
  have H := hid (And.intro hm (And.intro hpt0 (And.intro hwf (And.intro hpl (And.intro ht.1 (And.intro he (And.intro x1 (And.intro x2 x7))))))))
  obtain ⟨f, ua, hf, hfS, hfb, hfm, hfl⟩ := hm.frame_ he
  have y1 : w.cell? ⟨ep, 1, none⟩ = some (.map (some mp)) := hfb.cell 1
  have hepl := hfb.lt
  have HF := hid (And.intro hf (And.intro hfS (And.intro hfl (And.intro hepl y1))))
  clear hm he ht hI hA hF hfe hfr hU hrow hwf hSa hwa hva hpt hpt0 hf hfS hfb hfm hfl
  subst hk hnm
  obtain ⟨hlt, hrr⟩ := List.getElem?_eq_some_iff.1 hr
  have d1 : decide ((m : Int) < (vs.length : Int)) = true := decide_eq_true (by omega)
  have hlt' : (m : Int) < vs.length := by omega
  have HRR := hid hrr
  clear hr
  go_enter Try.func91, Try.ntmps91
  go_wp2_with (go_at_call 113; go_must (refine C.out.mono ?_); rintro e9 w1 ⟨⟨q, rfl, hq⟩, b1⟩; go_must (have hq2 := hq; rw [PAt] at hq2; obtain ⟨hq3, ⟨A9, c9, hb9, hl1, hl2, hl3, hpr⟩, _, hvl⟩ := hq2; obtain ⟨av9, g9, hA9, hS9, hc9, hp9⟩ := hpr.get hlt; have G := hid (And.intro b1 (And.intro hp9 (And.intro hc9 (And.intro hb9 hvl)))); have q0 : w1.cell? ⟨q, 0, none⟩ = some (.int .i64 2) := hb9.cell 0; have q2 : w1.cell? ⟨q, 2, none⟩ = some (.slice A9 vs.length c9) := hb9.cell 2; have hvl2 : vs.length ≤ 281474976710656 := (by omega); clear x2; have x2 : w1.cell? ⟨p.block, p.off + 2, none⟩ = some (.int .i64 m) := (b1.cell (p := ⟨p.block, p.off + 2, none⟩) H.out.2.2.2.1).trans H.out.2.2.2.2.2.2.2.1; subst hA9; rw [Nat.zero_add] at hc9; have HQ := hid (And.intro hq3 hS9); clear hq b1 hb9 hpr hp9 hq3 hS9))
  go_quiet ((go_at_call 114; exact Calls.quiet_of_same (want_yes _)))
  rename_i nq
  have B2 := hid (below_drewN (Below.refl w1.heap.size w1) nq)
  have B3 := hid (below_hop B2.out G.out.1)
  generalize w1.drewN nq = w2 at B2 B3 ⊢
  have GG := hid (below_hop (drew_below w2) B2.out)
  have BB := hid (below_hop GG.out G.out.1)
  have q2' : w2.cell? ⟨q, 2, none⟩ = some (.slice (some av9) vs.length c9) := (B2.out.cell (p := ⟨q, 2, none⟩) G.out.2.2.2.1.lt).trans q2
  have x2' : w2.cell? ⟨p.block, p.off + 2, none⟩ = some (.int .i64 m) := (B2.out.cell (p := ⟨p.block, p.off + 2, none⟩) (by have := G.out.1.size; have := H.out.2.2.2.1; dsimp only; omega)).trans x2
  have x1' : w2.cell? ⟨p.block, p.off + 1, none⟩ = some (.int .i64 x) := (B3.out.cell (p := ⟨p.block, p.off + 1, none⟩) H.out.2.2.2.1).trans x1
  have y1' : w2.cell? ⟨ep, 1, none⟩ = some (.map (some mp)) := (B3.out.cell (p := ⟨ep, 1, none⟩) HF.out.2.2.2.1).trans y1
  have hc9' : w2.cell? (av9.add m) = some (.pointer (some ⟨g9, 0, none⟩)) := (B2.out.cell (p := av9.add m) (cell_lt hc9)).trans hc9
  have MU := hid (H.out.1.up BB.out)
  obtain ⟨w6, hrun, hput⟩ := run_putV (w := w2.drew) (S := Nm M φ wv) (φ := φ) (B := mp) (vars := f.vars) (s := x) (u := r) (g := g9) (MU.out.mapv H.out.2.2.2.2.2.1 HF.out.1) (by have := HF.out.2.2.1; unfold maxLen; omega) H.out.2.2.1.2.1 (HRR.out ▸ G.out.2.1.up GG.out)
  have KP := hid (MU.out.put H.out.2.2.2.2.2.1 HF.out.1 hput)
  clear hput hrr hl1 hl2 hl3
  have z9 : w6.cell? ⟨p.block, p.off + 7, none⟩ = some (.slice (some ad) 1 uc) := after_put0 (a := ⟨p.block, p.off + 7, none⟩) H.out.1 BB.out KP.out.2 H.out.2.2.2.2.1 x7
  clear x1 x2 y1 q2 hc9 x0 x3 x4 x5 x6 x7 a0 a1 q0
  have HZ := hid z9
  have k6 : ∀ (a : Addr) (v : Value), Nm M φ wv a.block → w2.cell? a = some v → w6.cell? a = some v := fun a v hS hc => cell_of (w := w2) (b := a.block) ((KP.out.2.block _ hS (cell_lt hc)).1) rfl hc
  have z1 := k6 ⟨ep, 1, none⟩ _ HF.out.2.1 y1'
  have z2 := k6 ⟨p.block, p.off + 1, none⟩ _ H.out.2.2.2.2.1 x1'
  have z3 := k6 ⟨p.block, p.off + 2, none⟩ _ H.out.2.2.2.2.1 x2'
  have z4 := k6 ⟨q, 2, none⟩ _ HQ.out.1 q2'
  have z5 := k6 (av9.add m) _ (by rw [add_block]; exact HQ.out.2) hc9'
  clear k6
  go_wp2
  go_region_held3 (fun w' => w'.cell? ⟨ep, 1, none⟩ = some (.map (some mp)) ∧ w'.cell? ⟨p.block, p.off + 1, none⟩ = some (.int .i64 x) ∧ w'.cell? ⟨p.block, p.off + 2, none⟩ = some (.int .i64 m) ∧ w'.cell? ⟨q, 2, none⟩ = some (.slice (some av9) vs.length c9) ∧ w'.cell? (av9.add m) = some (.pointer (some ⟨g9, 0, none⟩))) (first | with_reducible exact ⟨y1', x1', x2', q2', hc9'⟩ | with_reducible exact ⟨z1, z2, z3, z4, z5⟩ | go_keep) (fail)
  all_goals
    go_wp2
    go_ret
    exact DoP.go (KP.out.1.wide (by omega)) (H.out.2.1.keep (fun k hk hl => ⟨(KP.out.2.block k hk (Nat.lt_of_lt_of_le hl BB.out.size)).1.trans (BB.out.block k hl), hk⟩)) ((KS.of_below BB.out).trans KP.out.2)
end Go.Proofs.Ytdmkjndlobichaa
