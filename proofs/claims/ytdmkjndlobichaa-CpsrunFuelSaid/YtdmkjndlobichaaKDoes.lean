/-
  THE WALK OF cpsrun's does, KIND BY KIND.
-/
import Derived.Test.YtdmkjndlobichaaKState
namespace Go.Proofs.Ytdmkjndlobichaa
set_option linter.all false
open Go.ChangeShapes Go.WideShapes Go.ChangeAt Go.RowKit Go.Maps
open Tm (Te Pv Fr lookV setV atomV primS bindS)
open Ev (Out)
/-- The frame's own cells. -/
theorem MK.frame_ {w : World} {M F s : Nat} {ws : List Int} {wv : Value} {φ : List (Nat × Nat)} {fs : List Fr} {N e ep mp : Nat} (h : MK w M F s ws wv φ fs N) (he : φ[e]? = some (ep, mp)) : ∃ f ua, fs[e]? = some f ∧ Nm M φ wv ep ∧ Blk w ep 121 #[.pointer ua, .map (some mp)] ∧ MapV w (Nm M φ wv) φ mp f.vars ∧ f.vars.length ≤ N := by
  obtain ⟨f, h1, h2, ⟨ua, h3, h4⟩, h5⟩ := h.fr.2 e ep mp he
  exact ⟨f, ua, h1, h2, h3, h5, h.ent f (List.mem_of_getElem? h1)⟩
theorem MK.mapv {w : World} {M F s : Nat} {ws : List Int} {wv : Value} {φ : List (Nat × Nat)} {fs : List Fr} {N e ep mp : Nat} (h : MK w M F s ws wv φ fs N) (he : φ[e]? = some (ep, mp)) {f : Fr} (hf : fs[e]? = some f) : MapV w (Nm M φ wv) φ mp f.vars := by
  obtain ⟨f2, ua, h1, _, _, h5, _⟩ := h.frame_ he
  rw [hf] at h1
  injection h1 with h1
  subst h1
  exact h5
theorem MK.wide {w : World} {M F s : Nat} {ws : List Int} {wv : Value} {φ : List (Nat × Nat)} {fs : List Fr} {N N2 : Nat} (h : MK w M F s ws wv φ fs N) (hN : N ≤ N2) : MK w M F s ws wv φ fs N2 := ⟨h.blk, h.row, h.len, h.fr, h.dis, h.low, fun f hf => Nat.le_trans (h.ent f hf) hN, h.hF, h.hs⟩
theorem con_at {w w1 : World} {M F s : Nat} {ws : List Int} {wv : Value} {φ : List (Nat × Nat)} {fs : List Fr} {N c : Nat} {us : List Pv} {A : Option Addr} {n : Int} (h : MK w M F s ws wv φ fs N) (hb : Below w.heap.size w w1) (hr : us.length ≤ c ∧ c ≤ maxLen ∧ (A = none → us = [] ∧ c = 0) ∧ PRow w1 (Nm M φ wv) φ us A 0) (hn : (Lit.int .i64 n).wf = true) (hl : us.length ≤ 1000) :
    PAt (w1.alloc (.cells #[.int .i64 2, .int .i64 n, .slice A us.length c, .pointer none, .pointer none] 106)) (Nm M φ wv) φ (.con n us) w1.heap.size := by
  rw [PAt]
  exact ⟨h.new _ hb.size, ⟨A, c, Blk.new _ _ _, hr.1, hr.2.1, hr.2.2.1, PRow.keep (Ext.refl _) (fun k hk hl => ⟨Below.heap_alloc _ _ _ hl, hk⟩) _ _ _ hr.2.2.2⟩, hn, by omega⟩
theorem after_put {w w1 w6 : World} {o : Obj} {M F s : Nat} {ws : List Int} {wv : Value} {φ : List (Nat × Nat)} {fs : List Fr} {N : Nat} {a : Addr} {v : Value} (h : MK w M F s ws wv φ fs N) (hb : Below w.heap.size w w1) (hk : KS M φ φ wv wv (w1.alloc o) w6) (hS : Nm M φ wv a.block) (hc : w.cell? a = some v) : w6.cell? a = some v := by
  have hl := cell_lt hc
  have hs := hb.size
  exact cell_of (w := w) (b := a.block) (((hk.block _ hS (by simp; omega)).1.trans (Below.heap_alloc _ _ _ (by omega))).trans (hb.block _ hl)) rfl hc
set_option maxHeartbeats 16000000 in
set_option maxRecDepth 100000 in
theorem does_2 (x n : Int) (i : Bool) (ts : List Int) (ats : List (Bool × Int)) (fh : List (Int × List Int)) (fb : List Te) (u : Te) (M F s : Nat) (ws : List Int) (wv : Value) (φ : List (Nat × Nat)) (fs : List Fr) (N e ep mp : Nat) (p : Addr) (w : World) (hm : MK w M F s ws wv φ fs N) (hN : N ≤ 1000000000000000) (he : φ[e]? = some (ep, mp)) (ht : TPt w (Nm M φ wv) p (.mk 2 x n i ts ats fh fb [u])) (hl : ats.length ≤ 8) :
    Calls Try.prog 91 #[.pointer (some ⟨M, 0, none⟩), .pointer (some p), .pointer (some ⟨ep, 0, none⟩)] w (DoP (bindS e x u fs ws (.ok (.con n (ats.map (atomV fs e))))) M F s φ wv (N + 65536) w) := by
  obtain ⟨T, tc, A, ac, F9, fc, U, uc, ⟨x0, x1, x2, x3, x4, x5, x6, x7⟩, hI, hA, hF, hfe, hfr, hU, hrow, hwf⟩ := ht.cells
  obtain ⟨f, ua, hf, hfS, hfb, hfm, hfl⟩ := hm.frame_ he
  have y1 : w.cell? ⟨ep, 1, none⟩ = some (.map (some mp)) := hfb.cell 1
  have hpl : p.block < w.heap.size := cell_lt x0
  have hepl := hfb.lt
  have hml := hfm.lt
  obtain ⟨ad, hUa, hpt⟩ := hrow.pt (j := 0) (by simp)
  subst hUa
  have hpt0 : TPt w (Nm M φ wv) ad u := by have h9 := hpt; rw [Nat.zero_mul] at h9; simpa [Addr.add] using h9
  have e0 : ad.add 0 = ad := by unfold Addr.add; simp
  obtain ⟨us9, hus⟩ : ∃ us9, us9 = ats.map (atomV fs e) := ⟨_, rfl⟩
  have C := hid (run_atoms ats A ac fs φ (Nm M φ wv) e ep mp w.drew (hA.up (drew_below w)) (hm.fr.up (drew_below w)) (fun b hb => hm.new b hb) he (by omega))
  have H := hid (And.intro hm (And.intro hf (And.intro hfm (And.intro hwf (And.intro hpt0 (And.intro hpl hepl))))))
  have HE := hid he
  have HFL := hid hfl
  have HLEN := hid (show us9.length ≤ 1000 by rw [hus, List.length_map]; omega)
  rw [← hus] at C ⊢
  clear hus
  have Y := hid (And.intro y1 (And.intro x1 (And.intro x2 (And.intro x5 (And.intro ht.1 (And.intro hfS x7))))))
  have hal : ats.length ≤ 281474976710656 := by omega
  clear hm he ht hI hA hF hfe hfr hU hrow hwf hf hfS hfb hfm hpt hpt0 hfl
  go_enter Try.func91, Try.ntmps91
  go_wp2
  go_region_held3 (fun w' => w'.cell? ⟨ep, 1, none⟩ = some (.map (some mp)) ∧ w'.cell? ⟨p.block, p.off + 1, none⟩ = some (.int .i64 x) ∧ w'.cell? ⟨p.block, p.off + 2, none⟩ = some (.int .i64 n) ∧ w'.cell? ⟨p.block, p.off + 5, none⟩ = some (.slice A ats.length ac)) (first | with_reducible exact ⟨y1, x1, x2, x5⟩ | with_reducible exact ⟨z1, z2, z3, z4⟩ | go_keep) (first
    | (go_at_call 115; (refine C.out.mono ?_); rintro e9 w1 ⟨⟨A1, c1, rfl, hr1, hr2, hr3, hr4⟩, b1⟩; have B1 := hid (below_hop b1 (drew_below w)); have R1 := hid (And.intro hr1 (And.intro hr2 (And.intro hr3 hr4))); have MU := hid (H.out.1.up (below_hop (al1 w1 (.cells #[.int .i64 2, .int .i64 n, .slice A1 us9.length c1, .pointer none, .pointer none] 106)) B1.out)); obtain ⟨w6, hrun, hput⟩ := run_putV (w := w1.alloc (.cells #[.int .i64 2, .int .i64 n, .slice A1 us9.length c1, .pointer none, .pointer none] 106)) (S := Nm M φ wv) (φ := φ) (B := mp) (vars := f.vars) (s := x) (u := .con n us9) (g := w1.heap.size) (MU.out.mapv HE.out H.out.2.1) (by have := HFL.out; unfold maxLen; omega) H.out.2.2.2.1.2.1 (con_at H.out.1 B1.out R1.out H.out.2.2.2.1.2.2 HLEN.out); have PP := hid hput; have KP := hid (MU.out.put HE.out H.out.2.1 hput); clear y1 x1 x2 x5 b1 hr1 hr2 hr3 hr4 hput; have y1 : w1.cell? ⟨ep, 1, none⟩ = some (.map (some mp)) := (B1.out.cell (p := ⟨ep, 1, none⟩) H.out.2.2.2.2.2.2).trans Y.out.1; have x1 : w1.cell? ⟨p.block, p.off + 1, none⟩ = some (.int .i64 x) := (B1.out.cell (p := ⟨p.block, p.off + 1, none⟩) H.out.2.2.2.2.2.1).trans Y.out.2.1; have x2 : w1.cell? ⟨p.block, p.off + 2, none⟩ = some (.int .i64 n) := (B1.out.cell (p := ⟨p.block, p.off + 2, none⟩) H.out.2.2.2.2.2.1).trans Y.out.2.2.1; have x5 : w1.cell? ⟨p.block, p.off + 5, none⟩ = some (.slice A ats.length ac) := (B1.out.cell (p := ⟨p.block, p.off + 5, none⟩) H.out.2.2.2.2.2.1).trans Y.out.2.2.2.1; have z1 : w6.cell? ⟨ep, 1, none⟩ = some (.map (some mp)) := after_put H.out.1 B1.out KP.out.2 Y.out.2.2.2.2.2.1 Y.out.1; have z2 : w6.cell? ⟨p.block, p.off + 1, none⟩ = some (.int .i64 x) := after_put (a := ⟨p.block, p.off + 1, none⟩) H.out.1 B1.out KP.out.2 Y.out.2.2.2.2.1 Y.out.2.1; have z3 : w6.cell? ⟨p.block, p.off + 2, none⟩ = some (.int .i64 n) := after_put (a := ⟨p.block, p.off + 2, none⟩) H.out.1 B1.out KP.out.2 Y.out.2.2.2.2.1 Y.out.2.2.1; have z4 : w6.cell? ⟨p.block, p.off + 5, none⟩ = some (.slice A ats.length ac) := after_put (a := ⟨p.block, p.off + 5, none⟩) H.out.1 B1.out KP.out.2 Y.out.2.2.2.2.1 Y.out.2.2.2.1; have z7 : w6.cell? ⟨p.block, p.off + 7, none⟩ = some (.slice (some ad) 1 uc) := after_put (a := ⟨p.block, p.off + 7, none⟩) H.out.1 B1.out KP.out.2 Y.out.2.2.2.2.1 Y.out.2.2.2.2.2.2))
  all_goals
    go_wp2
    go_ret
    exact DoP.go (KP.out.1.wide (by omega)) (H.out.2.2.2.2.1.keep (fun k hk hl => ⟨((KP.out.2.block k hk (by have := B1.out.size; simp; omega)).1.trans (Below.heap_alloc _ _ _ (by have := B1.out.size; omega))).trans (B1.out.block k hl), hk⟩)) ((KS.of_below (below_hop (al1 w1 _) B1.out)).trans KP.out.2)
theorem after_put0 {w w1 w6 : World} {M F s : Nat} {ws : List Int} {wv : Value} {φ : List (Nat × Nat)} {fs : List Fr} {N : Nat} {a : Addr} {v : Value} (h : MK w M F s ws wv φ fs N) (hb : Below w.heap.size w w1) (hk : KS M φ φ wv wv w1 w6) (hS : Nm M φ wv a.block) (hc : w.cell? a = some v) : w6.cell? a = some v := by
  have hl := cell_lt hc
  have hs := hb.size
  exact cell_of (w := w) (b := a.block) ((hk.block _ hS (by omega)).1.trans (hb.block _ hl)) rfl hc
set_option maxHeartbeats 16000000 in
set_option maxRecDepth 100000 in
theorem does_1ok (x n : Int) (i : Bool) (ts : List Int) (av bv : Bool) (an bn : Int) (fh : List (Int × List Int)) (fb : List Te) (u : Te) (M F s : Nat) (ws : List Int) (wv : Value) (φ : List (Nat × Nat)) (fs : List Fr) (N e ep mp : Nat) (p : Addr) (w : World) (hm : MK w M F s ws wv φ fs N) (hN : N ≤ 1000000000000000) (he : φ[e]? = some (ep, mp)) (ht : TPt w (Nm M φ wv) p (.mk 1 x n i ts [(av, an), (bv, bn)] fh fb [u])) (q : Int) (r : Pv) (hyp : Tm.numOf (atomV fs e (av, an)) = some q ∧ primS n (.num q) (atomV fs e (bv, bn)) = .ok r) :
    Calls Try.prog 91 #[.pointer (some ⟨M, 0, none⟩), .pointer (some p), .pointer (some ⟨ep, 0, none⟩)] w (DoP (bindS e x u fs ws (.ok r)) M F s φ wv (N + 65536) w) := by
  obtain ⟨T, tc, A, ac, F9, fc, U, uc, ⟨x0, x1, x2, x3, x4, x5, x6, x7⟩, hI, hA, hF, hfe, hfr, hU, hrow, hwf⟩ := ht.cells
  obtain ⟨f, ua, hf, hfS, hfb, hfm, hfl⟩ := hm.frame_ he
  have y1 : w.cell? ⟨ep, 1, none⟩ = some (.map (some mp)) := hfb.cell 1
  have hpl : p.block < w.heap.size := cell_lt x0
  have hepl := hfb.lt
  have hml := hfm.lt
  obtain ⟨ad, hUa, hpt⟩ := hrow.pt (j := 0) (by simp)
  subst hUa
  have hpt0 : TPt w (Nm M φ wv) ad u := by have h9 := hpt; rw [Nat.zero_mul] at h9; simpa [Addr.add] using h9
  have e0 : ad.add 0 = ad := by unfold Addr.add; simp
  obtain ⟨aa, hAa, hSa, a0, a1, hwa⟩ := hA.2 0 (by simp)
  obtain ⟨aa2, hAa2, _, b0, b1, hwb⟩ := hA.2 1 (by simp)
  subst hAa
  injection hAa2 with hAa2
  subst hAa2
  have e1 : aa.add 0 = aa := by unfold Addr.add; simp
  rw [Nat.zero_mul, e1] at a0 a1
  have e2 : aa.add 2 = ⟨aa.block, aa.off + 2, none⟩ := by unfold Addr.add; simp
  rw [Nat.one_mul, e2] at b0 b1
  have a0 : w.cell? aa = some (.bool av) := a0
  have a1 : w.cell? ⟨aa.block, aa.off + 1, none⟩ = some (.int .i64 an) := a1
  have b0 : w.cell? ⟨aa.block, aa.off + 2, none⟩ = some (.bool bv) := b0
  have b1 : w.cell? ⟨aa.block, aa.off + 2 + 1, none⟩ = some (.int .i64 bn) := b1
  have hwa : (Lit.int .i64 an).wf = true := hwa
  have hwb : (Lit.int .i64 bn).wf = true := hwb
  have AC := hid (And.intro a0 (And.intro a1 (And.intro b0 b1)))
  have AL := hid (And.intro (cell_lt a0) (cell_lt a0))
  have AS := hid hSa
  have ASB := hid hSa
  have H := hid (And.intro hm (And.intro hf (And.intro hfm (And.intro hwf (And.intro hpt0 (And.intro hpl hepl))))))
  have HE := hid he
  have HFL := hid hfl
  have Y := hid (And.intro y1 (And.intro x1 (And.intro x2 (And.intro x5 (And.intro ht.1 (And.intro hfS x7))))))
  have C := hid (run_number av an fs φ (Nm M φ wv) e ep mp w.drew (hm.fr.up (drew_below w)) (fun b hb => hm.new b hb) he hwa)
  have C2 := hid (fun (q : Int) (w1 : World) (hb : Below w.heap.size w w1) => run_prim n q bv bn fs φ (Nm M φ wv) e ep mp w1 (hm.fr.up hb) (fun b h2 => hm.new b (Nat.le_trans hb.size h2)) he hwb)
  obtain ⟨va, hva⟩ : ∃ va, va = atomV fs e (av, an) := ⟨_, rfl⟩
  obtain ⟨vb, hvb⟩ : ∃ vb, vb = atomV fs e (bv, bn) := ⟨_, rfl⟩
  rw [← hva] at C hyp
  rw [← hvb] at C2 hyp
  have HP := hid hyp
  clear hm he ht hI hA hF hfe hfr hU hrow hwf hf hfS hfb hfm hpt hpt0 hfl hwa hwb hSa hva hvb hyp
  go_enter Try.func91, Try.ntmps91
  go_wp2
  go_region_held3 (fun w' => w'.cell? ⟨ep, 1, none⟩ = some (.map (some mp)) ∧ w'.cell? ⟨p.block, p.off + 1, none⟩ = some (.int .i64 x) ∧ w'.cell? ⟨p.block, p.off + 2, none⟩ = some (.int .i64 n) ∧ w'.cell? ⟨p.block, p.off + 5, none⟩ = some (.slice (some aa) 2 ac) ∧ w'.cell? aa = some (.bool av) ∧ w'.cell? ⟨aa.block, aa.off + 1, none⟩ = some (.int .i64 an) ∧ w'.cell? ⟨aa.block, aa.off + 2, none⟩ = some (.bool bv) ∧ w'.cell? ⟨aa.block, aa.off + 2 + 1, none⟩ = some (.int .i64 bn)) (first | with_reducible exact ⟨y1, x1, x2, x5, a0, a1, b0, b1⟩ | with_reducible exact ⟨z1, z2, z3, z4, z5, z6, z7, z8⟩ | go_keep) (first
    | (go_at_call 117; (refine C.out.mono ?_); unfold NumP; rw [HP.out.1]; rintro e9 w1 ⟨⟨rfl, hq9⟩, b1'⟩; have B1 := hid (below_hop b1' (drew_below w)); clear y1 x1 x2 x5 a0 a1 b0 b1; have y1 : w1.cell? ⟨ep, 1, none⟩ = some (.map (some mp)) := (B1.out.cell (p := ⟨ep, 1, none⟩) H.out.2.2.2.2.2.2).trans Y.out.1; have x1 : w1.cell? ⟨p.block, p.off + 1, none⟩ = some (.int .i64 x) := (B1.out.cell (p := ⟨p.block, p.off + 1, none⟩) H.out.2.2.2.2.2.1).trans Y.out.2.1; have x2 : w1.cell? ⟨p.block, p.off + 2, none⟩ = some (.int .i64 n) := (B1.out.cell (p := ⟨p.block, p.off + 2, none⟩) H.out.2.2.2.2.2.1).trans Y.out.2.2.1; have x5 : w1.cell? ⟨p.block, p.off + 5, none⟩ = some (.slice (some aa) 2 ac) := (B1.out.cell (p := ⟨p.block, p.off + 5, none⟩) H.out.2.2.2.2.2.1).trans Y.out.2.2.2.1; have a0 : w1.cell? aa = some (.bool av) := (B1.out.cell (p := aa) AL.out.1).trans AC.out.1; have a1 : w1.cell? ⟨aa.block, aa.off + 1, none⟩ = some (.int .i64 an) := (B1.out.cell (p := ⟨aa.block, aa.off + 1, none⟩) AL.out.1).trans AC.out.2.1; have b0 : w1.cell? ⟨aa.block, aa.off + 2, none⟩ = some (.bool bv) := (B1.out.cell (p := ⟨aa.block, aa.off + 2, none⟩) AL.out.2).trans AC.out.2.2.1; have b1 : w1.cell? ⟨aa.block, aa.off + 2 + 1, none⟩ = some (.int .i64 bn) := (B1.out.cell (p := ⟨aa.block, aa.off + 2 + 1, none⟩) AL.out.2).trans AC.out.2.2.2)
    | (go_at_call 116; (refine (C2.out q w1 B1.out).mono ?_); unfold OutP; rw [HP.out.2]; rintro e9 w2 ⟨⟨g, rfl, hg⟩, b2'⟩; have B2 := hid (below_hop b2' B1.out); have MU := hid (H.out.1.up B2.out); obtain ⟨w6, hrun, hput⟩ := run_putV (w := w2) (S := Nm M φ wv) (φ := φ) (B := mp) (vars := f.vars) (s := x) (u := r) (g := g) (MU.out.mapv HE.out H.out.2.1) (by have := HFL.out; unfold maxLen; omega) H.out.2.2.2.1.2.1 hg; have KP := hid (MU.out.put HE.out H.out.2.1 hput); clear hput hg; clear y1 x1 x2 x5 a0 a1 b0 b1; have y1 : w2.cell? ⟨ep, 1, none⟩ = some (.map (some mp)) := (B2.out.cell (p := ⟨ep, 1, none⟩) H.out.2.2.2.2.2.2).trans Y.out.1; have x1 : w2.cell? ⟨p.block, p.off + 1, none⟩ = some (.int .i64 x) := (B2.out.cell (p := ⟨p.block, p.off + 1, none⟩) H.out.2.2.2.2.2.1).trans Y.out.2.1; have x2 : w2.cell? ⟨p.block, p.off + 2, none⟩ = some (.int .i64 n) := (B2.out.cell (p := ⟨p.block, p.off + 2, none⟩) H.out.2.2.2.2.2.1).trans Y.out.2.2.1; have x5 : w2.cell? ⟨p.block, p.off + 5, none⟩ = some (.slice (some aa) 2 ac) := (B2.out.cell (p := ⟨p.block, p.off + 5, none⟩) H.out.2.2.2.2.2.1).trans Y.out.2.2.2.1; have a0 : w2.cell? aa = some (.bool av) := (B2.out.cell (p := aa) AL.out.1).trans AC.out.1; have a1 : w2.cell? ⟨aa.block, aa.off + 1, none⟩ = some (.int .i64 an) := (B2.out.cell (p := ⟨aa.block, aa.off + 1, none⟩) AL.out.1).trans AC.out.2.1; have b0 : w2.cell? ⟨aa.block, aa.off + 2, none⟩ = some (.bool bv) := (B2.out.cell (p := ⟨aa.block, aa.off + 2, none⟩) AL.out.2).trans AC.out.2.2.1; have b1 : w2.cell? ⟨aa.block, aa.off + 2 + 1, none⟩ = some (.int .i64 bn) := (B2.out.cell (p := ⟨aa.block, aa.off + 2 + 1, none⟩) AL.out.2).trans AC.out.2.2.2; have z1 : w6.cell? ⟨ep, 1, none⟩ = some (.map (some mp)) := after_put0 (a := ⟨ep, 1, none⟩) H.out.1 B2.out KP.out.2 Y.out.2.2.2.2.2.1 Y.out.1; have z2 : w6.cell? ⟨p.block, p.off + 1, none⟩ = some (.int .i64 x) := after_put0 (a := ⟨p.block, p.off + 1, none⟩) H.out.1 B2.out KP.out.2 Y.out.2.2.2.2.1 Y.out.2.1; have z3 : w6.cell? ⟨p.block, p.off + 2, none⟩ = some (.int .i64 n) := after_put0 (a := ⟨p.block, p.off + 2, none⟩) H.out.1 B2.out KP.out.2 Y.out.2.2.2.2.1 Y.out.2.2.1; have z4 : w6.cell? ⟨p.block, p.off + 5, none⟩ = some (.slice (some aa) 2 ac) := after_put0 (a := ⟨p.block, p.off + 5, none⟩) H.out.1 B2.out KP.out.2 Y.out.2.2.2.2.1 Y.out.2.2.2.1; have z5 : w6.cell? aa = some (.bool av) := after_put0 (a := aa) H.out.1 B2.out KP.out.2 AS.out AC.out.1; have z6 : w6.cell? ⟨aa.block, aa.off + 1, none⟩ = some (.int .i64 an) := after_put0 (a := ⟨aa.block, aa.off + 1, none⟩) H.out.1 B2.out KP.out.2 AS.out AC.out.2.1; have z7 : w6.cell? ⟨aa.block, aa.off + 2, none⟩ = some (.bool bv) := after_put0 (a := ⟨aa.block, aa.off + 2, none⟩) H.out.1 B2.out KP.out.2 ASB.out AC.out.2.2.1; have z8 : w6.cell? ⟨aa.block, aa.off + 2 + 1, none⟩ = some (.int .i64 bn) := after_put0 (a := ⟨aa.block, aa.off + 2 + 1, none⟩) H.out.1 B2.out KP.out.2 ASB.out AC.out.2.2.2; have z9 : w6.cell? ⟨p.block, p.off + 7, none⟩ = some (.slice (some ad) 1 uc) := after_put0 (a := ⟨p.block, p.off + 7, none⟩) H.out.1 B2.out KP.out.2 Y.out.2.2.2.2.1 Y.out.2.2.2.2.2.2))
  all_goals
    go_wp2
    go_ret
    exact DoP.go (KP.out.1.wide (by omega)) (H.out.2.2.2.2.1.keep (fun k hk hl => ⟨(KP.out.2.block k hk (by have := B2.out.size; omega)).1.trans (B2.out.block k hl), hk⟩)) ((KS.of_below B2.out).trans KP.out.2)
end Go.Proofs.Ytdmkjndlobichaa
