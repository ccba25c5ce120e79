/-
  THE WALK OF cpsrun's call: A FUNCTION IS ENTERED.
-/
import Derived.Test.YtdmkjndlobichaaKCall1
namespace Go.Proofs.Ytdmkjndlobichaa
set_option linter.all false
open Go.ChangeShapes Go.WideShapes Go.ChangeAt Go.RowKit Go.Maps
open Tm (Te Pv Fr lookV setV atomV bindP)
open Ev (Out)
attribute [local go_sem] Oper.semAt_some
def frW (w : World) (ep2 : Nat) : World := (w.alloc (.map #[] 0)).alloc (.cells #[.pointer (some ⟨ep2, 0, none⟩), .map (some w.heap.size)] 121)
theorem frW_below (w : World) (ep2 : Nat) : Below w.heap.size w (frW w ep2) := al2 w _ _
theorem Nm.snoc {M : Nat} {φ : List (Nat × Nat)} {wv : Value} {x y k : Nat} (h : Nm M φ wv k) (hk : k ≠ y) : Nm M (φ ++ [(x, y)]) wv k :=
  ⟨h.1, h.2.1, fun e p m he => by
    by_cases hl : e < φ.length
    · rw [List.getElem?_append_left hl] at he; exact h.2.2 e p m he
    · rw [List.getElem?_append_right (by omega)] at he
      cases hd : e - φ.length with
      | zero => rw [hd] at he; simp at he; omega
      | succ d => rw [hd] at he; simp at he⟩
theorem snoc_cases {φ : List (Nat × Nat)} {x y e p m : Nat} (he : (φ ++ [(x, y)])[e]? = some (p, m)) : (e < φ.length ∧ φ[e]? = some (p, m)) ∨ (e = φ.length ∧ p = x ∧ m = y) := by
  by_cases hl : e < φ.length
  · rw [List.getElem?_append_left hl] at he; exact .inl ⟨hl, he⟩
  · rw [List.getElem?_append_right (by omega)] at he
    cases hd : e - φ.length with
    | zero => rw [hd] at he; simp at he; exact .inr ⟨by omega, he.1.symm, he.2.symm⟩
    | succ d => rw [hd] at he; simp at he
/-- A frame more. -/
theorem MK.push {w : World} {M F s : Nat} {ws : List Int} {wv : Value} {φ : List (Nat × Nat)} {fs : List Fr} {N e2 ep2 mp2 : Nat} (h : MK w M F s ws wv φ fs N) (hep : φ[e2]? = some (ep2, mp2)) :
    MK (frW w ep2) M F s ws wv (φ ++ [(w.heap.size + 1, w.heap.size)]) (fs ++ [⟨some e2, []⟩]) N ∧ KS M φ (φ ++ [(w.heap.size + 1, w.heap.size)]) wv wv w (frW w ep2) := by
  have hb := frW_below w ep2
  have hx : Ext φ (φ ++ [(w.heap.size + 1, w.heap.size)]) := ⟨_, rfl⟩
  have hM := h.blk.lt
  have kk : ∀ k, Nm M φ wv k → k < w.heap.size → (frW w ep2).heap[k]? = w.heap[k]? ∧ Nm M (φ ++ [(w.heap.size + 1, w.heap.size)]) wv k := fun k hk hl => ⟨hb.block k hl, hk.snoc (by omega)⟩
  have hl9 := h.fr.1
  refine ⟨⟨h.blk.below hb hM, row_keepX h.row (fun g e => hb.block g (h.row.lt g e).2), h.len, ⟨by simp [hl9], fun e p m he => ?_⟩, fun i j p q m hi hj => ?_, fun e p m he => ?_, fun f hf => ?_, h.hF, h.hs⟩, ⟨hb.os, hb.tape, hb.output, hb.size, kk, hx⟩⟩
  · rcases snoc_cases he with ⟨hl, he2⟩ | ⟨rfl, rfl, rfl⟩
    · obtain ⟨f, h1, h2, ⟨ua, h3, h4⟩, h5⟩ := h.fr.2 e p m he2
      refine ⟨f, by rw [List.getElem?_append_left (by omega)]; exact h1, (kk p h2 h3.lt).2, ⟨ua, h3.below hb h3.lt, ?_⟩, h5.keep hx (hb.block m h5.lt) kk⟩
      rcases h4 with h4 | ⟨u, q, n, a1, a2, a3, a4⟩
      · exact .inl h4
      · exact .inr ⟨u, q, n, a1, a2, hx.get a3, a4⟩
    · refine ⟨⟨some e2, []⟩, by rw [hl9, List.getElem?_append_right (by omega)]; simp, ?_, ⟨_, Blk.new' (by simp) _ _, .inr ⟨e2, ep2, mp2, rfl, (List.getElem?_eq_some_iff.1 hep).1, hx.get hep, rfl⟩⟩, ?_⟩
      · exact (h.new _ (by omega)).snoc (by omega)
      · exact (MapV.made w (Nm M (φ ++ [(w.heap.size + 1, w.heap.size)]) wv) _).keep (Ext.refl _) (Below.heap_alloc _ _ _ (by simp)) (fun k hk hl => ⟨Below.heap_alloc _ _ _ hl, hk⟩)
  · rcases snoc_cases hi with ⟨hl, hi2⟩ | ⟨rfl, rfl, rfl⟩
    · rcases snoc_cases hj with ⟨hl3, hj2⟩ | ⟨rfl, rfl, rfl⟩
      · exact h.dis i j p q m hi2 hj2
      · have := h.fr.mlt hi2; omega
    · rcases snoc_cases hj with ⟨hl3, hj2⟩ | ⟨rfl, rfl, _⟩
      · have := h.fr.mlt hj2; omega
      · rfl
  · rcases snoc_cases he with ⟨hl, he2⟩ | ⟨rfl, rfl, rfl⟩
    · exact h.low e p m he2
    · exact ⟨hM, fun e => by have := h.row.lt _ e; omega⟩
  · rcases List.mem_append.1 hf with hf | hf
    · exact h.ent f hf
    · simp at hf; subst hf; simp
theorem bind_step {ps : List Int} {vs : List Pv} {l : List (Int × Pv)} {j : Nat} (h1 : j < ps.length) (h2 : j < vs.length) : bindP (ps.drop j) (vs.drop j) l = bindP (ps.drop (j + 1)) (vs.drop (j + 1)) ((ps[j], vs[j]) :: l) := by
  rw [List.drop_eq_getElem_cons h1, List.drop_eq_getElem_cons h2, bindP]
theorem bind_end {ps : List Int} {vs : List Pv} {l : List (Int × Pv)} : bindP (ps.drop ps.length) (vs.drop ps.length) l = l := by rw [List.drop_length]; rw [bindP.eq_def]
theorem mod_snoc {α : Type} (f : α → α) : ∀ (l : List α) (y : α), (l ++ [y]).modify l.length f = l ++ [f y]
  | [], y => rfl
  | a :: l, y => by
    show a :: (l ++ [y]).modify l.length f = _
    rw [mod_snoc f l y]
    rfl
theorem setV_snoc {fs : List Fr} {up : Option Nat} {l : List (Int × Pv)} {x : Int} {v : Pv} : setV (fs ++ [⟨up, l⟩]) fs.length x v = fs ++ [⟨up, (x, v) :: l⟩] := by
  unfold setV
  exact mod_snoc _ fs _
theorem AtAt.tail {w : World} {S : Nat → Prop} {a : Bool × Int} {rest : List (Bool × Int)} {aa : Addr} {c : Nat} (h : AtAt w S (a :: rest) (some aa) c) : AtAt w S rest (if c = 1 then some aa else some ⟨aa.block, aa.off + 2, none⟩) (c - 1) := by
  have h1 := h.1.1
  have h2 := h.1.2.1
  have h4 := h.1.2.2.2
  rw [List.length_cons] at h1 h4
  refine ⟨⟨by omega, by omega, ?_, by omega⟩, fun j hj => ?_⟩
  · intro e
    split at e <;> cases e
  rw [if_neg (by omega)]
  obtain ⟨ad, e1, e2, e3, e4, e5⟩ := h.2 (j + 1) (by simpa using hj)
  injection e1 with e1
  subst e1
  have e9 : (⟨aa.block, aa.off + 2, none⟩ : Addr).add (j * 2) = aa.add ((j + 1) * 2) := by
    unfold Addr.add
    rw [if_neg (show ¬ (j + 1) * 2 = 0 by omega)]
    split
    · rename_i h9
      obtain rfl : j = 0 := by omega
      simp
    · simp; omega
  refine ⟨_, rfl, e2, ?_, ?_, e5⟩
  · rw [e9]; simpa using e3
  · rw [e9]; simpa using e4
set_option maxHeartbeats 16000000 in
set_option maxRecDepth 100000 in
theorem call_ok (x n : Int) (i : Bool) (ts : List Int) (av : Bool) (an : Int) (rest : List (Bool × Int)) (fh : List (Int × List Int)) (fb us : List Te) (M F s : Nat) (ws : List Int) (wv : Value) (φ : List (Nat × Nat)) (fs : List Fr) (N e ep mp : Nat) (p : Addr) (w : World) (hm : MK w M F s ws wv φ fs N) (hsF : s + 1 ≤ F) (hl : rest.length ≤ 16) (he : φ[e]? = some (ep, mp)) (ht : TPt w (Nm M φ wv) p (.mk 5 x n i ts ((av, an) :: rest) fh fb us)) (va : Pv) (hva : va = atomV fs e (av, an)) (ps : List Int) (b : Te) (e2 : Nat) (hk : va = .fn ps b e2) (hne : ps.length = rest.length) (vs : List Pv) (hus : vs = rest.map (atomV fs e)) (hN : N ≤ 1000000000000000) :
    Calls Try.prog 90 #[.pointer (some ⟨M, 0, none⟩), .pointer (some p), .pointer (some ⟨ep, 0, none⟩)] w (CallP (some (b, fs ++ [⟨some e2, bindP ps vs []⟩])) M F (s + 1) ws φ wv (N + 65536) w) := by
  obtain ⟨T, tc, A, ac, F9, fc, U, uc, ⟨x0, x1, x2, x3, x4, x5, x6, x7⟩, hI, hA, hF, hfe, hfr, hU, hrow, hwf⟩ := ht.cells
  obtain ⟨aa, hAa, hSa, a0, a1, hwa⟩ := hA.2 0 (by simp)
  subst hAa
  have e1 : aa.add 0 = aa := by unfold Addr.add; simp
  rw [Nat.zero_mul, e1] at a0 a1
  have a0 : w.cell? aa = some (.bool av) := a0
  have a1 : w.cell? ⟨aa.block, aa.off + 1, none⟩ = some (.int .i64 an) := a1
  have hwa : (Lit.int .i64 an).wf = true := hwa
  have x5 : w.cell? ⟨p.block, p.off + 5, none⟩ = some (.slice (some aa) (rest.length + 1) ac) := by rw [x5, List.length_cons]
  have hrl : ((rest.length + 1 : Nat) : Int) = (rest.length : Int) + 1 := by omega
  have m0 : w.cell? ⟨M, 0, none⟩ = some (.int .i64 F) := hm.blk.cell 0
  have m1 : w.cell? ⟨M, 1, none⟩ = some (.int .i64 s) := hm.blk.cell 1
  have hF9 : F ≤ 1048576 := hm.hF
  have d0 : decide ((s : Int) = (F : Int)) = false := decide_eq_false (by omega)
  have H := hid (And.intro hm (And.intro ht.1 (And.intro hSa (And.intro hA (And.intro he hwa)))))
  have X := hid (And.intro x5 (And.intro a0 a1))
  clear hm ht hI hA hF hfe hfr hU hrow hwf hSa x0 x1 x2 x3 x4 x6 x7
  go_enter Try.func90, Try.ntmps90
  go_wp2
  go_quiet (fail)
  rename_i nq
  have B2 := hid (below_drewN (Below.refl w.heap.size w) nq)
  generalize w.drewN nq = w2 at B2 ⊢
  have M2 := hid (H.out.1.up B2.out)
  have m1' : w2.cell? ⟨M, 1, none⟩ = some (.int .i64 s) := M2.out.blk.cell 1
  have fz := M2.out.blk.frozen 1
  have TK := hid (M2.out.tick2 hsF)
  clear m0 m1 x5 a0 a1
  have K3 := hid ((KS.of_below (M := M) (φ := φ) (wv := wv) B2.out).trans TK.out.2)
  have x5 := K3.out.cell (a := ⟨p.block, p.off + 5, none⟩) H.out.2.1 X.out.1
  have a0 := K3.out.cell (a := aa) H.out.2.2.1 X.out.2.1
  have a1 := K3.out.cell (a := ⟨aa.block, aa.off + 1, none⟩) H.out.2.2.1 X.out.2.2
  have C := hid (run_atom av an fs φ (Nm M φ wv) e ep mp _ TK.out.1.fr TK.out.1.new he hwa)
  rw [← hva] at C
  clear he hwa hva
  subst hk
  have hr9 : rest.length ≤ 281474976710656 := by omega
  have q1 : IntKind.i64.wrap (rest.length : Int) = rest.length := IntWalk.i64_in _ (by omega)
  have d2 : ((ps.length : Int) == (rest.length : Int)) = true := by rw [beq_iff_eq]; omega
  have hul : vs.length = rest.length := by rw [hus, List.length_map]
  go_wp2_with (go_at_call 113; (refine C.out.mono ?_); rintro e9 w4 ⟨⟨q, rfl, hq⟩, b1⟩; have hq2 := hq; rw [PAt] at hq2; obtain ⟨hq3, fa, ep2, mp2, P, pc, hb9, hep2, hfS, f1, hI1, hT1⟩ := hq2; have hpl : ps.length ≤ 17592186044416 := hI1.1.2.2.2; have G := hid b1; have HQ := hid (And.intro hq3 (And.intro hb9 (And.intro hep2 (And.intro hfS (And.intro f1 (And.intro hI1 hT1)))))); have q0 : w4.cell? ⟨q, 0, none⟩ = some (.int .i64 3) := hb9.cell 0; have q3 : w4.cell? ⟨q, 3, none⟩ = some (.pointer (some fa)) := hb9.cell 3; clear x5; have x5 : w4.cell? ⟨p.block, p.off + 5, none⟩ = some (.slice (some aa) (rest.length + 1) ac) := K3.out.then_cell b1 H.out.2.1 X.out.1; clear hq b1 hb9 hI1 hT1 hep2)
  have hpl2 : ps.length ≤ 281474976710656 := by omega
  go_quiet ((go_at_call 114; exact Calls.quiet_of_same (want_yes _)))
  have B5 := hid (below_hop (below_drewN (Below.refl w4.heap.size w4) nq) G.out)
  have B54 := hid (below_drewN (Below.refl w4.heap.size w4) nq)
  generalize w4.drewN nq = w5 at B5 B54 ⊢
  have M5 := hid (TK.out.1.up B5.out)
  have PU := hid (M5.out.push HQ.out.2.2.1)
  have K4 := hid (K3.out.trans (KS.of_below (M := M) (φ := φ) (wv := wv) G.out))
  have K6 := hid ((KS.of_below (M := M) (φ := φ) (wv := wv) B54.out).trans PU.out.2)
  have q4 : w5.cell? ⟨q, 4, none⟩ = some (.pointer (some ⟨ep2, 0, none⟩)) := (B54.out.cell (p := ⟨q, 4, none⟩) HQ.out.2.1.lt).trans (HQ.out.2.1.cell 4)
  have x5' : w5.cell? ⟨p.block, p.off + 5, none⟩ = some (.slice (some aa) (rest.length + 1) ac) := K3.out.then_cell B5.out H.out.2.1 X.out.1
  have AL := H.out.2.2.2.1.1
  have x5'' : ((w5.alloc (.map #[] 0)).alloc (.cells #[.pointer (some ⟨ep2, 0, none⟩), .map (some w5.heap.size)] 121)).cell? ⟨p.block, p.off + 5, none⟩ = some (.slice (some aa) (rest.length + 1) ac) := ((frW_below w5 ep2).cell (p := ⟨p.block, p.off + 5, none⟩) (cell_lt (a := ⟨p.block, p.off + 5, none⟩) x5')).trans x5'
  have hmm := @run_makeMap Try.prog
  have hA6 : AtAt (frW w5 ep2) (Nm M (φ ++ [(w5.heap.size + 1, w5.heap.size)]) wv) ((av, an) :: rest) (some aa) ac := H.out.2.2.2.1.keep (fun k hk hl => ⟨((K4.out.trans K6.out).block k hk hl).1, ((K4.out.trans K6.out).block k hk hl).2⟩)
  have C3 := hid (run_atoms rest _ _ fs φ (Nm M (φ ++ [(w5.heap.size + 1, w5.heap.size)]) wv) e ep mp (frW w5 ep2) hA6.tail (M5.out.fr.keep (w' := frW w5 ep2) (fun e p m he => (frW_below w5 ep2).block m (M5.out.fr.mlt he)) (fun k hk hl => PU.out.2.block k hk hl)) PU.out.1.new H.out.2.2.2.2.1 (by omega))
  rw [← hus] at C3
  obtain ⟨nf, hnf⟩ : ∃ nf, nf = w5.heap.size + 1 := ⟨_, rfl⟩
  obtain ⟨nm, hnm⟩ : ∃ nm, nm = w5.heap.size := ⟨_, rfl⟩
  obtain ⟨ψ, hψ⟩ : ∃ ψ, ψ = φ ++ [(nf, nm)] := ⟨_, rfl⟩
  have hx : Ext φ ψ := ⟨_, hψ⟩
  have hψe : ψ[φ.length]? = some (nf, nm) := by rw [hψ, List.getElem?_append_right (Nat.le_refl _)]; simp
  have hfl : φ.length = fs.length := M5.out.fr.1
  rw [hfl] at hψe
  have PSI := hid (And.intro hψ (And.intro hx hψe))
  rw [← hnf, ← hnm, ← hψ] at C3 PU K6
  clear q0 q3 x5 f1 a0 a1 hus hA6 hψ hx hψe AL
  go_wp2_with (go_at_call 115; go_must ((refine C3.out.mono ?_); rintro e9 w7 ⟨⟨A7, c7, rfl, hr1, hr2, hr3, hr4⟩, b7⟩; have K7 := hid (K6.out.trans (KS.of_below (M := M) (φ := ψ) (wv := wv) b7)); have M7 := hid (PU.out.1.up b7); have R7 := hid (PRow.keep (T := Nm M ψ wv) PSI.out.2.1 (fun k hk hl => ⟨rfl, hk⟩) _ _ _ hr4); rw [hul]; have hc7 : rest.length ≤ c7 := (by omega); clear b7 hr4 hr1 C C3))
  all_goals
    subst hnf hnm
    clear x5' x5'' q4 hmm hr2
    go_loopg [77] rest.length (fun g z wr => ∃ (j : Nat) (lj : List (Int × Pv)), j + g = rest.length ∧ z = .int .i64 j ∧ Hid (MK wr M F (s + 1) ws wv ψ (fs ++ [⟨some e2, lj⟩]) (N + j)) ∧ Hid (KS M ψ ψ wv wv w7 wr) ∧ Hid (bindP (ps.drop j) (vs.drop j) lj = bindP ps vs []))
    case atStart => exact ⟨0, [], by omega, rfl, M7, hid (KS.refl _ _ _ _), hid (by simp)⟩
    case round =>
      obtain ⟨j, lj, hj, rfl, hM, hK, hX⟩ := hrel
      have Hj := hid hj
      clear hj
      have KK := hid (K7.out.trans hK.out)
      have q3 : wr.cell? ⟨q, 3, none⟩ = some (.pointer (some fa)) := KK.out.cell (a := ⟨q, 3, none⟩) HQ.out.1 (HQ.out.2.1.cell 3)
      have f1 : wr.cell? ⟨fa.block, fa.off + 1, none⟩ = some (.slice P ps.length pc) := KK.out.cell (a := ⟨fa.block, fa.off + 1, none⟩) HQ.out.2.2.2.1 HQ.out.2.2.2.2.1
      have hI : IAt wr (Nm M ψ wv) ps P pc := HQ.out.2.2.2.2.2.1.keep (fun k hk hl => KK.out.block k hk hl)
      by_cases hlt : j < rest.length
      · have hlt' : (j : Int) < rest.length := by omega
        have hlt2 : j < ps.length := by omega
        have hlt3 : j < vs.length := by omega
        have hlt4 : (j : Int) < ps.length := by omega
        obtain ⟨f, ua, hf, hfS2, hfb, hfm, hfl2⟩ := hM.out.frame_ PSI.out.2.2
        have hf9 : f = ⟨some e2, lj⟩ := by rw [List.getElem?_append_right (Nat.le_refl _)] at hf; simpa using hf.symm
        have y1 : wr.cell? ⟨w5.heap.size + 1, 1, none⟩ = some (.map (some w5.heap.size)) := hfb.cell 1
        obtain ⟨pad, rfl, hPS, p0, pwf⟩ := hI.2 j hlt2
        obtain ⟨vad, g9, rfl, hVS, v0, hv⟩ := (PRow.keep (T := Nm M ψ wv) (Ext.refl ψ) (fun k hk hl => hK.out.block k hk hl) _ _ _ R7.out).get hlt3
        rw [Nat.zero_add] at v0
        obtain ⟨pn, hpn⟩ : ∃ pn, pn = ps[j] := ⟨_, rfl⟩
        obtain ⟨vn, hvn⟩ : ∃ vn, vn = vs[j] := ⟨_, rfl⟩
        rw [← hpn] at p0 pwf
        rw [← hvn] at hv
        have hbx := bind_step (l := lj) hlt2 hlt3
        rw [← hpn, ← hvn] at hbx
        have HX := hid hbx
        clear hbx hpn hvn
        have MU := hid (hM.out.up (drew_below wr))
        obtain ⟨w6, hrun, hput⟩ := run_putV (w := wr.drew) (S := Nm M ψ wv) (φ := ψ) (B := w5.heap.size) (vars := f.vars) (s := pn) (u := vn) (g := g9) (MU.out.mapv PSI.out.2.2 hf) (by have := Hj.out; have := hl; unfold maxLen; omega) pwf (hv.up (drew_below wr))
        have KP := hid (MU.out.put PSI.out.2.2 hf hput)
        have HS := hid (And.intro hfS2 (And.intro hPS hVS))
        clear hput hf hfS2 hfb hfm hfl2 hv pwf hPS hVS hI
        subst hf9
        have k6 : ∀ (a : Addr) (v : Value), Nm M ψ wv a.block → wr.cell? a = some v → w6.cell? a = some v := fun a v hS hc => KP.out.2.cell hS (((drew_below wr).cell (p := a) (cell_lt hc)).trans hc)
        have z1 := k6 ⟨w5.heap.size + 1, 1, none⟩ _ HS.out.1 y1
        have z2 := k6 ⟨q, 3, none⟩ _ (K7.out.block q HQ.out.1 HQ.out.2.1.lt).2 q3
        have z3 := k6 ⟨fa.block, fa.off + 1, none⟩ _ (K7.out.block fa.block HQ.out.2.2.2.1 (cell_lt (a := ⟨fa.block, fa.off + 1, none⟩) HQ.out.2.2.2.2.1)).2 f1
        have z4 := k6 (pad.add j) _ (by rw [add_block]; exact HS.out.2.1) p0
        clear k6
        go_wp2
        go_region_held3 (fun w' => w'.cell? ⟨w5.heap.size + 1, 1, none⟩ = some (.map (some w5.heap.size)) ∧ w'.cell? ⟨q, 3, none⟩ = some (.pointer (some fa)) ∧ w'.cell? ⟨fa.block, fa.off + 1, none⟩ = some (.slice (some pad) ps.length pc) ∧ w'.cell? (pad.add j) = some (.int .i64 pn)) (first | with_reducible exact ⟨y1, q3, f1, p0⟩ | with_reducible exact ⟨z1, z2, z3, z4⟩ | go_keep) (fail)
        all_goals
          have hgk := Hj.out
          go_wp2
          go_roundg (gk - 1)
          case rel => exact ⟨j + 1, _, by omega, by go_num, hid (setV_snoc ▸ KP.out.1), hid (hK.out.trans ((KS.of_below (drew_below wr)).trans KP.out.2)), hid (HX.out.symm.trans hX.out)⟩
          case measure => omega
      · obtain rfl : j = rest.length := by have := Hj.out; omega
        clear hI
        go_wp2
        go_ret2
        have hx9 := hX.out
        rw [← hne, bind_end] at hx9
        subst hx9
        refine ⟨_, w5.heap.size + 1, w5.heap.size, rfl, ?_⟩
        rw [← PSI.out.1]
        exact ⟨hM.out.wide (by omega), HQ.out.2.2.2.2.2.2.keep (fun k hk hl => KK.out.block k hk hl), K4.out.trans KK.out⟩
/-- A call. -/
theorem run_call (t : Te) (h5 : Tm.kind t = 5) (M F s : Nat) (ws : List Int) (wv : Value) (φ : List (Nat × Nat)) (fs : List Fr) (N e ep mp : Nat) (p : Addr) (w : World) (r : Option (Te × List Fr)) (hd : Tm.callF e t fs = some r) (hm : MK w M F s ws wv φ fs N) (hsF : s + 1 ≤ F) (hN : N ≤ 1000000000000000) (he : φ[e]? = some (ep, mp)) (ht : TPt w (Nm M φ wv) p t) :
    Calls Try.prog 90 #[.pointer (some ⟨M, 0, none⟩), .pointer (some p), .pointer (some ⟨ep, 0, none⟩)] w (CallP r M F (s + 1) ws φ wv (N + 65536) w) := by
  obtain ⟨k, x, n, i, ts, ats, fh, fb, us⟩ := t
  obtain rfl : k = 5 := h5
  rw [Tm.callF] at hd
  unfold Tm.callK at hd
  split at hd
  · rename_i a rest
    obtain ⟨av, an⟩ := a
    split at hd
    · rename_i hl
      cases hv : atomV fs e (av, an) with
      | zero => rw [hv] at hd; injection hd with hd; subst hd; exact call_a x n i ts av an rest fh fb us M F s ws wv φ fs N e ep mp p w hm hsF hl he ht .zero hv.symm rfl
      | num m => rw [hv] at hd; injection hd with hd; subst hd; exact call_a x n i ts av an rest fh fb us M F s ws wv φ fs N e ep mp p w hm hsF hl he ht (.num m) hv.symm rfl
      | con c vs => rw [hv] at hd; injection hd with hd; subst hd; exact call_a x n i ts av an rest fh fb us M F s ws wv φ fs N e ep mp p w hm hsF hl he ht (.con c vs) hv.symm rfl
      | fn ps b e2 =>
        rw [hv] at hd
        simp only at hd
        split at hd
        · rename_i hne
          injection hd with hd
          subst hd
          exact call_ok x n i ts av an rest fh fb us M F s ws wv φ fs N e ep mp p w hm hsF hl he ht (.fn ps b e2) hv.symm ps b e2 rfl hne _ rfl hN
        · rename_i hne
          injection hd with hd
          subst hd
          exact call_b x n i ts av an rest fh fb us M F s ws wv φ fs N e ep mp p w hm hsF hl he ht (.fn ps b e2) hv.symm ps b e2 rfl hne
    · cases hd
  · cases hd
end Go.Proofs.Ytdmkjndlobichaa
