/-
  THE WALK OF cpsrun.machine.whole.
-/
import Derived.Test.YtdmkjndlobichaaKWholeP
namespace Go
theorem wp_scope_gas2 {P : Program} {a : Act} {w : World} {Q : Exit → Act → World → Prop} {c rest : Code} (l : Nat) (J : Nat → Act → World → Prop) (n0 : Nat) (hf : findLabel c l = some (Code.skip.seq rest))
    (pass : ∀ (K : Act → World → Prop) n a w, J n a w → (∀ _a _w n', n' < n → J n' _a _w → K _a _w) → rest.wp P (Exit.jump l K Q) a w)
    (first : ∀ K : Act → World → Prop, (∀ a w, J n0 a w → rest.wp P (Exit.jump l K Q) a w) → c.wp P (Exit.jump l K Q) a w) : (Code.scope c).wp P Q a w :=
  wp_scope_gas l J hf (first _ (fun a w h => pass _ n0 a w h (fun _ _ n' _ hj => ⟨n', hj⟩))) (fun n a w h => wp_seq (wp_skip (pass _ n a w h (fun _ _ n' hn hj => ⟨n', hn, hj⟩))))
theorem wp_seq_named {P : Program} {a : Act} {w : World} {Q : Exit → Act → World → Prop} {c1 c2 : Code} (h : ∀ C : Act → World → Prop, (∀ a w, c2.wp P Q a w → C a w) → c1.wp P (Exit.then C Q) a w) : (c1.seq c2).wp P Q a w :=
  wp_seq (h _ (fun _ _ h => h))
end Go
namespace Go.Proofs.Ytdmkjndlobichaa
set_option linter.all false
open Go.ChangeShapes Go.WideShapes Go.ChangeAt Go.RowKit Go.Maps
open Tm (Te Pv Fr)
/-- What whole hands back. -/
def WholeK (F : Nat) (r : Int × List Int × List Int × Nat) (M : Nat) (φ : List (Nat × Nat)) (wv : Value) (w : World) (e : Ending) (w' : World) : Prop :=
  e = .returned (.agg #[.int .i64 (if r.1 < 0 then 0 else r.1), .bool (decide (r.1 < 0))]) ∧ HaltP M F r.2.2.2 r.1 r.2.1 r.2.2.1 φ wv w w'
/-- What holds at the label. -/
def WJ (F : Nat) (r : Int × List Int × List Int × Nat) (M g0 : Nat) (φ0 : List (Nat × Nat)) (wv0 : Value) (w0 : World) (n : Nat) (a : Act) (w : World) : Prop :=
  ∃ (t : Te) (e : Nat) (fs : List Fr) (ws : List Int) (wv : Value) (φ : List (Nat × Nat)) (N s ep mp : Nat) (p : Addr) (u3 u4 u5 u8 u9 u10 u11 u12 u13 u14 u15 u16 u17 u18 u19 u20 u21 u22 u23 : Value),
    a = { tmps := #[.pointer (some ⟨M, 0, none⟩), .pointer (some p), .pointer (some ⟨ep, 0, none⟩), u3, u4, u5, .pointer (some ⟨g0, 0, none⟩), .func (.func 89) #[] #[.pointer (some ⟨g0, 0, none⟩)], u8, u9, u10, u11, u12, u13, u14, u15, u16, u17, u18, u19, u20, u21, u22, u23], defers := [{ target := .fn (.func 89) #[.pointer (some ⟨g0, 0, none⟩)], args := #[] }] } ∧
    Hid (Tm.run F n t e fs s ws = some r ∧ N + 65536 * n ≤ 1000000000000000 ∧ MK w M F s ws wv φ fs N ∧ φ[e]? = some (ep, mp) ∧ TPt w (Nm M φ wv) p t ∧ Blk w g0 115 #[.int .i64 0, .bool false] ∧ Nm M φ wv g0 ∧ KS M φ0 φ wv0 wv w0 w ∧ w0.heap.size ≤ g0)
theorem row_ne {w : World} {B n : Nat} {v : Value} {xs : List Value} {sz g0 : Nat} {cs : Array Value} (h : w.ownsRow B 3 sz v n xs) (hb : Blk w g0 115 cs) : v.ownBlock ≠ some g0 := by
  intro e
  rcases h.2 with h2 | ⟨g, cap, cur, rfl, hB, hg, rest⟩
  · rw [h2.1] at e; simp [Value.ownBlock] at e
  · simp [Value.ownBlock] at e
    subst e
    have hb' : w.heap[g]? = some (.cells cs 115 (0, 0)) := hb
    rw [hb'] at hg
    simp at hg
theorem halt_then {M F s : Nat} {k : Int} {ws ss : List Int} {φ φ0 : List (Nat × Nat)} {wv wv0 : Value} {w0 w w1 w2 : World} {g0 : Nat} {e0 : Int} {st : Bool} {cs : Array Value} (h : HaltP M F s k ws ss φ wv w w1) (hk : KS M φ0 φ wv0 wv w0 w) (hb : Blk w g0 115 cs) (hn : Nm M φ wv g0) (hc : CaughtK g0 e0 st w1 w2) (hg : w0.heap.size ≤ g0) : HaltP M F s k ws ss φ0 wv0 w0 w2 := by
  obtain ⟨wv', sv', l, h1, h2, h4, h5, h6, h7, h8, h9, h10⟩ := h
  have b1 : Blk w1 g0 115 cs := (h10 g0 hn hb.lt).trans hb
  have nM : M ≠ g0 := h1.ne_ b1 (by decide)
  refine ⟨wv', sv', l, (hc.block M h1.lt nM).trans h1, row_keepX h2 (fun g e => hc.block g (h2.lt g e).2 (fun e2 => row_ne h2 b1 (e2 ▸ e))), row_keepX h4 (fun g e => hc.block g (h4.lt g e).2 (fun e2 => row_ne h4 b1 (e2 ▸ e))), h5, hc.os.trans (h6.trans hk.os), hc.tape.trans (h7.trans hk.tape), hc.output.trans (h8.trans hk.output), Nat.le_trans hk.size (Nat.le_trans h9 hc.size), fun b hb2 hl => ?_⟩
  obtain ⟨k1, k2⟩ := hk.block b hb2 hl
  have hl1 := Nat.lt_of_lt_of_le hl hk.size
  exact (hc.block b (Nat.lt_of_lt_of_le hl1 h9) (by omega)).trans ((h10 b k2 hl1).trans k1)
set_option maxRecDepth 100000 in
theorem whole_door {M F s : Nat} {k : Int} {ws ss : List Int} {φ φ0 : List (Nat × Nat)} {wv wv0 : Value} {w0 w w1 : World} {g0 : Nat} (h : HaltP M F s k ws ss φ wv w w1) (hk : KS M φ0 φ wv0 wv w0 w) (hb : Blk w g0 115 #[.int .i64 0, .bool false]) (hn : Nm M φ wv g0) (hg : w0.heap.size ≤ g0) {r : Int × List Int × List Int × Nat} (hr : r = (k, ws, ss, s)) (tmps : Array Value) (h6 : tmps[6]? = some (.pointer (some ⟨g0, 0, none⟩))) :
    Leaves Try.prog Try.f54 tmps (WholeK F r M φ0 wv0 w0) [{ target := .fn (.func 89) #[.pointer (some ⟨g0, 0, none⟩)], args := #[] }] (.panicking [stopK k]) w1 := by
  subst hr
  have b1 : Blk w1 g0 115 #[.int .i64 0, .bool false] := by
    obtain ⟨wv', sv', l, h1, h2, h4, h5, h6, h7, h8, h9, h10⟩ := h
    exact (h10 g0 hn hb.lt).trans hb
  refine leaves_cons (by simp) (f := 89) (args := #[.pointer (some ⟨g0, 0, none⟩)]) (by simp [go_sem]) ((catchK g0 (if k < 0 then 0 else k) 0 (decide (k < 0)) false w1 b1).mono ?_)
  rintro e u' w2 ⟨rfl, hu, hc⟩
  show Leaves _ _ _ _ [] (settle u') w2
  rw [hu]
  have y0 : w2.cell? ⟨g0, 0, none⟩ = some (.int .i64 (if k < 0 then 0 else k)) := hc.res.cell 0
  have y1 : w2.cell? ⟨g0, 1, none⟩ = some (.bool (decide (k < 0))) := hc.res.cell 1
  refine ⟨.agg #[.int .i64 (if k < 0 then 0 else k), .bool (decide (k < 0))], ?_, rfl, halt_then h hk hb hn hc hg⟩
  generalize (if k < 0 then 0 else k) = k1 at y0 ⊢
  generalize decide (k < 0) = d at y1 ⊢
  simp [results, Try.results54, go_sem, Array.getD_eq_getD_getElem?, h6, y0, y1]
set_option maxHeartbeats 8000000 in
set_option maxRecDepth 100000 in
theorem run_whole (F n : Nat) (r : Int × List Int × List Int × Nat) (t : Te) (e : Nat) (fs : List Fr) (ws : List Int) (wv : Value) (φ : List (Nat × Nat)) (N M s ep mp : Nat) (p : Addr) (w : World) (hr : Tm.run F n t e fs s ws = some r) (hN : N + 65536 * n ≤ 1000000000000000) (hm : MK w M F s ws wv φ fs N) (he : φ[e]? = some (ep, mp)) (ht : TPt w (Nm M φ wv) p t) :
    Calls Try.prog 54 #[.pointer (some ⟨M, 0, none⟩), .pointer (some p), .pointer (some ⟨ep, 0, none⟩)] w (WholeK F r M φ wv w) := by
  have HM := hid (And.intro hr (And.intro hN (And.intro hm (And.intro he ht))))
  have hMl := hm.blk.lt
  clear hr hN hm he ht
  refine calls_of_wp_defers Try.func54 rfl ?_
  simp only [Try.ntmps54, List.size_toArray, List.length_cons, List.length_nil, Nat.reduceAdd, Nat.reduceSub, Array.replicate_succ, Array.replicate_zero, List.push_toArray, List.append_toArray, List.nil_append, List.cons_append]
  go_wp2
  have B1 : Below w.heap.size w (w.alloc (.cells #[.int .i64 0, .bool false] 115)) := by go_grown
  have G0 : Blk (w.alloc (.cells #[.int .i64 0, .bool false] 115)) w.heap.size 115 #[.int .i64 0, .bool false] := Blk.new _ _ _
  have START := hid (And.intro B1 G0)
  clear B1 G0
  refine wp_scope_gas2 0 (WJ F r M w.heap.size φ wv w) n rfl ?_ ?_
  · intro K n a W hJ hK
    obtain ⟨t, e, fs, ws, wv2, φ2, N2, s, ep, mp, p, u3, u4, u5, u8, u9, u10, u11, u12, u13, u14, u15, u16, u17, u18, u19, u20, u21, u22, u23, rfl, H⟩ := hJ
    have HK := hid hK
    clear hK
    have hp := H.out.2.2.2.2.1
    obtain ⟨k, x, n9, i, ts, ats, fh, fb, us⟩ := t
    obtain ⟨T, tc, A, ac, F9, fc, U, uc, ⟨x0, x1, x2, x3, x4, x5, x6, x7⟩, _⟩ := hp.cells
    clear hp x1 x2 x3 x4 x5 x6 x7
    cases n with
    | zero => have h9 := H.out.1; rw [Tm.run] at h9; cases h9
    | succ n =>
      have hR := H.out.1
      rw [Tm.run] at hR
      by_cases h5 : Tm.kind (.mk k x n9 i ts ats fh fb us) = 5
      · rw [if_pos h5] at hR
        obtain rfl : k = 5 := h5
        by_cases hs : s = F
        · rw [if_pos hs] at hR
          have HR := hid (And.intro (Option.some.inj hR).symm hs)
          clear hR hs
          go_wp2_with (go_at_call 90; (refine (call_fuel M F s ws wv2 φ2 fs N2 _ _ _ H.out.2.2.1 HR.out.2).mono ?_); rintro e9 w4 ⟨rfl, hh⟩; have HH := hid hh; clear hh)
          exact whole_door HH.out H.out.2.2.2.2.2.2.2.1 H.out.2.2.2.2.2.1 H.out.2.2.2.2.2.2.1 H.out.2.2.2.2.2.2.2.2 HR.out.1 _ rfl
        · rw [if_neg hs] at hR
          have hs2 : s + 1 ≤ F := by have := H.out.2.2.1.hs; omega
          cases hc : Tm.callF e (.mk 5 x n9 i ts ats fh fb us) fs with
          | none => rw [hc] at hR; cases hR
          | some rc =>
            have C := hid (run_call (.mk 5 x n9 i ts ats fh fb us) rfl M F s ws wv2 φ2 fs N2 e ep mp p W rc hc H.out.2.2.1 hs2 (by have := H.out.2.1; omega) H.out.2.2.2.1 H.out.2.2.2.2.1)
            rw [hc] at hR
            clear hc
            cases rc with
            | none =>
              have HR := hid (Option.some.inj hR).symm
              clear hR hs hs2
              go_wp2_with (go_at_call 90; (refine C.out.mono ?_); rintro e9 w4 ⟨rfl, hh⟩; have HH := hid hh; clear hh C)
              exact whole_door HH.out H.out.2.2.2.2.2.2.2.1 H.out.2.2.2.2.2.1 H.out.2.2.2.2.2.2.1 H.out.2.2.2.2.2.2.2.2 HR.out _ rfl
            | some bf =>
              obtain ⟨b, fs1⟩ := bf
              have HR := hid hR
              clear hR hs hs2
              go_wp2_with (go_at_call 90; (refine C.out.mono ?_); rintro e9 w4 ⟨p4, nf, nm, rfl, h1, h2, h3⟩; have HH := hid (And.intro h1 (And.intro h2 h3)); clear h1 h2 h3 C)
              obtain ⟨h1, h2, h3⟩ := HH.out
              have hg := h3.block w.heap.size H.out.2.2.2.2.2.2.1 H.out.2.2.2.2.2.1.lt
              have hN9 := H.out.2.1
              apply wp_goto
              refine ⟨rfl, HK.out _ _ n (by omega) ⟨b, fs.length, fs1, ws, wv2, φ2 ++ [(nf, nm)], N2 + 65536, s + 1, nf, nm, p4, _, _, _, _, _, _, _, _, _, _, _, _, _, _, _, _, _, _, _, rfl, hid ⟨HR.out, by omega, h1, by rw [← H.out.2.2.1.fr.1, List.getElem?_append_right (Nat.le_refl _)]; simp, h2, hg.1.trans H.out.2.2.2.2.2.1, hg.2, H.out.2.2.2.2.2.2.2.1.trans h3, H.out.2.2.2.2.2.2.2.2⟩⟩⟩
      · rw [if_neg h5] at hR
        have hk5 : k ≠ 5 := h5
        have d0 : decide (k = 5) = false := decide_eq_false hk5
        have d1 : (k == 5) = false := by simpa using hk5
        cases hd : Tm.doesF e (.mk k x n9 i ts ats fh fb us) fs ws with
        | none => rw [hd] at hR; cases hR
        | some st =>
          have C := hid (run_does (.mk k x n9 i ts ats fh fb us) h5 M F s ws wv2 φ2 fs N2 e ep mp p W st hd H.out.2.2.1 (by have := H.out.2.1; omega) H.out.2.2.2.1 H.out.2.2.2.2.1)
          rw [hd] at hR
          clear hd hk5 h5
          cases st with
          | halt k1 ws1 ss1 =>
            have HR := hid (Option.some.inj hR).symm
            clear hR
            go_wp2_with (go_at_call 91; (refine C.out.mono ?_); rintro e9 w4 ⟨rfl, hh⟩; have HH := hid hh; clear hh C)
            exact whole_door HH.out H.out.2.2.2.2.2.2.2.1 H.out.2.2.2.2.2.1 H.out.2.2.2.2.2.2.1 H.out.2.2.2.2.2.2.2.2 HR.out _ rfl
          | go u fs1 ws1 =>
            have HR := hid hR
            clear hR
            go_wp2_with (go_at_call 91; (refine C.out.mono ?_); rintro e9 w4 ⟨p4, wv4, rfl, h1, h2, h3⟩; have HH := hid (And.intro h1 (And.intro h2 h3)); clear h1 h2 h3 C)
            obtain ⟨h1, h2, h3⟩ := HH.out
            have hg := h3.block w.heap.size H.out.2.2.2.2.2.2.1 H.out.2.2.2.2.2.1.lt
            have hN9 := H.out.2.1
            apply wp_goto
            refine ⟨rfl, HK.out _ _ n (by omega) ⟨u, e, fs1, ws1, wv4, φ2, N2 + 65536, s, ep, mp, p4, _, _, _, _, _, _, _, _, _, _, _, _, _, _, _, _, _, _, _, rfl, hid ⟨HR.out, by omega, h1, H.out.2.2.2.1, h2, hg.1.trans H.out.2.2.2.2.2.1, hg.2, H.out.2.2.2.2.2.2.2.1.trans h3, H.out.2.2.2.2.2.2.2.2⟩⟩⟩
  · intro K hK
    have HK := hid hK
    clear hK
    refine wp_seq_named (fun C hC => ?_)
    have HC := hid hC
    clear hC
    go_wp2
    refine HC.out _ _ (wp_seq (wp_label (HK.out _ _ ?_)))
    refine ⟨t, e, fs, ws, wv, φ, N, s, ep, mp, p, _, _, _, _, _, _, _, _, _, _, _, _, _, _, _, _, _, _, _, rfl, hid ⟨HM.out.1, HM.out.2.1, HM.out.2.2.1.up START.out.1, HM.out.2.2.2.1, HM.out.2.2.2.2.keep (fun k hk hl => ⟨START.out.1.block k hl, hk⟩), START.out.2, HM.out.2.2.1.new _ (Nat.le_refl _), KS.of_below START.out.1, Nat.le_refl _⟩⟩
end Go.Proofs.Ytdmkjndlobichaa
