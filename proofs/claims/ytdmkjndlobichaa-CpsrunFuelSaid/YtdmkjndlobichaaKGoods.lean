/-
  THE WALK OF cps.Good.
-/
import Derived.Test.YtdmkjndlobichaaKGoodN
namespace Go.Proofs.Ytdmkjndlobichaa
set_option linter.all false
open Go.ChangeShapes Go.WideShapes Go.ChangeAt Go.RowKit Go.Maps
open Tm (Te gdT names nodes goodT heft)
open Ev (updI)

/-- A literal's entry. -/
theorem wpList_insM {w : World} {ops : Array Oper} {rest : List Oper} {o : Oper} {a : Act} {Q : Exit → Act → World → Prop} (hg : o.guard = none) (m x u : Operand) (hop : o.op = Op.insert 76 m x u) {B k : Nat} {f : Int → Int} (h : MapI w B f k) (hk : k < maxLen) {s : Int} (hs : (Lit.int .i64 s).wf = true) {v : Int} (hv : (Lit.int .i64 v).wf = true)
    (hm : a.eval m = .map (some B)) (hx : a.eval x = .int .i64 s) (hu : a.eval u = .int .i64 v) (hK : ∀ w', MapI w' B (updM f s v) (k + 1) → w.grownBy w' (some B) → wpList Try.prog ops Q rest (a.put o.dst undef) w') : wpList Try.prog ops Q (o :: rest) a w := by
  obtain ⟨D, h1, h2⟩ := h
  have hmap : IsMap D := by obtain ⟨_, _, _, _, _, rfl⟩ := h1; exact ⟨_, rfl⟩
  refine wpList_plain hg fun K' hK' => ?_
  obtain ⟨w', hrun, h3, h4⟩ := h1.update int_law Try.underlying76 hk (keyOf_int_mk Try.underlying3 hs) (plainElem_int (H := Unit) Try.underlying3 hv)
  unfold Oper.wp
  simp [execOp, hop, hm, hx, hu, hrun, Result.andThen]
  refine hK' _ _ (hK w' ⟨_, h3, fun s' hs' => ?_⟩ h4)
  by_cases e : s' = s
  · subst e
    rw [atKey_put_same hmap (by trivial)]
    simp [updM]
  · rw [atKey_put_other (fun h => e (int_inj9 h)), h2 s' hs']
    simp [updM, e]
theorem good_lk {w w2 : World} {bx : Array Value} {t : TypeId} (hm : MapI w2 (w.heap.size + 1 + 1) (updM (fun _ => 0) 0 1) (0 + 1)) (hg : ((((w.alloc (.cells bx t)).alloc (.map #[] 0)).alloc (.map #[] 0))).grownBy w2 (some (w.heap.size + 1 + 1))) :
    LK (w2.alloc (.cells #[.map (some (w.heap.size + 1)), .map (some (w.heap.size + 1 + 1))] 78)) w2.heap.size (w.heap.size + 1) (w.heap.size + 1 + 1) (fun _ => 0) (updI (fun _ => 0) 0 1) 0 1 1 ∧ Below w.heap.size w w2 := by
  have hs := hg.size
  simp at hs
  refine ⟨⟨Blk.new _ _ _, ?_, hm.below (al1 w2 _), by omega, fun x => by simp, fun x => ?_⟩, ?_⟩
  · have h0 : MapI ((w.alloc (.cells bx t)).alloc (.map #[] 0)) (w.heap.size + 1) (fun _ => 0) 0 := by have := MapI.made (w.alloc (.cells bx t)); simpa using this
    have h1 := h0.below (al1 _ (.map #[] 0))
    exact (h1.of (hg.block _ (by simp) (fun e => by injection e with e; omega))).below (al1 w2 _)
  · unfold updI; split <;> simp
  · exact ((((Below.refl w.heap.size w).alloc (Nat.le_refl _) _).alloc (by simp) _).alloc (by simp; omega) _).grown hg (by simp; omega) (fun k hk => by injection hk with hk; omega)
theorem box_after {w w2 : World} {bx : Array Value} {t : TypeId} (hg : ((((w.alloc (.cells bx t)).alloc (.map #[] 0)).alloc (.map #[] 0))).grownBy w2 (some (w.heap.size + 1 + 1))) : Blk w2 w.heap.size t bx :=
  (hg.block _ (by simp; omega) (fun e => by injection e with e; omega)).trans (((Blk.new w t bx).alloc (.map #[] 0)).alloc (.map #[] 0))
theorem gr2_below {w w1 w2 : World} {M1 M2 : Nat} (h : Below w.heap.size w w1) (g : Gr2 M1 M2 w1 w2) (h1 : w.heap.size ≤ M1) (h2 : w.heap.size ≤ M2) : Below w.heap.size w w2 :=
  h.trans ⟨g.os, g.tape, g.output, g.size, fun k hk => g.block k (by have := h.size; omega) (by omega) (by omega)⟩
set_option maxHeartbeats 4000000 in
set_option maxRecDepth 100000 in
theorem cps_Good (t : Te) (v : Value) (S : Nat → Prop) (w : World) (hv : TAt w S t v) (hn : names t ≤ 1000000000000) : Calls Try.prog 17 #[v] w fun e w' => e = .returned (.bool (goodT t)) ∧ Below w.heap.size w w' := by
  have HV := hid hv.low
  obtain ⟨k, x, m, i, T, tl, tc, A, al, ac, F, fl, fc, U, ul, uc, rfl⟩ := hv.agg
  have hmm := @run_makeMap Try.prog
  have HN := hid hn
  clear hv hn
  by_cases hnd : nodes t ≤ 65536
  · obtain ⟨s, hs⟩ : ∃ s, s = sizeTe t := ⟨_, rfl⟩
    have hs2 : s ≤ 65536 := by rw [hs]; unfold sizeTe; rw [if_pos hnd]; omega
    have HS := hid hs
    have HND := hid hnd
    obtain ⟨q, hq⟩ : ∃ q, (gdT t (fun _ => 0) (updI (fun _ => 0) 0 1)).isSome = q := ⟨_, rfl⟩
    have HQ := hid hq
    have HB := hid (show goodT t = q by unfold goodT; rw [decide_eq_true hnd, hq]; simp)
    clear hq hs hnd
    cases q
    all_goals
      go_enter Try.func17, Try.ntmps17
      go_wp2_with (first
        | (refine wpList_insM (by rfl) _ _ _ (by rfl) (B := w.heap.size + 1 + 1) (f := fun _ => 0) (k := 0) (by have := MapI.made ((w.alloc (.cells #[.int .i64 k, .int .i64 x, .int .i64 m, .bool i, .slice T tl tc, .slice A al ac, .slice F fl fc, .slice U ul uc] 27)).alloc (.map #[] 0)); simpa using this) (by decide) (s := 0) (by decide) (v := 1) (by decide) (by rfl) (by rfl) (by rfl) ?_; intro w2 hm2 hg2; go_must (have LG := hid (good_lk hm2 hg2); have HB2 := hid (below_hop (al1 w2 (.cells #[.map (some (w.heap.size + 1)), .map (some (w.heap.size + 1 + 1))] 78)) LG.out.2); have BX := hid (box_after hg2); have BX2 := hid (BX.out.alloc (.cells #[.map (some (w.heap.size + 1)), .map (some (w.heap.size + 1 + 1))] 78)); obtain ⟨x0, x1, x2, x3, x4, x5, x6, x7⟩ := BX2.out.eight; clear hm2 hg2))
        | (go_at_call 19; go_must (refine (cps_Size t _ (fun b => b < w.heap.size) _ (HV.out.up HB2.out)).mono ?_); rintro e w3 ⟨e9, b3⟩; go_must (rw [← HS.out] at e9; subst e9; have HB3 := hid (below_hop b3 HB2.out); have LG3 := hid (LG.out.1.up b3); clear x0 x1 x2 x3 x4 x5 x6 x7; have BX3 := hid (BX2.out.below b3 BX2.out.lt); obtain ⟨x0, x1, x2, x3, x4, x5, x6, x7⟩ := BX3.out.eight; clear b3))
        | (go_at_call 34; go_must (refine (look_good _ t (Nat.le_refl _) HND.out w2.heap.size (w.heap.size + 1) (w.heap.size + 1 + 1) t (by simp) _ (fun b => b < w.heap.size) _ (fun _ => 0) (updI (fun _ => 0) 0 1) 0 1 1 (HV.out.up HB3.out) (fun b hb => by constructor <;> omega) LG3.out (by have := HN.out; omega) (by have := HN.out; omega) (by have := HN.out; omega)).mono ?_); rintro e w4 ⟨e9, _, hg4⟩; go_must (rw [HQ.out] at e9; subst e9; have G := hid hg4; clear hg4)))
      go_ret
      exact ⟨by rw [HB.out]; rfl, gr2_below HB3.out G.out (by omega) (by omega)⟩
  · obtain ⟨s, hs⟩ : ∃ s, s = sizeTe t := ⟨_, rfl⟩
    have hs2 : ¬ s ≤ 65536 := by rw [hs]; unfold sizeTe; rw [if_neg hnd]; omega
    have HS := hid hs
    have HB := hid (show goodT t = false by unfold goodT; rw [decide_eq_false hnd]; rfl)
    clear hs hnd
    go_enter Try.func17, Try.ntmps17
    go_wp2_with (first
        | (refine wpList_insM (by rfl) _ _ _ (by rfl) (B := w.heap.size + 1 + 1) (f := fun _ => 0) (k := 0) (by have := MapI.made ((w.alloc (.cells #[.int .i64 k, .int .i64 x, .int .i64 m, .bool i, .slice T tl tc, .slice A al ac, .slice F fl fc, .slice U ul uc] 27)).alloc (.map #[] 0)); simpa using this) (by decide) (s := 0) (by decide) (v := 1) (by decide) (by rfl) (by rfl) (by rfl) ?_; intro w2 hm2 hg2; go_must (have LG := hid (good_lk hm2 hg2); have HB2 := hid (below_hop (al1 w2 (.cells #[.map (some (w.heap.size + 1)), .map (some (w.heap.size + 1 + 1))] 78)) LG.out.2); have BX := hid (box_after hg2); have BX2 := hid (BX.out.alloc (.cells #[.map (some (w.heap.size + 1)), .map (some (w.heap.size + 1 + 1))] 78)); obtain ⟨x0, x1, x2, x3, x4, x5, x6, x7⟩ := BX2.out.eight; clear hm2 hg2))
        | (go_at_call 19; go_must (refine (cps_Size t _ (fun b => b < w.heap.size) _ (HV.out.up HB2.out)).mono ?_); rintro e w3 ⟨e9, b3⟩; go_must (rw [← HS.out] at e9; subst e9; have HB3 := hid (below_hop b3 HB2.out); clear b3)))
    go_ret
    exact ⟨by rw [HB.out]; rfl, HB3.out⟩
end Go.Proofs.Ytdmkjndlobichaa
