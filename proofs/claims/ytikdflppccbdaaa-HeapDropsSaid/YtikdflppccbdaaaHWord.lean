/-
  THE WALKS OF heap.Good's CLOSURES, AND OF slices.ContainsFunc.
-/
import Derived.Test.YtikdflppccbdaaaHRefGood
namespace Go.Proofs.Ytikdflppccbdaaa
open Go.ChangeShapes Go.WideShapes Go.ChangeAt Go.RowKit

/-- A row of truths: which places are among these. -/
def cellsB (n : Nat) (sts : List Nat) : Array Value := ((List.range n).map fun i => Value.bool (sts.contains i)).toArray
theorem cellsB_size (n : Nat) (sts : List Nat) : (cellsB n sts).size = n := by simp [cellsB]
theorem cellsB_get {n : Nat} (sts : List Nat) {i : Nat} (h : i < n) : (cellsB n sts)[i]? = some (.bool (sts.contains i)) := by
  simp only [cellsB, List.getElem?_toArray, List.getElem?_map, List.getElem?_range h, Option.map_some]
theorem cellsB_set (n : Nat) (sts : List Nat) (k : Nat) : (cellsB n sts).setIfInBounds k (.bool true) = cellsB n (sts ++ [k]) := by
  simp only [cellsB, List.setIfInBounds_toArray]
  congr 1
  apply List.ext_getElem
  · simp
  · intro i h1 h2
    simp only [List.getElem_set, List.getElem_map, List.getElem_range, List.contains_eq_mem, List.mem_append, List.mem_singleton]
    by_cases e : k = i
    · subst e; simp
    · rw [if_neg e]
      have : ¬ i = k := fun h => e h.symm
      simp [this]
theorem info_bool : InfoIs Try.prog 4 (.bool false) 1 1 := by unfold InfoIs; kernel_rfl
theorem make_bools (k : Nat) (hk : k ≤ 1000000) (w : World) : (Instr.makeSlice 50 (.int .i64 (k : Int)) (.int .i64 (k : Int))).run Try.prog w = .ok (.slice (some ⟨w.heap.size, 0, none⟩) k k) (w.alloc (.cells (cellsB k []) 4)) := by
  have h := run_make_row' 50 4 (.bool false) 1 Try.underlying50 info_bool rfl .i64 .i64 k (by omega) (by omega) w
  rw [h, made_rep]
  have e : Array.replicate k (Value.bool false) = cellsB k [] := by
    apply Array.ext
    · simp [cellsB]
    · intro i h1 h2; simp [cellsB]
  rw [e]

theorem good_1 (x : Int) (hx : (Lit.int .i64 x).wf = true) (n g bg : Nat) (sts : List Nat) (w : World) (h1 : Blk w bg 50 #[.slice (some ⟨g, 0, none⟩) n n]) (h2 : Blk w g 4 (cellsB n sts)) :
    Calls Try.prog 29 #[.int .i64 x, .pointer (some ⟨bg, 0, none⟩)] w fun e w' => e = .returned (.bool (wordB n sts x)) ∧ w = w' := by
  have HX := hid hx
  have x0 := h1.cell0
  clear hx
  by_cases h3 : IntOk x
  · have hI := hid (decide_eq_true h3)
    clear h3 h2
    have hP := hid (rfl : plV x = plV x)
    go_enter Try.func29, Try.ntmps29
    go_wp2_with (first | (go_at_call 30; go_must (refine (cells_ToInt x _).mono ?_); rintro e w1 ⟨⟨m, rfl⟩, rfl⟩; rw [hI.out]) | (go_at_call 31; go_must (refine (cells_Place x HX.out _).mono ?_); rw [hP.out]; rintro e w1 ⟨rfl, rfl⟩))
    go_ret
    exact ⟨ret_bool (by unfold wordB; rw [hI.out]; rfl), rfl⟩
  · have hI := hid (decide_eq_false h3)
    clear h3
    by_cases h3 : PlOk x
    · have hP := hid (plV_yes h3)
      by_cases h4 : plN x < n
      · have q1 := h2.cell (plN x)
        rw [cellsB_get sts h4] at q1
        have HQ := hid (And.intro h3 h4)
        clear h2 h3
        cases h5 : sts.contains (plN x) with
        | true =>
          have H5 := hid h5
          rw [h5] at q1
          clear h5
          go_enter Try.func29, Try.ntmps29
          go_wp2_with (first | (go_at_call 30; go_must (refine (cells_ToInt x _).mono ?_); rintro e w1 ⟨⟨m, rfl⟩, rfl⟩; rw [hI.out]) | (go_at_call 31; go_must (refine (cells_Place x HX.out _).mono ?_); rw [hP.out]; rintro e w1 ⟨rfl, rfl⟩))
          go_ret
          exact ⟨ret_bool (by unfold wordB; rw [hI.out, decide_eq_true HQ.out.1, decide_eq_true HQ.out.2, H5.out]; rfl), rfl⟩
        | false =>
          have H5 := hid h5
          rw [h5] at q1
          clear h5
          go_enter Try.func29, Try.ntmps29
          go_wp2_with (first | (go_at_call 30; go_must (refine (cells_ToInt x _).mono ?_); rintro e w1 ⟨⟨m, rfl⟩, rfl⟩; rw [hI.out]) | (go_at_call 31; go_must (refine (cells_Place x HX.out _).mono ?_); rw [hP.out]; rintro e w1 ⟨rfl, rfl⟩))
          go_ret
          exact ⟨ret_bool (by unfold wordB; rw [hI.out, decide_eq_true HQ.out.1, decide_eq_true HQ.out.2, H5.out]; rfl), rfl⟩
      · have HQ := hid (And.intro h3 h4)
        clear h2 h3
        go_enter Try.func29, Try.ntmps29
        go_wp2_with (first | (go_at_call 30; go_must (refine (cells_ToInt x _).mono ?_); rintro e w1 ⟨⟨m, rfl⟩, rfl⟩; rw [hI.out]) | (go_at_call 31; go_must (refine (cells_Place x HX.out _).mono ?_); rw [hP.out]; rintro e w1 ⟨rfl, rfl⟩))
        go_ret
        exact ⟨ret_bool (by unfold wordB; rw [hI.out, decide_eq_true HQ.out.1, decide_eq_false HQ.out.2]; rfl), rfl⟩
    · have hP := hid (plV_no h3)
      have HQ := hid h3
      clear h2 h3
      go_enter Try.func29, Try.ntmps29
      go_wp2_with (first | (go_at_call 30; go_must (refine (cells_ToInt x _).mono ?_); rintro e w1 ⟨⟨m, rfl⟩, rfl⟩; rw [hI.out]) | (go_at_call 31; go_must (refine (cells_Place x HX.out _).mono ?_); rw [hP.out]; rintro e w1 ⟨rfl, rfl⟩))
      go_ret
      exact ⟨ret_bool (by unfold wordB; rw [hI.out, decide_eq_false HQ.out]; rfl), rfl⟩

theorem good_2 (x : Int) (hx : (Lit.int .i64 x).wf = true) (n g bg bw : Nat) (sts : List Nat) (w : World) (h1 : Blk w bg 50 #[.slice (some ⟨g, 0, none⟩) n n]) (h2 : Blk w g 4 (cellsB n sts))
    (h3 : Blk w bw 57 #[.func (.func 29) #[] #[.pointer (some ⟨bg, 0, none⟩)]]) :
    Calls Try.prog 33 #[.int .i64 x, .pointer (some ⟨bw, 0, none⟩)] w fun e w' => e = .returned (.bool (!wordB n sts x)) ∧ w = w' := by
  have HX := hid hx
  have x0 := h3.cell0
  have H1 := hid h1
  have H2 := hid h2
  clear hx h1 h2
  go_enter Try.func33, Try.ntmps33
  go_wp2_with (go_at_call 29; go_must (refine (good_1 x HX.out n _ bg sts _ H1.out H2.out).mono ?_); rintro e w1 ⟨rfl, rfl⟩)
  go_ret
  exact ⟨rfl, rfl⟩

noncomputable instance (n : Nat) (sts : List Nat) (f : Nat → Int) (m : Nat) : Decidable (RootsOk n sts f m) := Classical.propDecidable _
def IdxAns (n : Nat) (sts : List Nat) (f : Nat → Int) (m : Nat) (e : Ending) : Prop :=
  RootsOk n sts f m ∧ e = .returned (.int .i64 (-1)) ∨ ¬ RootsOk n sts f m ∧ ∃ k : Nat, k < m ∧ e = .returned (.int .i64 k)
theorem idx_Good (B : Nat) (A : Option Addr) (m c : Nat) (xs : List Int) (n g bg bw : Nat) (sts : List Nat) (w : World) (hi : Ints w B A m c xs) (hm : m ≤ 6000) (h1 : Blk w bg 50 #[.slice (some ⟨g, 0, none⟩) n n]) (h2 : Blk w g 4 (cellsB n sts))
    (h3 : Blk w bw 57 #[.func (.func 29) #[] #[.pointer (some ⟨bg, 0, none⟩)]]) :
    Calls Try.prog 49 #[.slice A m c, .func (.func 33) #[] #[.pointer (some ⟨bw, 0, none⟩)]] w fun e w' => IdxAns n sts (gw xs) m e ∧ w = w' := by
  have H1 := hid h1
  have H2 := hid h2
  have H3 := hid h3
  have HI := hid hi
  clear h1 h2 h3 hi
  go_enter Try.func49, Try.ntmps49
  go_wp2
  go_loopg [8] m (fun gk x wr => ∃ k : Nat, k + gk = m ∧ x = .int .i64 k ∧ w = wr ∧ Hid (RootsOk n sts (gw xs) k))
  case atStart => exact ⟨0, by omega, rfl, rfl, hid (fun i h2 => by omega)⟩
  case round =>
    obtain ⟨k, hk, rfl, rfl, hro⟩ := hrel
    have Hk := hid hk
    by_cases hlt : k < m
    · obtain ⟨ad, rfl⟩ := HI.out.some_ hlt
      have q1 := HI.out.cell hlt
      have hw := hid (HI.out.wf_at hlt)
      clear hk
      cases hwb : wordB n sts (gw xs k) with
      | true =>
        have HW := hid hwb
        clear hwb
        go_wp2_with (go_at_call 33; go_must (refine (good_2 _ hw.out n _ _ _ sts _ H1.out H2.out H3.out).mono ?_); rw [HW.out]; rintro e w3 ⟨rfl, rfl⟩)
        have hgk := Hk.out
        go_roundg (gk - 1)
        case rel => exact ⟨k + 1, by omega, by go_num, rfl, hid (hro.out.succ HW.out)⟩
        case measure => omega
      | false =>
        have HW := hid hwb
        clear hwb
        go_wp2_with (go_at_call 33; go_must (refine (good_2 _ hw.out n _ _ _ sts _ H1.out H2.out H3.out).mono ?_); rw [HW.out]; rintro e w3 ⟨rfl, rfl⟩)
        go_ret
        refine ⟨.inr ⟨fun h => ?_, k, hlt, rfl⟩, rfl⟩
        have := h k hlt
        rw [HW.out] at this; cases this
    · clear hk
      go_wp2
      go_ret
      exact ⟨.inl ⟨by have := Hk.out; rw [show m = k from by omega]; exact hro.out, rfl⟩, rfl⟩
theorem contains_Good (B : Nat) (A : Option Addr) (m c : Nat) (xs : List Int) (n g bg bw : Nat) (sts : List Nat) (w : World) (hi : Ints w B A m c xs) (hm : m ≤ 6000) (h1 : Blk w bg 50 #[.slice (some ⟨g, 0, none⟩) n n]) (h2 : Blk w g 4 (cellsB n sts))
    (h3 : Blk w bw 57 #[.func (.func 29) #[] #[.pointer (some ⟨bg, 0, none⟩)]]) :
    Calls Try.prog 32 #[.slice A m c, .func (.func 33) #[] #[.pointer (some ⟨bw, 0, none⟩)]] w fun e w' => e = .returned (.bool (!decide (RootsOk n sts (gw xs) m))) ∧ w = w' := by
  have hx := idx_Good B A m c xs n g bg bw sts w hi hm h1 h2 h3
  by_cases h : RootsOk n sts (gw xs) m
  · have hy : Calls Try.prog 49 #[.slice A m c, .func (.func 33) #[] #[.pointer (some ⟨bw, 0, none⟩)]] w fun e w' => e = .returned (.int .i64 (-1)) ∧ w = w' := by
      refine hx.mono fun e w' ⟨h4, h5⟩ => ⟨?_, h5⟩
      rcases h4 with h4 | h4
      · exact h4.2
      · exact absurd h h4.1
    rw [decide_eq_true h]
    clear hx hi h1 h2 h3 h
    go_enter Try.func32, Try.ntmps32
    go_wp2_with (go_at_call 49; go_must (refine hy.mono ?_); rintro e w3 ⟨rfl, rfl⟩)
    go_ret
    exact ⟨rfl, rfl⟩
  · have hy : Calls Try.prog 49 #[.slice A m c, .func (.func 33) #[] #[.pointer (some ⟨bw, 0, none⟩)]] w fun e w' => (∃ k : Nat, k < m ∧ e = .returned (.int .i64 k)) ∧ w = w' := by
      refine hx.mono fun e w' ⟨h4, h5⟩ => ⟨?_, h5⟩
      rcases h4 with h4 | h4
      · exact absurd h4.1 h
      · exact h4.2
    rw [decide_eq_false h]
    clear hx hi h1 h2 h3 h
    go_enter Try.func32, Try.ntmps32
    go_wp2_with (go_at_call 49; go_must (refine hy.mono ?_); rintro e w3 ⟨⟨k, hk, rfl⟩, rfl⟩)
    go_ret
    exact ⟨ret_bool (by simp), rfl⟩
end Go.Proofs.Ytikdflppccbdaaa
