/-
  THE WALK OF cpsrun's show.
-/
import Derived.Test.YtdmkjndlobichaaKMore
import Derived.Test.YtdmkjndlobichaaRegPath
namespace Go.Proofs.Ytdmkjndlobichaa
set_option linter.all false
open Go.ChangeShapes Go.WideShapes Go.ChangeAt Go.RowKit Go.Maps
open Tm (Te Pv Fr showP showPL)
open Ev (Out)

/-- The machine while it shows: what was shown so far. -/
structure Sh (w : World) (M : Nat) (F s : Int) (wv : Value) (sv : Value) (ss : List Int) : Prop where
  blk : Blk w M 113 #[.int .i64 F, .int .i64 s, wv, sv]
  row : w.ownsRow (M + 1) 3 1 sv ss.length (ss.map (.int .i64))
  len : Wr ss
/-- What a show leaves as it was. -/
structure ShG (M : Nat) (sv sv' : Value) (w w' : World) : Prop where
  os : w'.os = w.os
  tape : w'.tape = w.tape
  output : w'.output = w.output
  size : w.heap.size ≤ w'.heap.size
  block : ∀ k, k < w.heap.size → k ≠ M → sv.ownBlock ≠ some k → w'.heap[k]? = w.heap[k]?
  own : ∀ g, sv'.ownBlock = some g → sv.ownBlock = some g ∨ w.heap.size ≤ g
theorem ShG.refl (M : Nat) (sv : Value) (w : World) : ShG M sv sv w w := ⟨rfl, rfl, rfl, Nat.le_refl _, fun _ _ _ _ => rfl, fun _ h => .inl h⟩
theorem ShG.trans {M : Nat} {s0 s1 s2 : Value} {w w1 w2 : World} (h : ShG M s0 s1 w w1) (k : ShG M s1 s2 w1 w2) : ShG M s0 s2 w w2 := by
  refine ⟨k.os.trans h.os, k.tape.trans h.tape, k.output.trans h.output, Nat.le_trans h.size k.size, fun i hi hM hn => ?_, fun g hg => ?_⟩
  · refine (k.block i (Nat.lt_of_lt_of_le hi h.size) hM (fun e => ?_)).trans (h.block i hi hM hn)
    rcases h.own i e with e | e
    · exact hn e
    · omega
  · rcases k.own g hg with e | e
    · exact h.own g e
    · exact .inr (Nat.le_trans h.size e)
/-- What show tells: it shows all, or stops. -/
def ShoP (o : Out (List Int)) (M : Nat) (F s : Int) (wv sv : Value) (w : World) (e : Ending) (w' : World) : Prop := match o with
  | .ok l => e = .returned (.tuple #[]) ∧ ∃ sv', Sh w' M F s wv sv' l ∧ ShG M sv sv' w w'
  | .stop k => e = .panicked [stopK k] ∧ ∃ sv' l, Sh w' M F s wv sv' l ∧ ShG M sv sv' w w'
/-- The blocks that a show does not write. -/
def Sf4 (M : Nat) (sv : Value) (S : Nat → Prop) : Nat → Prop := fun b => S b ∧ b ≠ M ∧ sv.ownBlock ≠ some b
theorem ShG.keepS {M : Nat} {sv sv' : Value} {w w' : World} {S : Nat → Prop} (h : ShG M sv sv' w w') : ∀ k, Sf4 M sv S k → k < w.heap.size → w'.heap[k]? = w.heap[k]? ∧ Sf4 M sv' S k := fun k hk hl =>
  ⟨h.block k hl hk.2.1 hk.2.2, hk.1, hk.2.1, fun e => by
    rcases h.own k e with e | e
    · exact hk.2.2 e
    · omega⟩
def ShH (us : List Pv) : Prop := ∀ u ∈ us, ∀ (ss : List Int) (S : Nat → Prop) (φ : List (Nat × Nat)) (M q : Nat) (F s : Int) (wv sv : Value) (w : World), PAt w (Sf4 M sv S) φ u q → Sh w M F s wv sv ss →
  Calls Try.prog 120 #[.pointer (some ⟨M, 0, none⟩), .pointer (some ⟨q, 0, none⟩)] w (ShoP (showP u ss) M F s wv sv w)
theorem sho_stop {k : Int} {M : Nat} {F s : Int} {wv sv sv' : Value} {ss : List Int} {w w' : World} (h : Sh w' M F s wv sv' ss) (g : ShG M sv sv' w w') : ShoP (.stop k) M F s wv sv w (.panicked [stopK k]) w' := ⟨rfl, sv', ss, h, g⟩
/-- The number is shown. -/
def nxt (n : Int) (us : List Pv) (ss : List Int) : Out (List Int) := if ss.length = 4096 then .stop 4 else showPL us (ss ++ [n])
theorem show_is (u : Pv) (ss : List Int) (h : knd u ≠ 3) : showP u ss = nxt (nmb u) (kids u) ss := by
  cases u with
  | zero => rw [showP]; unfold nxt; simp only [kids, nmb]; rw [showPL]
  | num n => rw [showP]; unfold nxt; simp only [kids, nmb]; rw [showPL]
  | con n us => rw [showP]; rfl
  | fn ps b e => exact absurd rfl h
theorem Sh.put {w w2 : World} {M : Nat} {F s : Int} {wv : Value} {A A' : Option Addr} {n c c' : Nat} {ss : List Int} {m : Int} (h : Sh w M F s wv (.slice A n c) ss) (hr : w2.ownsRow (M + 1) 3 1 (.slice A' (ss.length + 1) c') (ss.length + 1) ((ss ++ [m]).map (.int .i64))) (hg : w.grownBy w2 (Value.slice A n c).ownBlock) (hn : ∀ g, (Value.slice A' (ss.length + 1) c').ownBlock = some g → (Value.slice A n c).ownBlock = some g ∨ w.heap.size ≤ g) (hl : ss.length ≠ 4096) (hm9 : (Lit.int .i64 m).wf = true) :
    Sh (w2.setCell ⟨M, 3, none⟩ (.slice A' (ss.length + 1) c')) M F s wv (.slice A' (ss.length + 1) c') (ss ++ [m]) ∧ ShG M (.slice A n c) (.slice A' (ss.length + 1) c') w (w2.setCell ⟨M, 3, none⟩ (.slice A' (ss.length + 1) c')) ∧ w2.frozen? ⟨M, 3, none⟩ = false ∧ w2.cell? ⟨M, 3, none⟩ = some (.slice A n c) := by
  have hM : (Value.slice A n c).ownBlock ≠ some M := fun e => by have := h.row.lt M e; omega
  have hb2 : Blk w2 M 113 #[.int .i64 F, .int .i64 s, wv, .slice A n c] := (hg.block M h.blk.lt (fun e => hM e.symm)).trans h.blk
  refine ⟨⟨hb2.set_ 3 _, ?_, h.len.snoc hl hm9⟩, ⟨hg.os, hg.tape, hg.output, by have := hg.size; simpa using this, fun k hk h1 h2 => (Below.heap_setCell _ _ _ _ h1).trans (hg.block k hk (fun e => h2 e.symm)), hn⟩, hb2.frozen 3, hb2.cell 3⟩
  rw [List.length_append]
  exact row_keepX hr (fun g e => Below.heap_setCell _ _ _ _ (fun e2 => by have := hr.lt g e; dsimp only at e2; omega))
set_option maxHeartbeats 8000000 in
set_option maxRecDepth 100000 in
theorem show_fn (u : Pv) (ss : List Int) (S : Nat → Prop) (φ : List (Nat × Nat)) (M q : Nat) (F s : Int) (wv sv : Value) (w : World) (hu : PAt w S φ u q) (h : Sh w M F s wv sv ss) (hk : knd u = 3) :
    Calls Try.prog 120 #[.pointer (some ⟨M, 0, none⟩), .pointer (some ⟨q, 0, none⟩)] w (ShoP (.stop (-1)) M F s wv sv w) := by
  obtain ⟨A9, c9, f9, e9, hb9, _⟩ := hu.cells
  have y0 : w.cell? ⟨q, 0, none⟩ = some (.int .i64 (knd u)) := hb9.cell 0
  rw [hk] at y0
  have H := hid h
  clear hu hb9 hk h
  go_enter Try.func120, Try.ntmps120
  go_wp2_with (go_at_call 114; go_must (refine (want_no _).mono ?_); rintro e9 w2 ⟨rfl, rfl⟩)
  exact ⟨rfl, sho_stop H.out (ShG.refl _ _ _)⟩
theorem Sh.up {w w' : World} {M : Nat} {F s : Int} {wv sv : Value} {ss : List Int} (h : Sh w M F s wv sv ss) (hb : Below w.heap.size w w') : Sh w' M F s wv sv ss := ⟨h.blk.below hb h.blk.lt, row_keepX h.row (fun g e => hb.block g (h.row.lt g e).2), h.len⟩
theorem ShG.of_below {M : Nat} {sv : Value} {w w' : World} (hb : Below w.heap.size w w') : ShG M sv sv w w' := ⟨hb.os, hb.tape, hb.output, hb.size, fun k hk _ _ => hb.block k hk, fun _ h => .inl h⟩
theorem show_cell {w w9 : World} {q M : Nat} {A0 : Option Addr} {n c0 : Nat} {S : Nat → Prop} {t : TypeId} {cs : Array Value} (hb : Blk w q t cs) (hS : Sf4 M (.slice A0 n c0) S q) (hg : w.drew.grownBy w9 (Value.slice A0 n c0).ownBlock) : Blk w9 q t cs := (hg.block q hb.lt (fun e => hS.2.2 e.symm)).trans hb
set_option maxHeartbeats 8000000 in
set_option maxRecDepth 100000 in
theorem show_long (u : Pv) (ss : List Int) (S : Nat → Prop) (φ : List (Nat × Nat)) (M q : Nat) (F s : Int) (wv sv : Value) (w : World) (hu : PAt w (Sf4 M sv S) φ u q) (h : Sh w M F s wv sv ss) (hk : knd u ≠ 3) (hlen : ss.length = 4096) :
    Calls Try.prog 120 #[.pointer (some ⟨M, 0, none⟩), .pointer (some ⟨q, 0, none⟩)] w (ShoP (.stop 4) M F s wv sv w) := by
  obtain ⟨A9, c9, f9, e9, hb9, hSq, hkl, hkm, hkr, hwn, hkk⟩ := hu.cells
  have y0 : w.cell? ⟨q, 0, none⟩ = some (.int .i64 (knd u)) := hb9.cell 0
  have y1 : w.cell? ⟨q, 1, none⟩ = some (.int .i64 (nmb u)) := hb9.cell 1
  obtain ⟨A0, c0, hsv, _⟩ := rowX h.row
  subst hsv
  have z3 : w.cell? ⟨M, 3, none⟩ = some (.slice A0 ss.length c0) := h.blk.cell 3
  have hMl := h.blk.lt
  have hql := hb9.lt
  have d3 : (knd u != 3) = true := by simpa using hk
  have d3b : (knd u == 3) = false := by simpa using hk
  have HWN := hid hwn
  have H := hid (And.intro h (And.intro hb9 (And.intro hSq hkr)))
  have HC := hid (run_more ss A0 c0 (nmb u) (M + 1) w.drew h.row (by simp; omega) h.len.1)
  have HLEN := hid hlen
  clear hu hb9 hSq hkr h hlen hkl hkm hwn hk
  go_enter Try.func120, Try.ntmps120
  go_wp2_with (go_at_call 114; go_must (refine (want_yes _).mono ?_); rintro e9 w2 ⟨rfl, h9⟩; have h8 := h9.symm; subst h8)
  have HS := hid (show w.drew.cell? ⟨M, 3, none⟩ = some (.slice A0 ss.length c0) ∧ w.drew.cell? ⟨q, 1, none⟩ = some (.int .i64 (nmb u)) from ⟨z3, y1⟩)
  refine wp_region_T (n := 12) (S := fun w' => w'.cell? ⟨M, 3, none⟩ = some (.slice A0 ss.length c0) ∧ w'.cell? ⟨q, 1, none⟩ = some (.int .i64 (nmb u))) (by kernel_rfl) ?_
  refine wpAnyT_takeW (i := 0) (v := .pointer (some ⟨M, 0, none⟩)) rfl (by decide) (by kernel_rfl) (fun _ _ _ h => h) (.inl ⟨by simp [Region.wanted], fun w7 _ => ?_⟩) (fun _ => HS.out) ?_
  · go_simp
  refine wpAnyT_takeW (i := 1) (v := .pointer (some ⟨M, 0, none⟩)) rfl (by decide) (by kernel_rfl) (fun _ _ _ h => h) (.inl ⟨by simp [Region.wanted], fun w7 _ => ?_⟩) (fun _ => HS.out) ?_
  · go_simp
  refine wpAnyT_takeW (i := 2) (v := .pointer (some ⟨M, 0, none⟩)) rfl (by decide) (by kernel_rfl) (fun _ _ _ h => h) (.inl ⟨by simp [Region.wanted], fun w7 _ => ?_⟩) (fun _ => HS.out) ?_
  · go_simp
  refine wpAnyT_takeW (i := 3) (v := .pointer (some ⟨M, 3, none⟩)) rfl (by decide) (by kernel_rfl) (fun _ _ _ h => h) (.inl ⟨by simp [Region.wanted], fun w7 _ => ?_⟩) (fun _ => HS.out) ?_
  · go_simp
  refine wpAnyT_takeW (i := 5) (v := .pointer (some ⟨q, 0, none⟩)) rfl (by decide) (by kernel_rfl) (fun _ _ _ h => h) (.inl ⟨by simp [Region.wanted], fun w7 _ => ?_⟩) (fun _ => HS.out) ?_
  · go_simp
  refine wpAnyT_takeW (i := 6) (v := .pointer (some ⟨q, 0, none⟩)) rfl (by decide) (by kernel_rfl) (fun _ _ _ h => h) (.inl ⟨by simp [Region.wanted], fun w7 _ => ?_⟩) (fun _ => HS.out) ?_
  · go_simp
  refine wpAnyT_takeW (i := 7) (v := .pointer (some ⟨q, 1, none⟩)) rfl (by decide) (by kernel_rfl) (fun _ _ _ h => h) (.inl ⟨by simp [Region.wanted], fun w7 _ => ?_⟩) (fun _ => HS.out) ?_
  · go_simp
  refine wpAnyT_takeP (i := 4) (v := .slice A0 ss.length c0) [9, 12] rfl (by decide) (by kernel_rfl) (fun _ _ _ h => h) (.inl ⟨by simp [Region.wanted], fun w7 hS7 => ?_⟩) HS.out ?_
  · (obtain ⟨s0, s1⟩ := hS7; go_simp)
  refine wpAnyT_takeP (i := 8) (v := .int .i64 (nmb u)) [9, 12] rfl (by decide) (by kernel_rfl) (fun _ _ _ h => h) (.inl ⟨by simp [Region.wanted], fun w7 hS7 => ?_⟩) HS.out ?_
  · (obtain ⟨s0, s1⟩ := hS7; go_simp)
  refine wpAnyT_ready (rs := [9]) (by kernel_rfl) (by simp) ?_
  refine AllT.cons rfl (fun K' hK => ?_) AllT.nil
  go_simp
  go_wp2_with (go_at_call 119; (refine HC.out.mono ?_); intro e9 w9 hM; rw [if_pos HLEN.out] at hM; obtain ⟨rfl, h9⟩ := hM; have h8 := h9.symm; subst h8)
  exact ⟨rfl, sho_stop (H.out.1.up (drew_below w)) (ShG.of_below (drew_below w))⟩
theorem showPL_at {us : List Pv} {i : Nat} (hi : i < us.length) (l : List Int) : showPL (us.drop i) l = match showP us[i] l with
    | .ok l1 => showPL (us.drop (i + 1)) l1
    | .stop e => .stop e := by
  rw [List.drop_eq_getElem_cons hi, showPL]
  cases showP us[i] l <;> rfl
set_option maxHeartbeats 8000000 in
set_option maxRecDepth 100000 in
theorem show_go (u : Pv) (ss : List Int) (S : Nat → Prop) (φ : List (Nat × Nat)) (M q : Nat) (F s : Int) (wv sv : Value) (w : World) (hu : PAt w (Sf4 M sv S) φ u q) (h : Sh w M F s wv sv ss) (hk : knd u ≠ 3) (hlen : ss.length ≠ 4096) (IH : ShH (kids u)) :
    Calls Try.prog 120 #[.pointer (some ⟨M, 0, none⟩), .pointer (some ⟨q, 0, none⟩)] w (ShoP (showPL (kids u) (ss ++ [nmb u])) M F s wv sv w) := by
  obtain ⟨A9, c9, f9, e9, hb9, hSq, hkl, hkm, hkr, hwn, hkk⟩ := hu.cells
  have y0 : w.cell? ⟨q, 0, none⟩ = some (.int .i64 (knd u)) := hb9.cell 0
  have y1 : w.cell? ⟨q, 1, none⟩ = some (.int .i64 (nmb u)) := hb9.cell 1
  obtain ⟨A0, c0, hsv, _⟩ := rowX h.row
  subst hsv
  have z3 : w.cell? ⟨M, 3, none⟩ = some (.slice A0 ss.length c0) := h.blk.cell 3
  have hMl := h.blk.lt
  have hql := hb9.lt
  have d3 : (knd u != 3) = true := by simpa using hk
  have d3b : (knd u == 3) = false := by simpa using hk
  have HWN := hid hwn
  have H := hid (And.intro h (And.intro hb9 (And.intro hSq hkr)))
  have HC := hid (run_more ss A0 c0 (nmb u) (M + 1) w.drew h.row (by simp; omega) h.len.1)
  have HLEN := hid hlen
  have HI := hid IH
  have y2 : w.cell? ⟨q, 2, none⟩ = some (.slice A9 (kids u).length c9) := hb9.cell 2
  have hkl9 : (kids u).length ≤ 281474976710656 := by omega
  clear hu hb9 hSq hkr h hlen hkl hkm hwn hk IH
  go_enter Try.func120, Try.ntmps120
  go_wp2_with (go_at_call 114; go_must (refine (want_yes _).mono ?_); rintro e9 w2 ⟨rfl, h9⟩; have h8 := h9.symm; subst h8)
  have HS := hid (show w.drew.cell? ⟨M, 3, none⟩ = some (.slice A0 ss.length c0) ∧ w.drew.cell? ⟨q, 1, none⟩ = some (.int .i64 (nmb u)) from ⟨z3, y1⟩)
  refine wp_region_T (n := 12) (S := fun w' => w'.cell? ⟨M, 3, none⟩ = some (.slice A0 ss.length c0) ∧ w'.cell? ⟨q, 1, none⟩ = some (.int .i64 (nmb u))) (by kernel_rfl) ?_
  refine wpAnyT_takeW (i := 0) (v := .pointer (some ⟨M, 0, none⟩)) rfl (by decide) (by kernel_rfl) (fun _ _ _ h => h) (.inl ⟨by simp [Region.wanted], fun w7 _ => ?_⟩) (fun _ => HS.out) ?_
  · go_simp
  refine wpAnyT_takeW (i := 1) (v := .pointer (some ⟨M, 0, none⟩)) rfl (by decide) (by kernel_rfl) (fun _ _ _ h => h) (.inl ⟨by simp [Region.wanted], fun w7 _ => ?_⟩) (fun _ => HS.out) ?_
  · go_simp
  refine wpAnyT_takeW (i := 2) (v := .pointer (some ⟨M, 0, none⟩)) rfl (by decide) (by kernel_rfl) (fun _ _ _ h => h) (.inl ⟨by simp [Region.wanted], fun w7 _ => ?_⟩) (fun _ => HS.out) ?_
  · go_simp
  refine wpAnyT_takeW (i := 3) (v := .pointer (some ⟨M, 3, none⟩)) rfl (by decide) (by kernel_rfl) (fun _ _ _ h => h) (.inl ⟨by simp [Region.wanted], fun w7 _ => ?_⟩) (fun _ => HS.out) ?_
  · go_simp
  refine wpAnyT_takeW (i := 5) (v := .pointer (some ⟨q, 0, none⟩)) rfl (by decide) (by kernel_rfl) (fun _ _ _ h => h) (.inl ⟨by simp [Region.wanted], fun w7 _ => ?_⟩) (fun _ => HS.out) ?_
  · go_simp
  refine wpAnyT_takeW (i := 6) (v := .pointer (some ⟨q, 0, none⟩)) rfl (by decide) (by kernel_rfl) (fun _ _ _ h => h) (.inl ⟨by simp [Region.wanted], fun w7 _ => ?_⟩) (fun _ => HS.out) ?_
  · go_simp
  refine wpAnyT_takeW (i := 7) (v := .pointer (some ⟨q, 1, none⟩)) rfl (by decide) (by kernel_rfl) (fun _ _ _ h => h) (.inl ⟨by simp [Region.wanted], fun w7 _ => ?_⟩) (fun _ => HS.out) ?_
  · go_simp
  refine wpAnyT_takeP (i := 4) (v := .slice A0 ss.length c0) [9, 12] rfl (by decide) (by kernel_rfl) (fun _ _ _ h => h) (.inl ⟨by simp [Region.wanted], fun w7 hS7 => ?_⟩) HS.out ?_
  · (obtain ⟨s0, s1⟩ := hS7; go_simp)
  refine wpAnyT_takeP (i := 8) (v := .int .i64 (nmb u)) [9, 12] rfl (by decide) (by kernel_rfl) (fun _ _ _ h => h) (.inl ⟨by simp [Region.wanted], fun w7 hS7 => ?_⟩) HS.out ?_
  · (obtain ⟨s0, s1⟩ := hS7; go_simp)
  refine wpAnyT_ready (rs := [9]) (by kernel_rfl) (by simp) ?_
  refine AllT.cons rfl (fun K' hK => ?_) AllT.nil
  go_simp
  go_wp2_with (go_at_call 119; (refine HC.out.mono ?_); intro e9 w9 hM; rw [if_neg HLEN.out] at hM; obtain ⟨A1, c1, rfl, hr1, hg1, hn1⟩ := hM; have P := hid (H.out.1.up (drew_below w) |>.put hr1 hg1 hn1 HLEN.out HWN.out); have yq : w9.cell? ⟨q, 1, none⟩ = some (.int .i64 (nmb u)) := (show_cell H.out.2.1 H.out.2.2.1 hg1).cell 1; have yq2 : w9.cell? ⟨q, 2, none⟩ = some (.slice A9 (kids u).length c9) := (show_cell H.out.2.1 H.out.2.2.1 hg1).cell 2; clear hr1 hg1 hn1)
  refine hK.out _ _ (fun _ => ⟨P.out.2.2.2, yq⟩) ?_
  clear hK HS
  have HS := hid (And.intro P.out.2.2.2 yq)
  refine wpAnyT_takeW (i := 10) (v := .pointer (some ⟨M, 0, none⟩)) rfl (by decide) (by kernel_rfl) (fun _ _ _ h => h) (.inl ⟨by simp [Region.wanted], fun w7 _ => ?_⟩) (fun _ => HS.out) ?_
  · go_simp
  refine wpAnyT_takeW (i := 11) (v := .pointer (some ⟨M, 3, none⟩)) rfl (by decide) (by kernel_rfl) (fun _ _ _ h => h) (.inl ⟨by simp [Region.wanted], fun w7 _ => ?_⟩) (fun _ => HS.out) ?_
  · go_simp
  refine wpAnyT_ready (rs := [12]) (by kernel_rfl) (by simp) ?_
  refine AllT.cons rfl (fun K' hK => ?_) AllT.nil
  have fz := P.out.2.2.1
  have kc := P.out.2.2.2
  go_simp
  have HSh := hid P.out.1
  have HSg := hid (ShG.trans (ShG.of_below (drew_below w)) P.out.2.1)
  have yz2 : (w9.setCell ⟨M, 3, none⟩ (.slice A1 (ss.length + 1) c1)).cell? ⟨q, 2, none⟩ = some (.slice A9 (kids u).length c9) := (cell_of (w := w9) (b := q) (Below.heap_setCell _ _ _ _ H.out.2.2.1.2.1) rfl yq2)
  generalize w9.setCell ⟨M, 3, none⟩ (.slice A1 (ss.length + 1) c1) = wz at HSh HSg yz2 ⊢
  clear P HS fz kc yq yq2 z3 y0 y1 y2
  refine hK.out _ _ (fun h => absurd h (by decide)) ?_
  clear hK
  refine wpAnyT_done (by kernel_rfl) ?_ _
  go_wp2
  clear yz2
  go_loopg [29] (kids u).length (fun g z wr => ∃ (i : Nat) (l : List Int) (sv2 : Value), i + g = (kids u).length ∧ z = .int .i64 i ∧ Hid (Sh wr M F s wv sv2 l) ∧ Hid (showPL (kids u) (ss ++ [nmb u]) = showPL ((kids u).drop i) l) ∧ Hid (ShG M (.slice A0 ss.length c0) sv2 w wr))
  case atStart => exact ⟨0, _, _, by omega, rfl, HSh, hid rfl, HSg⟩
  case round =>
    obtain ⟨i, l, sv2, hi, rfl, hS2, hE, hG⟩ := hrel
    have Hi := hid hi
    by_cases hlt : i < (kids u).length
    · have hlt' : (i : Int) < (kids u).length := by omega
      obtain ⟨ad, p, hA, hSb, y9, hp⟩ := (PRow.keep (Ext.refl _) (fun k hk hl => hG.out.keepS k hk hl) _ _ _ H.out.2.2.2).get hlt
      subst hA
      rw [Nat.zero_add] at y9
      have hE2 := hE.out
      rw [showPL_at hlt] at hE2
      have C := hid (HI.out _ (List.getElem_mem hlt) l S φ M p F s wv sv2 wr hp hS2.out)
      generalize (kids u)[i] = t at C hE2
      cases hs : showP t l with
      | ok l2 =>
        rw [hs] at hE2
        have HE := hid hE2
        have HQ := hid hs
        clear hi hE hE2 hs hSb hp
        go_wp2_with (go_at_call 120; go_must (refine C.out.mono ?_); rw [HQ.out]; rintro e9 w5 ⟨rfl, sv5, h5, g5⟩; go_must (have G := hid (And.intro h5 g5); clear h5 g5))
        have hgk := Hi.out
        go_roundg (gk - 1)
        case rel => exact ⟨i + 1, l2, sv5, by omega, by go_num, hid G.out.1, HE, hid (hG.out.trans G.out.2)⟩
        case measure => omega
      | stop k =>
        rw [hs] at hE2
        have HE := hid hE2
        have HQ := hid hs
        clear hi hE hE2 hs hSb hp
        go_wp2_with (go_at_call 120; go_must (refine C.out.mono ?_); rw [HQ.out]; rintro e9 w5 ⟨rfl, sv5, l5, h5, g5⟩; go_must (have G := hid (And.intro h5 g5); clear h5 g5))
        rw [HE.out]
        exact ⟨rfl, sho_stop G.out.1 (hG.out.trans G.out.2)⟩
    · obtain rfl : i = (kids u).length := by omega
      have hE2 := hE.out
      rw [List.drop_length, showPL] at hE2
      have HE := hid hE2
      clear hi hE hE2 hlt
      go_wp2
      go_end0
      rw [HE.out]
      exact ⟨rfl, sv2, hS2.out, hG.out⟩
theorem run_show : ∀ (N : Nat) (u : Pv), SizeOf.sizeOf u ≤ N → ShH [u] := by
  intro N
  induction N with
  | zero => intro u hu; cases u <;> simp at hu
  | succ N ih =>
  intro u hu t ht ss S φ M q F s wv sv w hp h
  simp only [List.mem_singleton] at ht
  subst ht
  by_cases hk : knd t = 3
  · have e : showP t ss = .stop (-1) := by cases t <;> simp [knd] at hk <;> rw [showP]
    rw [e]
    exact show_fn t ss _ φ M q F s wv sv w hp h hk
  · rw [show_is t ss hk]
    unfold nxt
    by_cases hl : ss.length = 4096
    · rw [if_pos hl]
      exact show_long t ss S φ M q F s wv sv w hp h hk hl
    · rw [if_neg hl]
      refine show_go t ss S φ M q F s wv sv w hp h hk hl (fun c hc => ih c ?_ c (by simp))
      cases t with
      | con n us =>
        have := List.sizeOf_lt_of_mem hc
        simp [kids] at hc this
        simp at hu
        have h2 := List.sizeOf_lt_of_mem hc
        omega
      | zero => simp [kids] at hc
      | num n => simp [kids] at hc
      | fn ps b e => simp [kids] at hc
end Go.Proofs.Ytdmkjndlobichaa
