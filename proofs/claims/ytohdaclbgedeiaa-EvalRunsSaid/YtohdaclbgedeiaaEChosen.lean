/-
  THE WALKS OF slices.Index OF INTEGERS AND OF eval.chosen.
-/
import Derived.Test.YtohdaclbgedeiaaEApplied
namespace Go.Proofs.Ytohdaclbgedeiaa
set_option linter.all false
open Go.ChangeShapes Go.WideShapes Go.ChangeAt Go.RowKit
open Ev (Co Va En Out arm tagOf idxI)
theorem idxI_le (ts : List Int) (n : Int) : idxI ts n ≤ ts.length := by
  induction ts with
  | nil => exact Nat.le_refl _
  | cons a ts ih => unfold idxI; split <;> simp <;> omega
theorem idxI_at {ts : List Int} {n : Int} {i : Nat} (hi : i < ts.length) (h : ts[i] = n) (hn : ∀ j, (hj : j < ts.length) → j < i → ts[j] ≠ n) : idxI ts n = i := by
  induction ts generalizing i with
  | nil => simp at hi
  | cons a ts ih =>
    unfold idxI
    cases i with
    | zero => rw [if_pos (show a = n from h)]
    | succ i =>
      rw [if_neg (show ¬ a = n from hn 0 (by simp) (by omega))]
      rw [ih (by simpa using hi) h (fun j hj hji => hn (j + 1) (by simp; omega) (by omega))]
theorem idxI_none {ts : List Int} {n : Int} (hn : ∀ j, (hj : j < ts.length) → ts[j] ≠ n) : idxI ts n = ts.length := by
  induction ts with
  | nil => rfl
  | cons a ts ih =>
    unfold idxI
    rw [if_neg (show ¬ a = n from hn 0 (by simp))]
    rw [ih (fun j hj => hn (j + 1) (by simp; omega))]
    rfl
def IndexP (ts : List Int) (n : Int) (w : World) (e : Ending) (w' : World) : Prop := (∃ r : Int, e = .returned (.int .i64 r) ∧ ((r = idxI ts n ∧ idxI ts n < ts.length) ∨ (r = -1 ∧ idxI ts n = ts.length))) ∧ Below w.heap.size w w'
set_option maxHeartbeats 4000000 in
set_option maxRecDepth 100000 in
theorem index_ints (ts : List Int) (n : Int) (T : Option Addr) (tc : Nat) (S : Nat → Prop) (w : World) (hI : IAt w S ts T tc) : Calls Try.prog 70 #[.slice T ts.length tc, .int .i64 n] w (IndexP ts n w) := by
  have HI := hid hI
  have ht := hI.1.2.2.2
  clear hI
  go_enter Try.func70, Try.ntmps70
  go_wp2
  go_loopg [8] ts.length (fun g z wr => ∃ i : Nat, i + g = ts.length ∧ z = .int .i64 i ∧ Hid (Below w.heap.size w wr) ∧ Hid (∀ j, (hj : j < ts.length) → j < i → ts[j] ≠ n))
  case atStart => exact ⟨0, by omega, rfl, hid (Below.refl _ _), hid (fun j hj h => by omega)⟩
  case round =>
    obtain ⟨i, hi, rfl, hb, hn⟩ := hrel
    have Hi := hid hi
    by_cases hlt : i < ts.length
    case neg =>
      obtain rfl : i = ts.length := by omega
      clear hi
      go_wp2
      go_ret
      exact ⟨⟨-1, rfl, .inr ⟨rfl, idxI_none (fun j hj => hn.out j hj hj)⟩⟩, hb.out⟩
    have hlt' : (i : Int) < ts.length := by omega
    obtain ⟨ad, rfl, hS9, y0, hwf⟩ := (HI.out.keep (fun b hb' hl => ⟨hb.out.block b hl, hb'⟩)).2 i hlt
    obtain ⟨t, ht9⟩ : ∃ t, t = ts[i]'hlt := ⟨_, rfl⟩
    have HT := hid ht9
    have HLT := hid hlt
    replace y0 : wr.cell? (ad.add i) = some (.int .i64 t) := by rw [ht9]; exact y0
    clear hi ht9 hwf hS9
    by_cases he : n = t
    · subst he
      go_wp2
      go_ret
      exact ⟨⟨i, rfl, .inl (by have := idxI_at HLT.out HT.out.symm hn.out; exact ⟨by rw [this], by rw [this]; exact HLT.out⟩)⟩, hb.out⟩
    · have he2 : (n == t) = false := by simpa using he
      have HE := hid he
      clear he
      go_wp2
      have hgk := Hi.out
      go_roundg (gk - 1)
      case rel => exact ⟨i + 1, by omega, by go_num, hb, hid (fun j hj hji => by
        by_cases hjj : j = i
        · subst hjj; rw [← HT.out]; exact fun h => HE.out h.symm
        · exact hn.out j hj (by omega))⟩
      case measure => omega
theorem want_b (b : Bool) (w : World) : Calls Try.prog 62 #[.bool b] w fun e w' => ((b = true ∧ e = .returned (.tuple #[])) ∨ (b = false ∧ e = .panicked [stopV (-1)])) ∧ w' = w := by
  cases b
  · exact (want_no w).mono (fun e w' h => ⟨.inr ⟨rfl, h.1⟩, h.2⟩)
  · exact (want_yes w).mono (fun e w' h => ⟨.inl ⟨rfl, h.1⟩, h.2⟩)
def ChoP (i : Bool) (ts : List Int) (rest : List Co) (u : Va) (S : Nat → Prop) (w : World) (e : Ending) (w' : World) : Prop := (match arm i ts rest u with | some c => ∃ p2, e = .returned (.pointer (some p2)) ∧ CPt w' S p2 c | none => e = .panicked [stopV (-1)]) ∧ Below w.heap.size w w'
theorem cho_none {i : Bool} {ts : List Int} {rest : List Co} {u : Va} {S : Nat → Prop} {w w' : World} (h : arm i ts rest u = none) (hb : Below w.heap.size w w') : ChoP i ts rest u S w (.panicked [stopV (-1)]) w' := ⟨by rw [h], hb⟩
theorem arm_num {i : Bool} {ts : List Int} {rest : List Co} {u : Va} {m : Int} (h : tagOf i u = some m) : arm i ts rest u = rest[idxI ts m]? := by unfold arm; rw [h]
theorem arm_no {i : Bool} {ts : List Int} {rest : List Co} {u : Va} (h : tagOf i u = none) : arm i ts rest u = none := by unfold arm; rw [h]
theorem cho_some {i : Bool} {ts : List Int} {rest : List Co} {a : Co} {u : Va} {S : Nat → Prop} {w w1 : World} {m : Int} {j : Nat} {A : Option Addr} (ht : tagOf i u = some m) (hj : j = idxI ts m) (hlt : j + 1 < (a :: rest).length) (hrow : CRow w S (a :: rest) A 0) (hb : Below w.heap.size w w1) :
    ∃ ad, A = some ad ∧ ∀ p2, p2 = ad.add ((j + 1) * 7) → ChoP i ts rest u S w (.returned (.pointer (some p2))) w1 := by
  obtain ⟨ad, h1, h2⟩ := hrow.pt hlt
  refine ⟨ad, h1, fun p2 hp => ⟨?_, hb⟩⟩
  have hlt2 : j < rest.length := by simpa using hlt
  have e : arm i ts rest u = some rest[j] := by rw [arm_num ht, ← hj, List.getElem?_eq_getElem hlt2]
  rw [e]
  subst hp
  exact ⟨_, rfl, h2.up hb⟩
set_option maxHeartbeats 4000000 in
set_option maxRecDepth 100000 in
theorem chosen_num (cp : Addr) (k x y n : Int) (ts : List Int) (a : Co) (rest : List Co) (m : Int) (S : Nat → Prop) (w : World) (hc : CPt w S cp (.mk k x y n true ts (a :: rest))) :
    Calls Try.prog 63 #[.pointer (some cp), .iface 86 (.int .i64 m)] w (ChoP true ts rest (.num m) S w) := by
  obtain ⟨T, tc, A, c, hcells, hI, hsz, hrow, hwf⟩ := hc.cells
  have h1 := as_int_num m
  obtain ⟨j, hj⟩ : ∃ j, j = idxI ts m := ⟨_, rfl⟩
  have HJ := hid hj
  have hjl := idxI_le ts m
  rw [← hj] at hjl
  have htl := hI.1.2.2.2
  have hul := hsz.2.2.2
  have hlc := cell_lt hcells.1
  obtain ⟨l, hl⟩ : ∃ l, l = (a :: rest).length := ⟨_, rfl⟩
  rw [← hl] at hcells hul
  have HC := hid (And.intro hcells (And.intro hlc (And.intro hI hrow)))
  obtain ⟨z0, z1, z2, z3, z4, z5, z6⟩ := hcells
  have q1 : IntKind.i64.wrap ((j : Int) + 1) = (j : Int) + 1 := IntWalk.i64_in _ (by omega)
  have HL := hid hl
  clear hc hI hsz hrow hwf hlc hl hj
  by_cases hin : j < ts.length
  · have HIN := hid hin
    by_cases hlt : j + 1 < l
    · have D1 := hid (show decide ((j : Int) + 1 < (l : Int)) = true from decide_eq_true (by omega))
      obtain ⟨ad, rfl, hfin⟩ := cho_some (i := true) (u := .num m) (w := w) (w1 := w) rfl HJ.out (by rw [← HL.out]; exact hlt) HC.out.2.2.2 (Below.refl _ _)
      clear hfin
      go_enter Try.func63, Try.ntmps63
      go_wp2_with (first | (go_at_call 70; go_must (refine (index_ints ts m T tc S _ (HC.out.2.2.1)).mono ?_); rintro e w1 ⟨⟨r, rfl, hr⟩, b1⟩; go_must (have hr2 : r = j := by (have := HJ.out; have := HIN.out; omega)); go_must (subst hr2; have B1 := hid b1; obtain ⟨y0, y1, y2, y3, y4, y5, y6⟩ := at7_keep (b1.block cp.block HC.out.2.1) rfl HC.out.1; clear hr b1)) | (go_at_call 62; (try rw [D1.out]); first | (refine (want_yes _).mono ?_; rintro e w9 ⟨rfl, h9⟩; have h8 := h9.symm; subst h8; clear h9) | (refine (want_no _).mono ?_; rintro e w9 ⟨rfl, h9⟩; have h8 := h9.symm; subst h8; clear h9)))
      go_ret; (obtain ⟨ad2, e2, hfin⟩ := cho_some (i := true) (u := .num m) (w := w) (w1 := w1) (by rfl) HJ.out (by rw [← HL.out]; exact hlt) HC.out.2.2.2 B1.out); injection e2 with e2; subst e2; exact hfin _ rfl
    · have D1 := hid (show decide ((j : Int) + 1 < (l : Int)) = false from decide_eq_false (by omega))
      go_enter Try.func63, Try.ntmps63
      go_wp2_with (first | (go_at_call 70; go_must (refine (index_ints ts m T tc S _ (HC.out.2.2.1)).mono ?_); rintro e w1 ⟨⟨r, rfl, hr⟩, b1⟩; go_must (have hr2 : r = j := by (have := HJ.out; have := HIN.out; omega)); go_must (subst hr2; have B1 := hid b1; obtain ⟨y0, y1, y2, y3, y4, y5, y6⟩ := at7_keep (b1.block cp.block HC.out.2.1) rfl HC.out.1; clear hr b1)) | (go_at_call 62; (try rw [D1.out]); first | (refine (want_yes _).mono ?_; rintro e w9 ⟨rfl, h9⟩; have h8 := h9.symm; subst h8; clear h9) | (refine (want_no _).mono ?_; rintro e w9 ⟨rfl, h9⟩; have h8 := h9.symm; subst h8; clear h9)))
      exact ⟨rfl, cho_none (by rw [arm_num (m := m) (by rfl), ← HJ.out]; exact List.getElem?_eq_none (by have := HL.out; simp at this; omega)) B1.out⟩
  · obtain rfl : j = ts.length := by omega
    have HIN := hid hin
    by_cases hlt : ts.length + 1 < l
    · have D1 := hid (show decide ((ts.length : Int) + 1 < (l : Int)) = true from decide_eq_true (by omega))
      obtain ⟨ad, rfl, hfin⟩ := cho_some (i := true) (u := .num m) (w := w) (w1 := w) rfl HJ.out (by rw [← HL.out]; exact hlt) HC.out.2.2.2 (Below.refl _ _)
      clear hfin
      go_enter Try.func63, Try.ntmps63
      go_wp2_with (first | (go_at_call 70; go_must (refine (index_ints ts m T tc S _ (HC.out.2.2.1)).mono ?_); rintro e w1 ⟨⟨r, rfl, hr⟩, b1⟩; go_must (have hr2 : r = -1 := by (have := HJ.out; have := HIN.out; omega)); go_must (subst hr2; have B1 := hid b1; obtain ⟨y0, y1, y2, y3, y4, y5, y6⟩ := at7_keep (b1.block cp.block HC.out.2.1) rfl HC.out.1; clear hr b1)) | (go_at_call 62; (try rw [D1.out]); first | (refine (want_yes _).mono ?_; rintro e w9 ⟨rfl, h9⟩; have h8 := h9.symm; subst h8; clear h9) | (refine (want_no _).mono ?_; rintro e w9 ⟨rfl, h9⟩; have h8 := h9.symm; subst h8; clear h9)))
      go_ret; (obtain ⟨ad2, e2, hfin⟩ := cho_some (i := true) (u := .num m) (w := w) (w1 := w1) (by rfl) HJ.out (by rw [← HL.out]; exact hlt) HC.out.2.2.2 B1.out); injection e2 with e2; subst e2; exact hfin _ rfl
    · have D1 := hid (show decide ((ts.length : Int) + 1 < (l : Int)) = false from decide_eq_false (by omega))
      go_enter Try.func63, Try.ntmps63
      go_wp2_with (first | (go_at_call 70; go_must (refine (index_ints ts m T tc S _ (HC.out.2.2.1)).mono ?_); rintro e w1 ⟨⟨r, rfl, hr⟩, b1⟩; go_must (have hr2 : r = -1 := by (have := HJ.out; have := HIN.out; omega)); go_must (subst hr2; have B1 := hid b1; obtain ⟨y0, y1, y2, y3, y4, y5, y6⟩ := at7_keep (b1.block cp.block HC.out.2.1) rfl HC.out.1; clear hr b1)) | (go_at_call 62; (try rw [D1.out]); first | (refine (want_yes _).mono ?_; rintro e w9 ⟨rfl, h9⟩; have h8 := h9.symm; subst h8; clear h9) | (refine (want_no _).mono ?_; rintro e w9 ⟨rfl, h9⟩; have h8 := h9.symm; subst h8; clear h9)))
      exact ⟨rfl, cho_none (by rw [arm_num (m := m) (by rfl), ← HJ.out]; exact List.getElem?_eq_none (by have := HL.out; simp at this; omega)) B1.out⟩
set_option maxHeartbeats 4000000 in
set_option maxRecDepth 100000 in
theorem chosen_con (cp : Addr) (k x y n : Int) (ts : List Int) (a : Co) (rest : List Co) (m : Int) (us : List Va) (p : Nat) (v1 : Value) (S : Nat → Prop) (w : World) (hc : CPt w S cp (.mk k x y n false ts (a :: rest))) (hp : Blk w p 82 #[.int .i64 m, v1]) :
    Calls Try.prog 63 #[.pointer (some cp), .iface 79 (.pointer (some ⟨p, 0, none⟩))] w (ChoP false ts rest (.con m us) S w) := by
  obtain ⟨T, tc, A, c, hcells, hI, hsz, hrow, hwf⟩ := hc.cells
  have h1 := as_int_con (some ⟨p, 0, none⟩)
  have h2 := as_con_con (some ⟨p, 0, none⟩)
  have c0 := hp.cell 0
  clear hp
  obtain ⟨j, hj⟩ : ∃ j, j = idxI ts m := ⟨_, rfl⟩
  have HJ := hid hj
  have hjl := idxI_le ts m
  rw [← hj] at hjl
  have htl := hI.1.2.2.2
  have hul := hsz.2.2.2
  have hlc := cell_lt hcells.1
  obtain ⟨l, hl⟩ : ∃ l, l = (a :: rest).length := ⟨_, rfl⟩
  rw [← hl] at hcells hul
  have HC := hid (And.intro hcells (And.intro hlc (And.intro hI hrow)))
  obtain ⟨z0, z1, z2, z3, z4, z5, z6⟩ := hcells
  have q1 : IntKind.i64.wrap ((j : Int) + 1) = (j : Int) + 1 := IntWalk.i64_in _ (by omega)
  have HL := hid hl
  clear hc hI hsz hrow hwf hlc hl hj
  by_cases hin : j < ts.length
  · have HIN := hid hin
    by_cases hlt : j + 1 < l
    · have D1 := hid (show decide ((j : Int) + 1 < (l : Int)) = true from decide_eq_true (by omega))
      obtain ⟨ad, rfl, hfin⟩ := cho_some (i := false) (u := .con m us) (w := w) (w1 := w) rfl HJ.out (by rw [← HL.out]; exact hlt) HC.out.2.2.2 (Below.refl _ _)
      clear hfin
      go_enter Try.func63, Try.ntmps63
      go_wp2_with (first | (go_at_call 70; go_must (refine (index_ints ts m T tc S _ (HC.out.2.2.1)).mono ?_); rintro e w1 ⟨⟨r, rfl, hr⟩, b1⟩; go_must (have hr2 : r = j := by (have := HJ.out; have := HIN.out; omega)); go_must (subst hr2; have B1 := hid b1; obtain ⟨y0, y1, y2, y3, y4, y5, y6⟩ := at7_keep (b1.block cp.block HC.out.2.1) rfl HC.out.1; clear hr b1)) | (go_at_call 62; (try rw [D1.out]); first | (refine (want_yes _).mono ?_; rintro e w9 ⟨rfl, h9⟩; have h8 := h9.symm; subst h8; clear h9) | (refine (want_no _).mono ?_; rintro e w9 ⟨rfl, h9⟩; have h8 := h9.symm; subst h8; clear h9)))
      go_ret; (obtain ⟨ad2, e2, hfin⟩ := cho_some (i := false) (u := .con m us) (w := w) (w1 := w1) (by rfl) HJ.out (by rw [← HL.out]; exact hlt) HC.out.2.2.2 B1.out); injection e2 with e2; subst e2; exact hfin _ rfl
    · have D1 := hid (show decide ((j : Int) + 1 < (l : Int)) = false from decide_eq_false (by omega))
      go_enter Try.func63, Try.ntmps63
      go_wp2_with (first | (go_at_call 70; go_must (refine (index_ints ts m T tc S _ (HC.out.2.2.1)).mono ?_); rintro e w1 ⟨⟨r, rfl, hr⟩, b1⟩; go_must (have hr2 : r = j := by (have := HJ.out; have := HIN.out; omega)); go_must (subst hr2; have B1 := hid b1; obtain ⟨y0, y1, y2, y3, y4, y5, y6⟩ := at7_keep (b1.block cp.block HC.out.2.1) rfl HC.out.1; clear hr b1)) | (go_at_call 62; (try rw [D1.out]); first | (refine (want_yes _).mono ?_; rintro e w9 ⟨rfl, h9⟩; have h8 := h9.symm; subst h8; clear h9) | (refine (want_no _).mono ?_; rintro e w9 ⟨rfl, h9⟩; have h8 := h9.symm; subst h8; clear h9)))
      exact ⟨rfl, cho_none (by rw [arm_num (m := m) (by rfl), ← HJ.out]; exact List.getElem?_eq_none (by have := HL.out; simp at this; omega)) B1.out⟩
  · obtain rfl : j = ts.length := by omega
    have HIN := hid hin
    by_cases hlt : ts.length + 1 < l
    · have D1 := hid (show decide ((ts.length : Int) + 1 < (l : Int)) = true from decide_eq_true (by omega))
      obtain ⟨ad, rfl, hfin⟩ := cho_some (i := false) (u := .con m us) (w := w) (w1 := w) rfl HJ.out (by rw [← HL.out]; exact hlt) HC.out.2.2.2 (Below.refl _ _)
      clear hfin
      go_enter Try.func63, Try.ntmps63
      go_wp2_with (first | (go_at_call 70; go_must (refine (index_ints ts m T tc S _ (HC.out.2.2.1)).mono ?_); rintro e w1 ⟨⟨r, rfl, hr⟩, b1⟩; go_must (have hr2 : r = -1 := by (have := HJ.out; have := HIN.out; omega)); go_must (subst hr2; have B1 := hid b1; obtain ⟨y0, y1, y2, y3, y4, y5, y6⟩ := at7_keep (b1.block cp.block HC.out.2.1) rfl HC.out.1; clear hr b1)) | (go_at_call 62; (try rw [D1.out]); first | (refine (want_yes _).mono ?_; rintro e w9 ⟨rfl, h9⟩; have h8 := h9.symm; subst h8; clear h9) | (refine (want_no _).mono ?_; rintro e w9 ⟨rfl, h9⟩; have h8 := h9.symm; subst h8; clear h9)))
      go_ret; (obtain ⟨ad2, e2, hfin⟩ := cho_some (i := false) (u := .con m us) (w := w) (w1 := w1) (by rfl) HJ.out (by rw [← HL.out]; exact hlt) HC.out.2.2.2 B1.out); injection e2 with e2; subst e2; exact hfin _ rfl
    · have D1 := hid (show decide ((ts.length : Int) + 1 < (l : Int)) = false from decide_eq_false (by omega))
      go_enter Try.func63, Try.ntmps63
      go_wp2_with (first | (go_at_call 70; go_must (refine (index_ints ts m T tc S _ (HC.out.2.2.1)).mono ?_); rintro e w1 ⟨⟨r, rfl, hr⟩, b1⟩; go_must (have hr2 : r = -1 := by (have := HJ.out; have := HIN.out; omega)); go_must (subst hr2; have B1 := hid b1; obtain ⟨y0, y1, y2, y3, y4, y5, y6⟩ := at7_keep (b1.block cp.block HC.out.2.1) rfl HC.out.1; clear hr b1)) | (go_at_call 62; (try rw [D1.out]); first | (refine (want_yes _).mono ?_; rintro e w9 ⟨rfl, h9⟩; have h8 := h9.symm; subst h8; clear h9) | (refine (want_no _).mono ?_; rintro e w9 ⟨rfl, h9⟩; have h8 := h9.symm; subst h8; clear h9)))
      exact ⟨rfl, cho_none (by rw [arm_num (m := m) (by rfl), ← HJ.out]; exact List.getElem?_eq_none (by have := HL.out; simp at this; omega)) B1.out⟩

set_option maxHeartbeats 4000000 in
set_option maxRecDepth 100000 in
theorem chosen_num_no (cp : Addr) (k x y n : Int) (ts : List Int) (a : Co) (rest : List Co) (m : Int) (S : Nat → Prop) (w : World) (hc : CPt w S cp (.mk k x y n false ts (a :: rest))) :
    Calls Try.prog 63 #[.pointer (some cp), .iface 86 (.int .i64 m)] w (ChoP false ts rest (.num m) S w) := by
  obtain ⟨T, tc, A, c, ⟨z0, z1, z2, z3, z4, z5, z6⟩, hI, hsz, hrow, hwf⟩ := hc.cells
  have h1 := as_int_num m
  clear hc hI hsz hrow hwf
  go_enter Try.func63, Try.ntmps63
  go_wp2_with (go_at_call 62; (refine (want_no _).mono ?_; rintro e w9 ⟨rfl, h9⟩; have h8 := h9.symm; subst h8; clear h9))
  exact ⟨rfl, cho_none (arm_no (by rfl)) (Below.refl _ _)⟩
set_option maxHeartbeats 4000000 in
set_option maxRecDepth 100000 in
theorem chosen_con_no (cp : Addr) (k x y n : Int) (ts : List Int) (a : Co) (rest : List Co) (m : Int) (us : List Va) (p : Option Addr) (S : Nat → Prop) (w : World) (hc : CPt w S cp (.mk k x y n true ts (a :: rest))) :
    Calls Try.prog 63 #[.pointer (some cp), .iface 79 (.pointer p)] w (ChoP true ts rest (.con m us) S w) := by
  obtain ⟨T, tc, A, c, ⟨z0, z1, z2, z3, z4, z5, z6⟩, hI, hsz, hrow, hwf⟩ := hc.cells
  have h1 := as_int_con p
  have h2 := as_con_con p
  clear hc hI hsz hrow hwf
  go_enter Try.func63, Try.ntmps63
  go_wp2_with (go_at_call 62; (refine (want_no _).mono ?_; rintro e w9 ⟨rfl, h9⟩; have h8 := h9.symm; subst h8; clear h9))
  exact ⟨rfl, cho_none (arm_no (by rfl)) (Below.refl _ _)⟩
set_option maxHeartbeats 4000000 in
set_option maxRecDepth 100000 in
theorem chosen_fun (cp : Addr) (k x y n : Int) (i : Bool) (ts : List Int) (a : Co) (rest : List Co) (x2 self : Int) (b : Co) (e : En) (p : Option Addr) (S : Nat → Prop) (w : World) (hc : CPt w S cp (.mk k x y n i ts (a :: rest))) :
    Calls Try.prog 63 #[.pointer (some cp), .iface 103 (.pointer p)] w (ChoP i ts rest (.clo x2 self b e) S w) := by
  obtain ⟨T, tc, A, c, ⟨z0, z1, z2, z3, z4, z5, z6⟩, hI, hsz, hrow, hwf⟩ := hc.cells
  have h1 := as_int_fun p
  have h2 := as_con_fun p
  clear hc hI hsz hrow hwf
  go_enter Try.func63, Try.ntmps63
  go_wp2_with (go_at_call 62; (refine (want_no _).mono ?_; rintro e w9 ⟨rfl, h9⟩; have h8 := h9.symm; subst h8; clear h9))
  exact ⟨rfl, cho_none (arm_no (by rfl)) (Below.refl _ _)⟩
theorem eval_chosen (cp : Addr) (k x y n : Int) (i : Bool) (ts : List Int) (a : Co) (rest : List Co) (u : Va) (v : Value) (S : Nat → Prop) (w : World) (hc : CPt w S cp (.mk k x y n i ts (a :: rest))) (hu : VAt w S u v) : Calls Try.prog 63 #[.pointer (some cp), v] w (ChoP i ts rest u S w) := by
  cases u with
  | num m =>
    rw [VAt] at hu
    obtain ⟨rfl, _⟩ := hu
    cases i
    · exact chosen_num_no cp k x y n ts a rest m S w hc
    · exact chosen_num cp k x y n ts a rest m S w hc
  | con m us =>
    rw [VAt] at hu
    obtain ⟨⟨p, A, c, rfl, _, hp, _⟩, _⟩ := hu
    cases i
    · exact chosen_con cp k x y n ts a rest m us p _ S w hc hp
    · exact chosen_con_no cp k x y n ts a rest m us _ S w hc
  | clo x2 self b e =>
    rw [VAt] at hu
    obtain ⟨p, bp, ep, rfl, _⟩ := hu
    exact chosen_fun cp k x y n i ts a rest x2 self b e _ S w hc
end Go.Proofs.Ytohdaclbgedeiaa
