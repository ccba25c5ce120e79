/-
  THE WALKS OF slices.Index AND cpsrun's chosen.
-/
import Derived.Test.YtdmkjndlobichaaKMore
namespace Go.Proofs.Ytdmkjndlobichaa
set_option linter.all false
open Go.ChangeShapes Go.WideShapes Go.ChangeAt Go.RowKit Go.Maps
open Tm (Te Pv Fr armS tagP)
open Ev (idxI)
theorem idxI_le (ts : List Int) (n : Int) : idxI ts n ≤ ts.length := by
  induction ts with
  | nil => exact Nat.le_refl _
  | cons a ts ih => unfold idxI; split <;> simp <;> omega
theorem idxI_at {ts : List Int} {n : Int} {i : Nat} (hi : i < ts.length) (h : ts[i] = n) (hn : ∀ j, (hj : j < ts.length) → j < i → ts[j] ≠ n) : idxI ts n = i := by
  induction ts generalizing i with
  | nil => simp at hi
  | cons a ts ih =>
    unfold idxI
    cases i with
    | zero => rw [if_pos (show a = n from h)]
    | succ i =>
      rw [if_neg (show ¬ a = n from hn 0 (by simp) (by omega))]
      rw [ih (by simpa using hi) h (fun j hj hji => hn (j + 1) (by simp; omega) (by omega))]
theorem idxI_none {ts : List Int} {n : Int} (hn : ∀ j, (hj : j < ts.length) → ts[j] ≠ n) : idxI ts n = ts.length := by
  induction ts with
  | nil => rfl
  | cons a ts ih =>
    unfold idxI
    rw [if_neg (show ¬ a = n from hn 0 (by simp))]
    rw [ih (fun j hj => hn (j + 1) (by simp; omega))]
    rfl
def IndexP (ts : List Int) (n : Int) (w : World) (e : Ending) (w' : World) : Prop := (∃ r : Int, e = .returned (.int .i64 r) ∧ ((r = idxI ts n ∧ idxI ts n < ts.length) ∨ (r = -1 ∧ idxI ts n = ts.length))) ∧ Below w.heap.size w w'
set_option maxHeartbeats 4000000 in
set_option maxRecDepth 100000 in
theorem index_ints (ts : List Int) (n : Int) (T : Option Addr) (tc : Nat) (S : Nat → Prop) (w : World) (hI : IAt w S ts T tc) : Calls Try.prog 129 #[.slice T ts.length tc, .int .i64 n] w (IndexP ts n w) := by
  have HI := hid hI
  have ht := hI.1.2.2.2
  clear hI
  go_enter Try.func129, Try.ntmps129
  go_wp2
  go_loopg [8] ts.length (fun g z wr => ∃ i : Nat, i + g = ts.length ∧ z = .int .i64 i ∧ Hid (Below w.heap.size w wr) ∧ Hid (∀ j, (hj : j < ts.length) → j < i → ts[j] ≠ n))
  case atStart => exact ⟨0, by omega, rfl, hid (Below.refl _ _), hid (fun j hj h => by omega)⟩
  case round =>
    obtain ⟨i, hi, rfl, hb, hn⟩ := hrel
    have Hi := hid hi
    by_cases hlt : i < ts.length
    case neg =>
      obtain rfl : i = ts.length := by omega
      clear hi
      go_wp2
      go_ret
      exact ⟨⟨-1, rfl, .inr ⟨rfl, idxI_none (fun j hj => hn.out j hj hj)⟩⟩, hb.out⟩
    have hlt' : (i : Int) < ts.length := by omega
    obtain ⟨ad, rfl, hS9, y0, hwf⟩ := (HI.out.keep (fun b hb' hl => ⟨hb.out.block b hl, hb'⟩)).2 i hlt
    obtain ⟨t, ht9⟩ : ∃ t, t = ts[i]'hlt := ⟨_, rfl⟩
    have HT := hid ht9
    have HLT := hid hlt
    replace y0 : wr.cell? (ad.add i) = some (.int .i64 t) := by rw [ht9]; exact y0
    clear hi ht9 hwf hS9
    by_cases he : n = t
    · subst he
      go_wp2
      go_ret
      exact ⟨⟨i, rfl, .inl (by have := idxI_at HLT.out HT.out.symm hn.out; exact ⟨by rw [this], by rw [this]; exact HLT.out⟩)⟩, hb.out⟩
    · have he2 : (n == t) = false := by simpa using he
      have HE := hid he
      clear he
      go_wp2
      have hgk := Hi.out
      go_roundg (gk - 1)
      case rel => exact ⟨i + 1, by omega, by go_num, hb, hid (fun j hj hji => by
        by_cases hjj : j = i
        · subst hjj; rw [← HT.out]; exact fun h => HE.out h.symm
        · exact hn.out j hj (by omega))⟩
      case measure => omega

/-- Where a term is handed back, or it stops. -/
def TerP (o : Option Te) (S : Nat → Prop) (w : World) (e : Ending) (w' : World) : Prop := (match o with
  | some t => ∃ p, e = .returned (.pointer (some p)) ∧ TPt w' S p t
  | none => e = .panicked [stopK (-1)]) ∧ Below w.heap.size w w'
theorem tag_kind {i : Bool} {u : Pv} {n : Int} (h : tagP i u = some n) : nmb u = n ∧ (i = true → (knd u == 1) = true) ∧ (i = false → (knd u == 2) = true) := by
  cases u <;> cases i <;> simp [tagP] at h <;> simp [nmb, knd, h]
theorem tag_no {i : Bool} {u : Pv} (h : tagP i u = none) : (i = true → (knd u == 1) = false) ∧ (i = false → (knd u == 2) = false) := by
  cases u <;> cases i <;> simp [tagP] at h <;> simp [knd]
set_option maxHeartbeats 8000000 in
set_option maxRecDepth 100000 in
theorem chosen_no (k x n : Int) (i : Bool) (ts : List Int) (ats : List (Bool × Int)) (fh : List (Int × List Int)) (fb us : List Te) (u : Pv) (S : Nat → Prop) (φ : List (Nat × Nat)) (p : Addr) (q : Nat) (w : World) (ht : TPt w S p (.mk k x n i ts ats fh fb us)) (hu : PAt w S φ u q) (hn : tagP i u = none) :
    Calls Try.prog 118 #[.pointer (some p), .pointer (some ⟨q, 0, none⟩)] w fun e w' => e = .panicked [stopK (-1)] ∧ Below w.heap.size w w' := by
  obtain ⟨T, tc, A, ac, F, fc, U, uc, ⟨x0, x1, x2, x3, x4, x5, x6, x7⟩, _⟩ := ht.cells
  obtain ⟨A9, c9, f9, e9, hb9, _⟩ := hu.cells
  have y0 : w.cell? ⟨q, 0, none⟩ = some (.int .i64 (knd u)) := hb9.cell 0
  have y1 : w.cell? ⟨q, 1, none⟩ = some (.int .i64 (nmb u)) := hb9.cell 1
  obtain ⟨d1, d2⟩ := tag_no hn
  clear ht hu hb9 hn
  cases i
  · have d := d2 rfl
    clear d1 d2
    go_enter Try.func118, Try.ntmps118
    go_wp2_with (go_at_call 114; go_must (refine (want_no _).mono ?_); rintro e9 w2 ⟨rfl, rfl⟩)
    exact ⟨rfl, rfl, Below.refl _ _⟩
  · have d := d1 rfl
    clear d1 d2
    go_enter Try.func118, Try.ntmps118
    go_wp2_with (go_at_call 114; go_must (refine (want_no _).mono ?_); rintro e9 w2 ⟨rfl, rfl⟩)
    exact ⟨rfl, rfl, Below.refl _ _⟩
set_option maxHeartbeats 8000000 in
set_option maxRecDepth 100000 in
theorem chosen_yes (k x n c : Int) (i : Bool) (ts : List Int) (ats : List (Bool × Int)) (fh : List (Int × List Int)) (fb us : List Te) (u : Pv) (S : Nat → Prop) (φ : List (Nat × Nat)) (p : Addr) (q : Nat) (w : World) (ht : TPt w S p (.mk k x n i ts ats fh fb us)) (hu : PAt w S φ u q) (hn : tagP i u = some c) :
    Calls Try.prog 118 #[.pointer (some p), .pointer (some ⟨q, 0, none⟩)] w (TerP us[idxI ts c]? S w) := by
  obtain ⟨T, tc, A, ac, F, fc, U, uc, ⟨x0, x1, x2, x3, x4, x5, x6, x7⟩, hI, hA, hF, hfe, hfr, hU, hrow, hwf⟩ := ht.cells
  obtain ⟨A9, c9, f9, e9, hb9, _⟩ := hu.cells
  obtain ⟨hc, d1, d2⟩ := tag_kind hn
  have y0 : w.cell? ⟨q, 0, none⟩ = some (.int .i64 (knd u)) := hb9.cell 0
  have y1 : w.cell? ⟨q, 1, none⟩ = some (.int .i64 (nmb u)) := hb9.cell 1
  rw [hc] at y1
  have hpl : p.block < w.heap.size := cell_lt x0
  have hql := hb9.lt
  have htl := hI.1.2.2.2
  have hul := hU.2.2.2
  have hT : ts.length ≤ 281474976710656 := by omega
  have hUl : us.length ≤ 281474976710656 := by omega
  have H := hid (And.intro hI (And.intro hrow (And.intro hU (And.intro x4 (And.intro x7 (And.intro hpl hql))))))
  have Y := hid y1
  have hidx := idxI_le ts c
  have hget : us[idxI ts c]? = if h : idxI ts c < us.length then some us[idxI ts c] else none := by
    by_cases h : idxI ts c < us.length
    · rw [dif_pos h, List.getElem?_eq_getElem h]
    · rw [dif_neg h, List.getElem?_eq_none (by omega)]
  have HG := hid hget
  have HIX := hid hidx
  have keyT : ∀ (w1 : World) (h : idxI ts c < us.length), Below w.heap.size w w1 → ∃ ad, U = some ad ∧ TPt w1 S (ad.add (idxI ts c * 8)) us[idxI ts c] := fun w1 h hb => (hrow.up hb).pt h
  have HK := hid keyT
  clear ht hu hb9 hn hc hI hrow hU hget hidx keyT hA hF hfe hfr hwf htl hul
  by_cases hlt : idxI ts c < us.length
  · obtain ⟨ad, hUa, _⟩ := HK.out w hlt (Below.refl _ _)
    subst hUa
    have hlt' : (idxI ts c : Int) < us.length := by omega
    have HP := hid (fun (w1 : World) (hb : Below w.heap.size w w1) => HK.out w1 hlt hb)
    have e9 : us[idxI ts c]? = some us[idxI ts c] := List.getElem?_eq_getElem hlt
    rw [e9]
    generalize us[idxI ts c] = tt at HP ⊢
    generalize hix : idxI ts c = ix at *
    clear HK HG e9
    cases i
    all_goals
      first
        | have d := d2 rfl
        | have d := d1 rfl
      clear d1 d2
      go_enter Try.func118, Try.ntmps118
      go_wp2_with (go_at_call 114; go_must (refine (want_yes _).mono ?_); rintro e9 w2 ⟨rfl, rfl⟩)
      go_region_held3 (fun w' => w'.cell? ⟨p.block, p.off + 4, none⟩ = some (.slice T ts.length tc) ∧ w'.cell? ⟨q, 1, none⟩ = some (.int .i64 c)) (first | with_reducible exact ⟨x4, y1⟩ | go_keep) (first | (go_at_call 129; (refine (index_ints ts c T tc S _ (H.out.1.up (drew_below _))).mono ?_); rintro e9 w2 ⟨⟨r, rfl, hr⟩, b1⟩; rw [hix] at hr; have HR := hid hr; have BB := hid (below_hop b1 (drew_below _)); clear x4 x7 y1; have x4 : w2.cell? ⟨p.block, p.off + 4, none⟩ = some (.slice T ts.length tc) := (BB.out.cell (p := ⟨p.block, p.off + 4, none⟩) H.out.2.2.2.2.2.1).trans H.out.2.2.2.1; have y1 : w2.cell? ⟨q, 1, none⟩ = some (.int .i64 c) := (BB.out.cell (p := ⟨q, 1, none⟩) H.out.2.2.2.2.2.2).trans Y.out; have x7 : w2.cell? ⟨p.block, p.off + 7, none⟩ = some (.slice (some ad) us.length uc) := (BB.out.cell (p := ⟨p.block, p.off + 7, none⟩) H.out.2.2.2.2.2.1).trans H.out.2.2.2.2.1; clear hr b1))
      rcases HR.out with ⟨hr1, hr2⟩ | ⟨hr1, hr2⟩
      · have hr3 : ¬ r < 0 := by omega
        subst hr1
        clear HR
        go_wp2_with (go_at_call 114; go_must (refine (want_yes _).mono ?_); rintro e9 w3 ⟨rfl, rfl⟩)
        go_ret
        obtain ⟨ad2, e2, h2⟩ := HP.out _ BB.out
        injection e2 with e2
        subst e2
        exact ⟨⟨_, rfl, h2⟩, BB.out⟩
      · have hr3 : r < 0 := by omega
        subst hr1
        rw [hr2] at hlt' HP
        clear HR
        go_wp2_with (go_at_call 114; go_must (refine (want_yes _).mono ?_); rintro e9 w3 ⟨rfl, rfl⟩)
        go_ret
        obtain ⟨ad2, e2, h2⟩ := HP.out _ BB.out
        injection e2 with e2
        subst e2
        exact ⟨⟨_, rfl, h2⟩, BB.out⟩
  · have hlt' : ¬ (idxI ts c : Int) < us.length := by omega
    have e9 : us[idxI ts c]? = none := List.getElem?_eq_none (by omega)
    rw [e9]
    generalize hix : idxI ts c = ix at *
    clear HK HG e9
    cases i
    all_goals
      first
        | have d := d2 rfl
        | have d := d1 rfl
      clear d1 d2
      go_enter Try.func118, Try.ntmps118
      go_wp2_with (go_at_call 114; go_must (refine (want_yes _).mono ?_); rintro e9 w2 ⟨rfl, rfl⟩)
      go_region_held3 (fun w' => w'.cell? ⟨p.block, p.off + 4, none⟩ = some (.slice T ts.length tc) ∧ w'.cell? ⟨q, 1, none⟩ = some (.int .i64 c)) (first | with_reducible exact ⟨x4, y1⟩ | go_keep) (first | (go_at_call 129; (refine (index_ints ts c T tc S _ (H.out.1.up (drew_below _))).mono ?_); rintro e9 w2 ⟨⟨r, rfl, hr⟩, b1⟩; rw [hix] at hr; have HR := hid hr; have BB := hid (below_hop b1 (drew_below _)); clear x4 x7 y1; have x4 : w2.cell? ⟨p.block, p.off + 4, none⟩ = some (.slice T ts.length tc) := (BB.out.cell (p := ⟨p.block, p.off + 4, none⟩) H.out.2.2.2.2.2.1).trans H.out.2.2.2.1; have y1 : w2.cell? ⟨q, 1, none⟩ = some (.int .i64 c) := (BB.out.cell (p := ⟨q, 1, none⟩) H.out.2.2.2.2.2.2).trans Y.out; have x7 : w2.cell? ⟨p.block, p.off + 7, none⟩ = some (.slice U us.length uc) := (BB.out.cell (p := ⟨p.block, p.off + 7, none⟩) H.out.2.2.2.2.2.1).trans H.out.2.2.2.2.1; clear hr b1))
      rcases HR.out with ⟨hr1, hr2⟩ | ⟨hr1, hr2⟩
      · have hr3 : ¬ r < 0 := by omega
        subst hr1
        clear HR
        go_wp2_with (go_at_call 114; go_must (refine (want_no _).mono ?_); rintro e9 w3 ⟨rfl, rfl⟩)
        exact ⟨rfl, rfl, BB.out⟩
      · have hr3 : r < 0 := by omega
        subst hr1
        rw [hr2] at hlt'
        have hd : decide (ts.length < us.length) = false := by simp; omega
        clear HR
        go_wp2_with (go_at_call 114; go_must (refine (want_no _).mono ?_); rintro e9 w3 ⟨rfl, rfl⟩)
        exact ⟨rfl, rfl, BB.out⟩
theorem run_chosen (k x n : Int) (i : Bool) (ts : List Int) (ats : List (Bool × Int)) (fh : List (Int × List Int)) (fb us : List Te) (u : Pv) (S : Nat → Prop) (φ : List (Nat × Nat)) (p : Addr) (q : Nat) (w : World) (ht : TPt w S p (.mk k x n i ts ats fh fb us)) (hu : PAt w S φ u q) :
    Calls Try.prog 118 #[.pointer (some p), .pointer (some ⟨q, 0, none⟩)] w (TerP (armS i ts us u) S w) := by
  unfold armS
  cases hn : tagP i u with
  | none => exact (chosen_no k x n i ts ats fh fb us u S φ p q w ht hu hn).mono (fun e w' h => h)
  | some c => exact chosen_yes k x n c i ts ats fh fb us u S φ p q w ht hu hn
end Go.Proofs.Ytdmkjndlobichaa
