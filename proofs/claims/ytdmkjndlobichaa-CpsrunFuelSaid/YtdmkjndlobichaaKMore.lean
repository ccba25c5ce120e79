/-
  THE WALKS OF cpsrun's atoms, prim, more.
-/
import Derived.Test.YtdmkjndlobichaaKOf
namespace Go.Proofs.Ytdmkjndlobichaa
set_option linter.all false
open Go.ChangeShapes Go.WideShapes Go.ChangeAt Go.RowKit Go.Maps
open Tm (Te Pv Fr lookV setV atomV primS)
open Ev (Out)

theorem wf_small31 {v : Int} (h : -1073741824 ≤ v ∧ v ≤ 1073741823) : (Lit.int .i64 v).wf = true := by simp [Lit.wf, IntKind.min, IntKind.max, IntKind.signed, IntKind.bits]; omega
theorem dov_in (op a b : Int) : -1073741824 ≤ dov op a b ∧ dov op a b ≤ 1073741823 := by
  unfold dov
  have h1 := w31_in
  repeat' split
  all_goals first | exact h1 _ | exact tmod_in _ _ (h1 _) | omega
theorem dov_wf (op a b : Int) : (Lit.int .i64 (dov op a b)).wf = true := wf_small31 (dov_in op a b)
theorem AtAt.elem2 {w : World} {S : Nat → Prop} {ats : List (Bool × Int)} {A : Option Addr} {c : Nat} (h : AtAt w S ats A c) {j : Nat} (hj : j < ats.length) : ∃ ad, A = some ad ∧ w.cell? (ad.add (j * 2)) = some (.bool ats[j].1) ∧ w.cell? ⟨(ad.add (j * 2)).block, (ad.add (j * 2)).off + 1, none⟩ = some (.int .i64 ats[j].2) ∧ (Lit.int .i64 ats[j].2).wf = true := by
  obtain ⟨ad, h1, h2, h3, h4, h5⟩ := h.2 j hj
  exact ⟨ad, h1, h3, h4, h5⟩
theorem FrAt.keep {w w' : World} {S T : Nat → Prop} {φ : List (Nat × Nat)} {fs : List Fr} (h : FrAt w S φ fs) (hm : ∀ (e p m : Nat), φ[e]? = some (p, m) → w'.heap[m]? = w.heap[m]?) (hk : ∀ k, S k → k < w.heap.size → w'.heap[k]? = w.heap[k]? ∧ T k) : FrAt w' T φ fs :=
  ⟨h.1, fun e p m he => by
    obtain ⟨f, h1, h2, ⟨ua, h3, h4⟩, h5⟩ := h.2 e p m he
    exact ⟨f, h1, (hk p h2 h3.lt).2, ⟨ua, (hk p h2 h3.lt).1.trans h3, h4⟩, h5.keep (Ext.refl _) (hm e p m he) hk⟩⟩
theorem FrAt.mlt {w : World} {S : Nat → Prop} {φ : List (Nat × Nat)} {fs : List Fr} (h : FrAt w S φ fs) {e p m : Nat} (he : φ[e]? = some (p, m)) : m < w.heap.size := by
  obtain ⟨f, _, _, _, h5⟩ := h.2 e p m he
  exact h5.lt
/-- A row of values is handed back. -/
def RowP (us : List Pv) (S : Nat → Prop) (φ : List (Nat × Nat)) (w : World) (e : Ending) (w' : World) : Prop := (∃ A c, e = .returned (.slice A us.length c) ∧ us.length ≤ c ∧ c ≤ maxLen ∧ (A = none → us = [] ∧ c = 0) ∧ PRow w' S φ us A 0) ∧ Below w.heap.size w w'
/-- The values' row that is being made. -/
structure VB (R : Nat) (S : Nat → Prop) (φ : List (Nat × Nat)) (us : List Pv) (i : Nat) (v : Value) (xs : List Value) (w : World) : Prop where
  row : w.ownsRow R 101 1 v i xs
  kids : ∀ j, j < i → ∃ p u, xs[j]? = some (.pointer (some ⟨p, 0, none⟩)) ∧ us[j]? = some u ∧ PAt w (fun b => S b ∧ v.ownBlock ≠ some b) φ u p
theorem info_ptrv : InfoIs Try.prog 101 (.pointer none) 1 8 := by unfold InfoIs; kernel_rfl
theorem VB.next {R : Nat} {S : Nat → Prop} {φ : List (Nat × Nat)} {us : List Pv} {i : Nat} {v v' : Value} {xs : List Value} {wr w0 w2 : World} {p : Nat} {u : Pv} (h : VB R S φ us i v xs wr) (hb : Below wr.heap.size wr w0) (hu : us[i]? = some u) (hp : PAt w0 (fun b => S b ∧ v.ownBlock ≠ some b) φ u p) (hr : w2.ownsRow R 101 1 v' (i + 1) (xs ++ [.pointer (some ⟨p, 0, none⟩)])) (hg : w0.grownBy w2 v.ownBlock) (hn : ∀ g, v'.ownBlock = some g → v.ownBlock = some g ∨ w0.heap.size ≤ g) :
    VB R S φ us (i + 1) v' (xs ++ [.pointer (some ⟨p, 0, none⟩)]) w2 := by
  have hlen : xs.length = i := by have := h.row.1; omega
  have hkk : ∀ k, (S k ∧ v.ownBlock ≠ some k) → k < w0.heap.size → w2.heap[k]? = w0.heap[k]? ∧ (S k ∧ v'.ownBlock ≠ some k) := fun k hk hl => ⟨hg.block k hl (fun e => hk.2 e.symm), hk.1, fun e => by
    rcases hn k e with e | e
    · exact hk.2 e
    · omega⟩
  refine ⟨hr, fun j hj => ?_⟩
  by_cases hji : j < i
  · obtain ⟨p2, u2, h1, h2, h3⟩ := h.kids j hji
    exact ⟨p2, u2, by rw [List.getElem?_append_left (by omega)]; exact h1, h2, PAt.keep (Ext.refl _) hkk _ _ (h3.up hb)⟩
  · obtain rfl : j = i := by omega
    exact ⟨p, u, by rw [List.getElem?_append_right (by omega), hlen]; simp, hu, PAt.keep (Ext.refl _) hkk _ _ hp⟩
theorem VB.done {R n m c : Nat} {S : Nat → Prop} {φ : List (Nat × Nat)} {us : List Pv} {A : Option Addr} {xs : List Value} {w : World} (h : VB R S φ us n (.slice A m c) xs w) (hn : n = us.length) (hS : ∀ b, R ≤ b → S b) : m = us.length ∧ us.length ≤ c ∧ c ≤ maxLen ∧ (A = none → us = [] ∧ c = 0) ∧ PRow w S φ us A 0 := by
  subst hn
  obtain ⟨A5, c5, e5, l1, l2, l3, l4⟩ := rowX h.row
  injection e5 with e6 e8 e7
  subst e6 e7 e8
  refine ⟨rfl, l1, l2, fun h => ⟨List.length_eq_zero_iff.1 (l3 h).1, (l3 h).2⟩, ?_⟩
  cases hA : A with
  | none =>
    have : us = [] := List.length_eq_zero_iff.1 (l3 hA).1
    rw [this, PRow]; trivial
  | some a =>
    subst hA
    have hab := h.row.lt a.block rfl
    obtain ⟨h1, h2⟩ := l4 a rfl
    have ha : a = ⟨a.block, 0, none⟩ := by obtain ⟨x, y, z⟩ := a; simp_all
    have hcell : ∀ j u, xs[j]? = some u → w.cell? (a.add j) = some u := by rw [ha]; exact h.row.cells (g := a.block) rfl
    refine PRow.mk (hS _ hab.1) us 0 (fun j hj => ?_)
    rw [Nat.zero_add]
    obtain ⟨p, u, e1, e2, hv⟩ := h.kids j hj
    have e9 : us[j] = u := by rw [List.getElem?_eq_getElem hj] at e2; injection e2
    exact ⟨p, hcell _ _ e1, e9 ▸ PAt.keep (Ext.refl _) (fun k hk hl => ⟨rfl, hk.1⟩) _ _ hv⟩
set_option maxHeartbeats 8000000 in
set_option maxRecDepth 100000 in
theorem run_atoms (ats : List (Bool × Int)) (A : Option Addr) (ac : Nat) (fs : List Fr) (φ : List (Nat × Nat)) (S : Nat → Prop) (e ep mp : Nat) (w : World) (hA : AtAt w S ats A ac) (hF : FrAt w S φ fs) (hnew : ∀ b, w.heap.size ≤ b → S b) (he : φ[e]? = some (ep, mp)) (hl : ats.length ≤ 1000) :
    Calls Try.prog 115 #[.slice A ats.length ac, .pointer (some ⟨ep, 0, none⟩)] w (RowP (ats.map (atomV fs e)) S φ w) := by
  have hL : ats.length ≤ 281474976710656 := by omega
  have Q := hid (And.intro hA (And.intro hF (And.intro hnew he)))
  clear hA hF hnew he
  go_enter Try.func115, Try.ntmps115
  go_wp2
  go_loopg [5, 10] ats.length (fun g nv z wr => ∃ (i : Nat) (A3 : Option Addr) (c3 : Nat) (xs : List Value), i + g = ats.length ∧ z = .int .i64 i ∧ nv = .slice A3 i c3 ∧ Hid (VB w.heap.size S φ (ats.map (atomV fs e)) i (.slice A3 i c3) xs wr) ∧ Hid (Below w.heap.size w wr))
  case atStart => exact ⟨0, none, 0, [], by omega, rfl, rfl, hid ⟨World.ownsRow_nil _ _ _ _, fun j hj => by omega⟩, hid (Below.refl _ _)⟩
  case round =>
    obtain ⟨i, A3, c3, xs, hi, rfl, rfl, hV, hB⟩ := hrel
    have Hi := hid hi
    by_cases hlt : i < ats.length
    · have hlt' : (i : Int) < ats.length := by omega
      obtain ⟨ad, rfl, y0, y1, hwf⟩ := (Q.out.1.up hB.out).elem2 hlt
      obtain ⟨av, hav⟩ : ∃ av, av = ats[i].1 := ⟨_, rfl⟩
      obtain ⟨an, han⟩ : ∃ an, an = ats[i].2 := ⟨_, rfl⟩
      have hu : (ats.map (atomV fs e))[i]? = some (atomV fs e (av, an)) := by rw [List.getElem?_map, List.getElem?_eq_getElem hlt, hav, han]; rfl
      rw [← hav] at y0
      rw [← han] at y1 hwf
      have hrow := hV.out.row
      have C := hid (run_atom av an fs φ (fun b => S b ∧ (Value.slice A3 i c3).ownBlock ≠ some b) e ep mp (wr.alloc (.cells #[.bool av, .int .i64 an] 73)) ((Q.out.2.1.keep (w' := wr) (T := fun b => S b ∧ (Value.slice A3 i c3).ownBlock ≠ some b) (fun e p m he => hB.out.block m (Q.out.2.1.mlt he)) (fun k hk hl => ⟨hB.out.block k hl, hk, fun e => by have := hrow.lt k e; omega⟩)).up (al1 wr _)) (fun b hb => by have h1 := hB.out.size; simp at hb; exact ⟨Q.out.2.2.1 b (by omega), fun e => by have := hrow.lt b e; omega⟩) Q.out.2.2.2 hwf)
      have HU := hid hu
      clear hi hav han hu hwf hrow
      go_wp2_with (first
        | (go_at_call 113; go_must (refine C.out.mono ?_); rintro e9 w1 ⟨⟨p, rfl, hp⟩, b1⟩; go_must (have G := hid (And.intro hp (below_hop b1 (al1 wr _))); clear hp b1))
        | (at_builtin; go_must (refine wpList_appX Try.underlying102 info_ptrv rfl (by omega) (by omega) (by rfl) _ _ (by rfl) w.heap.size (n := i) (by rfl) (World.ownsRow.alloc (row_keepX hV.out.row (fun g hg => G.out.2.block g (hV.out.row.lt g hg).2)) _) (by rfl) (by rfl) (cells_litX w1 rfl 101 [.pointer (some ⟨p, 0, none⟩)] _ rfl) (by simp [Value.oneCell']) (by omega) (by have h1 := G.out.2.size; have h2 := hB.out.size; simp; omega) ?_); intro v' w4 r1 r2 r3; go_must (obtain ⟨A7, c7, rfl, _⟩ := rowX r1; have N := hid (And.intro (hV.out.next (w0 := w1.alloc (.cells #[.pointer (some ⟨p, 0, none⟩)] 101)) (below_hop (al1 w1 _) G.out.2) HU.out (G.out.1.up (al1 w1 _)) r1 r2 r3) (((hB.out.trans (G.out.2.mono hB.out.size)).alloc (by have h1 := G.out.2.size; have h2 := hB.out.size; omega) (.cells #[.pointer (some ⟨p, 0, none⟩)] 101)).grown r2 (by have h1 := G.out.2.size; have h2 := hB.out.size; simp; omega) (fun k e => (hV.out.row.lt k e).1))); clear r1 r2 r3)))
      have hgk := Hi.out
      go_roundg (gk - 1)
      case rel => exact ⟨i + 1, A7, c7, _, by omega, by go_num, rfl, hid N.out.1, hid N.out.2⟩
      case measure => omega
    · obtain rfl : i = ats.length := by omega
      clear hi
      go_wp2
      go_ret
      have hD := hV.out.done (by simp) (fun b hb => Q.out.2.2.1 b hb)
      exact ⟨⟨A3, c3, by rw [← hD.1]; rfl, hD.2.1, hD.2.2.1, hD.2.2.2.1, hD.2.2.2.2⟩, hB.out⟩
/-- A value is handed back, or it stops. -/
def OutP (o : Out Pv) (S : Nat → Prop) (φ : List (Nat × Nat)) (w : World) (e : Ending) (w' : World) : Prop := (match o with
  | .ok u => ∃ p, e = .returned (.pointer (some ⟨p, 0, none⟩)) ∧ PAt w' S φ u p
  | .stop k => e = .panicked [stopK k]) ∧ Below w.heap.size w w'
set_option maxHeartbeats 8000000 in
set_option maxRecDepth 100000 in
theorem run_prim (n a : Int) (v : Bool) (b : Int) (fs : List Fr) (φ : List (Nat × Nat)) (S : Nat → Prop) (e ep mp : Nat) (w : World) (hF : FrAt w S φ fs) (hnew : ∀ b, w.heap.size ≤ b → S b) (he : φ[e]? = some (ep, mp)) (hw : (Lit.int .i64 b).wf = true) :
    Calls Try.prog 116 #[.int .i64 n, .int .i64 a, .agg #[.bool v, .int .i64 b], .pointer (some ⟨ep, 0, none⟩)] w (OutP (primS n (.num a) (atomV fs e (v, b))) S φ w) := by
  have C := hid (run_number v b fs φ S e ep mp (w.alloc (.cells #[.bool v, .int .i64 b] 73)) (hF.up (al1 w _)) (fun b hb => hnew b (by simp at hb; omega)) he hw)
  have HN := hid hnew
  clear hF hnew he hw
  obtain ⟨u, hu⟩ : ∃ u, atomV fs e (v, b) = u := ⟨_, rfl⟩
  have HU := hid hu
  rw [hu]
  clear hu
  unfold primS
  rw [show Tm.numOf (.num a) = some a from rfl]
  cases hn : Tm.numOf u with
  | none =>
    have HNO := hid hn
    clear hn
    simp only
    go_enter Try.func116, Try.ntmps116
    go_wp2_with (go_at_call 117; go_must (refine C.out.mono ?_); rw [HU.out]; unfold NumP; rw [HNO.out]; rintro e9 w1 ⟨rfl, b1⟩; go_must (have G := hid b1; clear b1))
    exact ⟨rfl, rfl, below_hop G.out (al1 w _)⟩
  | some q =>
    have HNO := hid hn
    clear hn
    simp only
    obtain ⟨d, hd⟩ : ∃ d, dok n q = d := ⟨_, rfl⟩
    have HD := hid hd
    rw [hd]
    clear hd
    cases d
    · simp only [Bool.false_eq_true, if_false]
      go_enter Try.func116, Try.ntmps116
      go_wp2_with (first
        | (go_at_call 117; go_must (refine C.out.mono ?_); rw [HU.out]; unfold NumP; rw [HNO.out]; rintro e9 w1 ⟨⟨rfl, hq⟩, b1⟩; go_must (have G := hid (And.intro hq b1); clear hq b1))
        | (go_at_call 128; go_must (refine (ints_Do n a q _).mono ?_); rw [HD.out]; rintro e9 w2 ⟨rfl, h9⟩; subst h9))
      exact ⟨rfl, rfl, below_hop G.out.2 (al1 w _)⟩
    · simp only [if_true]
      have HW := hid (dov_wf n a q)
      by_cases h67 : n = 6 ∨ n = 7
      · rw [if_pos h67]
        have key : (n == 6) = true ∨ ((n == 6) = false ∧ (n == 7) = true) := by
          rcases h67 with h | h
          · exact .inl (by simpa using h)
          · exact .inr ⟨by simp; omega, by simpa using h⟩
        clear h67
        rcases key with d6 | ⟨d6, d7⟩
        all_goals
          go_enter Try.func116, Try.ntmps116
          go_wp2_with (first
            | (go_at_call 117; go_must (refine C.out.mono ?_); rw [HU.out]; unfold NumP; rw [HNO.out]; rintro e9 w1 ⟨⟨rfl, hq⟩, b1⟩; go_must (have G := hid (And.intro hq b1); clear hq b1))
            | (go_at_call 128; go_must (refine (ints_Do n a q _).mono ?_); rw [HD.out]; rintro e9 w2 ⟨rfl, h9⟩; subst h9))
          go_ret
          refine ⟨⟨_, rfl, ?_⟩, below_hop (al1 w1 _) (below_hop G.out.2 (al1 w _))⟩
          rw [PAt]
          exact ⟨HN.out _ (by have := G.out.2.size; simp at this; omega), ⟨none, 0, Blk.new _ _ _, Nat.le_refl _, by decide, fun _ => ⟨rfl, rfl⟩, (by rw [PRow]; trivial)⟩, HW.out, by simp⟩
      · rw [if_neg h67]
        have d6 : (n == 6) = false := by simp; omega
        have d7 : (n == 7) = false := by simp; omega
        clear h67
        go_enter Try.func116, Try.ntmps116
        go_wp2_with (first
          | (go_at_call 117; go_must (refine C.out.mono ?_); rw [HU.out]; unfold NumP; rw [HNO.out]; rintro e9 w1 ⟨⟨rfl, hq⟩, b1⟩; go_must (have G := hid (And.intro hq b1); clear hq b1))
          | (go_at_call 128; go_must (refine (ints_Do n a q _).mono ?_); rw [HD.out]; rintro e9 w2 ⟨rfl, h9⟩; subst h9))
        go_ret
        refine ⟨⟨_, rfl, ?_⟩, below_hop (al1 w1 _) (below_hop G.out.2 (al1 w _))⟩
        rw [PAt]
        exact ⟨HN.out _ (by have := G.out.2.size; simp at this; omega), Blk.new _ _ _, HW.out⟩
set_option maxHeartbeats 4000000 in
set_option maxRecDepth 100000 in
theorem run_more (ws : List Int) (A : Option Addr) (c : Nat) (n : Int) (B : Nat) (w : World) (hr : w.ownsRow B 3 1 (.slice A ws.length c) ws.length (ws.map (.int .i64))) (hB : B ≤ w.heap.size) (hl : ws.length ≤ 4096) :
    Calls Try.prog 119 #[.slice A ws.length c, .int .i64 n] w fun e w' => if ws.length = 4096 then e = .panicked [stopK 4] ∧ w' = w else ∃ A' c', e = .returned (.slice A' (ws.length + 1) c') ∧ w'.ownsRow B 3 1 (.slice A' (ws.length + 1) c') (ws.length + 1) ((ws ++ [n]).map (.int .i64)) ∧ w.grownBy w' (Value.slice A ws.length c).ownBlock ∧ ∀ g, (Value.slice A' (ws.length + 1) c').ownBlock = some g → (Value.slice A ws.length c).ownBlock = some g ∨ w.heap.size ≤ g := by
  have hL : ws.length ≤ 281474976710656 := by omega
  have HR := hid hr
  clear hr
  by_cases h : ws.length = 4096
  · have h9 : (ws.length : Int) = 4096 := by omega
    simp only [h, if_true]
    rw [h] at HR
    go_enter Try.func119, Try.ntmps119
    go_wp2
    exact ⟨rfl, rfl, rfl⟩
  · have d0 : ((ws.length : Int) == 4096) = false := by simp; omega
    simp only [h, if_false]
    go_enter Try.func119, Try.ntmps119
    go_wp2_with (at_builtin; go_must (refine wpList_appX Try.underlying22 info_int rfl (by omega) (by omega) (by rfl) _ _ (by rfl) B (n := ws.length) (by rfl) (World.ownsRow.alloc HR.out _) (by rfl) (by rfl) (cells_litX w rfl 3 [.int .i64 n] _ rfl) (by simp [Value.oneCell']) (by omega) (by simp; omega) ?_); intro v' w4 r1 r2 r3; go_must (obtain ⟨A7, c7, rfl, _⟩ := rowX r1; have N := hid (And.intro r1 (And.intro r2 r3)); clear r1 r2 r3))
    go_ret
    refine ⟨A7, c7, rfl, by rw [List.map_append]; exact N.out.1, (World.grownBy_alloc w _ _).trans N.out.2.1, fun g hg => ?_⟩
    rcases N.out.2.2 g hg with e | e
    · exact .inl e
    · exact .inr (by simp at e; omega)
end Go.Proofs.Ytdmkjndlobichaa
