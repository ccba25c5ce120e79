/-
  THE WALKS OF Unify, links and typ.
-/
import Derived.Test.YtnlifgcnmhakiaaDoorTUnify
import Derived.Test.YtnlifgcnmhakiaaDoorTPart
namespace Go.Proofs.YtnlifgcnmhakiaaDoor
open Go.ChangeShapes Go.WideShapes Go.ChangeAt Go.RowKit

theorem Tb.skip {S : Nat → Prop} {w : World} {p pv c : Nat} {σ : Sg} {cur : Array Value} (h : Tb S w p pv c σ cur) {g : Nat} (hg : w.heap.size ≤ g) : Tb (fun b => S b ∧ b ≠ g) w p pv c σ cur :=
  h.widen (fun _ hk hl => ⟨hk, by omega⟩) (fun e => h.pS e.1) (fun e => h.vS e.1)
theorem TAt.skip {S : Nat → Prop} {w : World} {t : Ty} {v : Value} (h : TAt w S t v) {g : Nat} (hg : w.heap.size ≤ g) : TAt w (fun b => S b ∧ b ≠ g) t v := h.mono (fun _ hk hl => ⟨hk, by omega⟩)
theorem may_and_no {σ : Sg} {a b : Ty} (h : mayT σ.length a = false ∨ mayT σ.length b = false) : unifyF σ a b = (1, σ) := by
  unfold unifyF
  rw [if_neg (by rcases h with h | h <;> simp [h])]
theorem may_and_yes {σ : Sg} {a b : Ty} (h1 : mayT σ.length a = true) (h2 : mayT σ.length b = true) : unifyF σ a b = ((pairF 65537 σ a b 65536).1, (pairF 65537 σ a b 65536).2.1) := by
  unfold unifyF
  rw [if_pos (by simp [h1, h2])]
theorem BindP.same {S : Nat → Prop} {p pv c : Nat} {σ : Sg} {cur : Array Value} {w w' : World} (h : Tb S w p pv c σ cur) (hb : Below w.heap.size w w') (r : Int) : BindP S p pv c (r, σ) w (.returned (.int .i64 r)) w' := ⟨rfl, ⟨cur, h.up hb⟩, Kept.of_below hb _⟩
set_option maxHeartbeats 8000000 in
set_option maxRecDepth 100000 in
theorem links_Unify (S : Nat → Prop) (p pv c : Nat) (σ : Sg) (cur : Array Value) (a b : Ty) (va vb : Value) (w : World) (hT : Tb S w p pv c σ cur) (hok : Ok σ) (hva : TAt w S a va) (hvb : TAt w S b vb) (hSn : ∀ b, w.heap.size ≤ b → S b) :
    Calls Tryd.prog 31 #[.pointer (some ⟨p, 0, none⟩), va, vb] w (BindP S p pv c (unifyF σ a b) w) := by
  have HA := hid hva
  have HB := hid hvb
  obtain ⟨q, s, m, A, m9, c9, rfl⟩ := hva.agg
  obtain ⟨q', s', m', A', m8, c8, rfl⟩ := hvb.agg
  have HT := hid hT
  have HO := hid (And.intro hok (And.intro hSn (And.intro hT.blk.lt hT.row.lt)))
  obtain ⟨R, hR⟩ : ∃ R, R = unifyF σ a b := ⟨_, rfl⟩
  rw [← hR]
  have HR := hid hR
  clear hva hvb hT hok hSn hR
  have CA := hid (fun (w1 : World) (hb : Below w.heap.size w w1) => links_may (pv := pv) (c := c) HT.out.few a (.agg #[.int .i64 q, .string s, .int .i64 m, .slice A m9 c9]) S w1 (HT.out.up hb).blk (HA.out.up hb))
  have CB := hid (fun (w1 : World) (hb : Below w.heap.size w w1) => links_may (pv := pv) (c := c) HT.out.few b (.agg #[.int .i64 q', .string s', .int .i64 m', .slice A' m8 c8]) S w1 (HT.out.up hb).blk (HB.out.up hb))
  unfold MayP at CA CB
  cases h1 : mayT σ.length a with
  | false =>
    have hR := hid (HR.out.trans (may_and_no (.inl h1)))
    have H1 := hid h1
    clear h1
    have h1 := H1.out
    have h3 := hid h1
    go_enter Tryd.func31, Tryd.ntmps31
    go_wp2_with (first | (go_at_call 43; (with_reducible refine (CA.out ((w.alloc _).alloc _) (below_2 (Below.refl _ _) _ _)).mono ?_); go_must (rw [h1]; rintro e w1 ⟨rfl, b1⟩); go_must (have hz1 := b1.size; simp at hz1; have XA := hid ((((Blk.new w 24 #[.int .i64 q, .string s, .int .i64 m, .slice A m9 c9]).alloc (.cells #[.int .i64 q', .string s', .int .i64 m', .slice A' m8 c8] 24))).below b1 (by simp; omega)); have XB := hid ((Blk.new' (w := w.alloc (.cells #[.int .i64 q, .string s, .int .i64 m, .slice A m9 c9] 24)) (g := w.heap.size + 1) (by simp) 24 #[.int .i64 q', .string s', .int .i64 m', .slice A' m8 c8]).below b1 (by simp)); have x0 : (w1).cell? ⟨w.heap.size, 0, none⟩ = some (.int .i64 q) := XA.out.cell 0; have x1 : (w1).cell? ⟨w.heap.size, 1, none⟩ = some (.string s) := XA.out.cell 1; have x2 : (w1).cell? ⟨w.heap.size, 2, none⟩ = some (.int .i64 m) := XA.out.cell 2; have x3 : (w1).cell? ⟨w.heap.size, 3, none⟩ = some (.slice A m9 c9) := XA.out.cell 3; have y0 : (w1).cell? ⟨w.heap.size + 1, 0, none⟩ = some (.int .i64 q') := XB.out.cell 0; have y1 : (w1).cell? ⟨w.heap.size + 1, 1, none⟩ = some (.string s') := XB.out.cell 1; have y2 : (w1).cell? ⟨w.heap.size + 1, 2, none⟩ = some (.int .i64 m') := XB.out.cell 2; have y3 : (w1).cell? ⟨w.heap.size + 1, 3, none⟩ = some (.slice A' m8 c8) := XB.out.cell 3; have b2 := hid (below_then (B := w.heap.size) b1 (by go_grown : Below w.heap.size w _) (by simp; omega)); clear b1 hz1)))
    go_ret
    rw [hR.out]
    exact BindP.same HT.out b2.out 1
  | true =>
    cases h2 : mayT σ.length b with
    | false =>
      have hR := hid (HR.out.trans (may_and_no (.inr h2)))
      go_enter Tryd.func31, Tryd.ntmps31
      go_wp2_with (first | (go_at_call 43; (with_reducible refine (CA.out ((w.alloc _).alloc _) (below_2 (Below.refl _ _) _ _)).mono ?_); go_must (rw [h1]; rintro e w1 ⟨rfl, b1⟩); go_must (have hz1 := b1.size; simp at hz1; have XA := hid ((((Blk.new w 24 #[.int .i64 q, .string s, .int .i64 m, .slice A m9 c9]).alloc (.cells #[.int .i64 q', .string s', .int .i64 m', .slice A' m8 c8] 24))).below b1 (by simp; omega)); have XB := hid ((Blk.new' (w := w.alloc (.cells #[.int .i64 q, .string s, .int .i64 m, .slice A m9 c9] 24)) (g := w.heap.size + 1) (by simp) 24 #[.int .i64 q', .string s', .int .i64 m', .slice A' m8 c8]).below b1 (by simp)); have x0 : (w1).cell? ⟨w.heap.size, 0, none⟩ = some (.int .i64 q) := XA.out.cell 0; have x1 : (w1).cell? ⟨w.heap.size, 1, none⟩ = some (.string s) := XA.out.cell 1; have x2 : (w1).cell? ⟨w.heap.size, 2, none⟩ = some (.int .i64 m) := XA.out.cell 2; have x3 : (w1).cell? ⟨w.heap.size, 3, none⟩ = some (.slice A m9 c9) := XA.out.cell 3; have y0 : (w1).cell? ⟨w.heap.size + 1, 0, none⟩ = some (.int .i64 q') := XB.out.cell 0; have y1 : (w1).cell? ⟨w.heap.size + 1, 1, none⟩ = some (.string s') := XB.out.cell 1; have y2 : (w1).cell? ⟨w.heap.size + 1, 2, none⟩ = some (.int .i64 m') := XB.out.cell 2; have y3 : (w1).cell? ⟨w.heap.size + 1, 3, none⟩ = some (.slice A' m8 c8) := XB.out.cell 3; have b2 := hid (below_then (B := w.heap.size) b1 (by go_grown : Below w.heap.size w _) (by simp; omega)); clear b1 hz1)) | (go_at_call 43; (with_reducible refine (CB.out w1 b2.out).mono ?_); go_must (rw [h2]; rintro e w2 ⟨rfl, b3⟩); go_must (have hz := b2.out.size; have hc : ∀ (g : Nat) (t : TypeId) (cs : Array Value), Blk w1 g t cs → Blk w2 g t cs := (fun g t cs h => h.below b3 h.lt); have h9 := hid (hc _ _ _ XA.out); clear XA; have XA := h9; clear h9; have h9 := hid (hc _ _ _ XB.out); clear XB; have XB := h9; clear h9; clear hc; have x0 : (w2).cell? ⟨w.heap.size, 0, none⟩ = some (.int .i64 q) := XA.out.cell 0; have x1 : (w2).cell? ⟨w.heap.size, 1, none⟩ = some (.string s) := XA.out.cell 1; have x2 : (w2).cell? ⟨w.heap.size, 2, none⟩ = some (.int .i64 m) := XA.out.cell 2; have x3 : (w2).cell? ⟨w.heap.size, 3, none⟩ = some (.slice A m9 c9) := XA.out.cell 3; have y0 : (w2).cell? ⟨w.heap.size + 1, 0, none⟩ = some (.int .i64 q') := XB.out.cell 0; have y1 : (w2).cell? ⟨w.heap.size + 1, 1, none⟩ = some (.string s') := XB.out.cell 1; have y2 : (w2).cell? ⟨w.heap.size + 1, 2, none⟩ = some (.int .i64 m') := XB.out.cell 2; have y3 : (w2).cell? ⟨w.heap.size + 1, 3, none⟩ = some (.slice A' m8 c8) := XB.out.cell 3; have z0 : ∀ o, (w2.alloc o).cell? ⟨w.heap.size, 0, none⟩ = some (.int .i64 q) := (fun o => (XA.out.alloc o).cell 0); have z1 : ∀ o, (w2.alloc o).cell? ⟨w.heap.size, 1, none⟩ = some (.string s) := (fun o => (XA.out.alloc o).cell 1); have z2 : ∀ o, (w2.alloc o).cell? ⟨w.heap.size, 2, none⟩ = some (.int .i64 m) := (fun o => (XA.out.alloc o).cell 2); have z3 : ∀ o, (w2.alloc o).cell? ⟨w.heap.size, 3, none⟩ = some (.slice A m9 c9) := (fun o => (XA.out.alloc o).cell 3); have z4 : ∀ o, (w2.alloc o).cell? ⟨w.heap.size + 1, 0, none⟩ = some (.int .i64 q') := (fun o => (XB.out.alloc o).cell 0); have z5 : ∀ o, (w2.alloc o).cell? ⟨w.heap.size + 1, 1, none⟩ = some (.string s') := (fun o => (XB.out.alloc o).cell 1); have z6 : ∀ o, (w2.alloc o).cell? ⟨w.heap.size + 1, 2, none⟩ = some (.int .i64 m') := (fun o => (XB.out.alloc o).cell 2); have z7 : ∀ o, (w2.alloc o).cell? ⟨w.heap.size + 1, 3, none⟩ = some (.slice A' m8 c8) := (fun o => (XB.out.alloc o).cell 3); have b4 := hid (below_hop b3 b2.out); clear b3 hz)))
      go_ret
      rw [hR.out]
      exact BindP.same HT.out b4.out 1
    | true =>
      have hR := hid (HR.out.trans (may_and_yes h1 h2))
      have HM := hid (And.intro (mayT_good h1) (mayT_good h2))
      go_enter Tryd.func31, Tryd.ntmps31
      go_wp2_with (first
        | (go_at_call 43; (with_reducible refine (CA.out ((w.alloc _).alloc _) (below_2 (Below.refl _ _) _ _)).mono ?_); go_must (rw [h1]; rintro e w1 ⟨rfl, b1⟩); go_must (have hz1 := b1.size; simp at hz1; have XA := hid ((((Blk.new w 24 #[.int .i64 q, .string s, .int .i64 m, .slice A m9 c9]).alloc (.cells #[.int .i64 q', .string s', .int .i64 m', .slice A' m8 c8] 24))).below b1 (by simp; omega)); have XB := hid ((Blk.new' (w := w.alloc (.cells #[.int .i64 q, .string s, .int .i64 m, .slice A m9 c9] 24)) (g := w.heap.size + 1) (by simp) 24 #[.int .i64 q', .string s', .int .i64 m', .slice A' m8 c8]).below b1 (by simp)); have x0 : (w1).cell? ⟨w.heap.size, 0, none⟩ = some (.int .i64 q) := XA.out.cell 0; have x1 : (w1).cell? ⟨w.heap.size, 1, none⟩ = some (.string s) := XA.out.cell 1; have x2 : (w1).cell? ⟨w.heap.size, 2, none⟩ = some (.int .i64 m) := XA.out.cell 2; have x3 : (w1).cell? ⟨w.heap.size, 3, none⟩ = some (.slice A m9 c9) := XA.out.cell 3; have y0 : (w1).cell? ⟨w.heap.size + 1, 0, none⟩ = some (.int .i64 q') := XB.out.cell 0; have y1 : (w1).cell? ⟨w.heap.size + 1, 1, none⟩ = some (.string s') := XB.out.cell 1; have y2 : (w1).cell? ⟨w.heap.size + 1, 2, none⟩ = some (.int .i64 m') := XB.out.cell 2; have y3 : (w1).cell? ⟨w.heap.size + 1, 3, none⟩ = some (.slice A' m8 c8) := XB.out.cell 3; have b2 := hid (below_then (B := w.heap.size) b1 (by go_grown : Below w.heap.size w _) (by simp; omega)); clear b1 hz1))
        | (go_at_call 43; (with_reducible refine (CB.out w1 b2.out).mono ?_); go_must (rw [h2]; rintro e w2 ⟨rfl, b3⟩); go_must (have hz := b2.out.size; have hc : ∀ (g : Nat) (t : TypeId) (cs : Array Value), Blk w1 g t cs → Blk w2 g t cs := (fun g t cs h => h.below b3 h.lt); have h9 := hid (hc _ _ _ XA.out); clear XA; have XA := h9; clear h9; have h9 := hid (hc _ _ _ XB.out); clear XB; have XB := h9; clear h9; clear hc; have x0 : (w2).cell? ⟨w.heap.size, 0, none⟩ = some (.int .i64 q) := XA.out.cell 0; have x1 : (w2).cell? ⟨w.heap.size, 1, none⟩ = some (.string s) := XA.out.cell 1; have x2 : (w2).cell? ⟨w.heap.size, 2, none⟩ = some (.int .i64 m) := XA.out.cell 2; have x3 : (w2).cell? ⟨w.heap.size, 3, none⟩ = some (.slice A m9 c9) := XA.out.cell 3; have y0 : (w2).cell? ⟨w.heap.size + 1, 0, none⟩ = some (.int .i64 q') := XB.out.cell 0; have y1 : (w2).cell? ⟨w.heap.size + 1, 1, none⟩ = some (.string s') := XB.out.cell 1; have y2 : (w2).cell? ⟨w.heap.size + 1, 2, none⟩ = some (.int .i64 m') := XB.out.cell 2; have y3 : (w2).cell? ⟨w.heap.size + 1, 3, none⟩ = some (.slice A' m8 c8) := XB.out.cell 3; have z0 : ∀ o, (w2.alloc o).cell? ⟨w.heap.size, 0, none⟩ = some (.int .i64 q) := (fun o => (XA.out.alloc o).cell 0); have z1 : ∀ o, (w2.alloc o).cell? ⟨w.heap.size, 1, none⟩ = some (.string s) := (fun o => (XA.out.alloc o).cell 1); have z2 : ∀ o, (w2.alloc o).cell? ⟨w.heap.size, 2, none⟩ = some (.int .i64 m) := (fun o => (XA.out.alloc o).cell 2); have z3 : ∀ o, (w2.alloc o).cell? ⟨w.heap.size, 3, none⟩ = some (.slice A m9 c9) := (fun o => (XA.out.alloc o).cell 3); have z4 : ∀ o, (w2.alloc o).cell? ⟨w.heap.size + 1, 0, none⟩ = some (.int .i64 q') := (fun o => (XB.out.alloc o).cell 0); have z5 : ∀ o, (w2.alloc o).cell? ⟨w.heap.size + 1, 1, none⟩ = some (.string s') := (fun o => (XB.out.alloc o).cell 1); have z6 : ∀ o, (w2.alloc o).cell? ⟨w.heap.size + 1, 2, none⟩ = some (.int .i64 m') := (fun o => (XB.out.alloc o).cell 2); have z7 : ∀ o, (w2.alloc o).cell? ⟨w.heap.size + 1, 3, none⟩ = some (.slice A' m8 c8) := (fun o => (XB.out.alloc o).cell 3); have b4 := hid (below_hop b3 b2.out); clear b3 hz))
        | (go_at_call 44; go_must (refine (links_unify (fun b => S b ∧ b ≠ w2.heap.size) p pv c w2.heap.size (fun h => h.2 rfl) 65537 σ cur a b _ _ 65536 (w2.alloc _) (by omega) (by omega) (((HT.out.up b4.out).skip (Nat.le_refl _)).up (by go_grown)) HO.out.1 HM.out.1 HM.out.2 (((HA.out.up b4.out).skip (Nat.le_refl _)).up (by go_grown)) (((HB.out.up b4.out).skip (Nat.le_refl _)).up (by go_grown)) (Blk.new _ _ _) (fun b hb => by have h8 := b4.out.size; simp at hb; exact ⟨HO.out.2.1 b (by omega), by omega⟩)).mono ?_); rintro e w4 ⟨rfl, hb1, hb2, hb3⟩; go_must (have HB4 := hid (And.intro hb1 hb3); clear hb1 hb2 hb3)))
      go_ret
      rw [hR.out]
      obtain ⟨cn, hcn⟩ := HB4.out.1
      exact ⟨rfl, ⟨cn, hcn.widen (fun _ hk _ => hk.1) HT.out.pS HT.out.vS⟩, Kept.then (Kept.of_below (b4.out.alloc b4.out.size _) (fun _ => False)) HB4.out.2 (fun _ _ e => e.elim) (fun k hk e => by rcases e with rfl | rfl; rfl; have := b4.out.size; omega)⟩
set_option maxHeartbeats 8000000 in
set_option maxRecDepth 100000 in
/-- Unify, of a solver. -/
theorem typ_Unify (S : Nat → Prop) (p pv c : Nat) (σ : Sg) (cur : Array Value) (a b : Ty) (va vb : Value) (w : World) (hT : Tb S w p pv c σ cur) (hok : Ok σ) (hva : TAt w S a va) (hvb : TAt w S b vb) (hSn : ∀ b, w.heap.size ≤ b → S b) :
    Calls Tryd.prog 15 #[.pointer (some ⟨p, 0, none⟩), va, vb] w (BindP S p pv c (unifyF σ a b) w) := by
  have HA := hid hva
  have HB := hid hvb
  obtain ⟨q, s, m, A, m9, c9, rfl⟩ := hva.agg
  obtain ⟨q', s', m', A', m8, c8, rfl⟩ := hvb.agg
  have C := hid (fun (w1 : World) (hb : Below w.heap.size w w1) => links_Unify S p pv c σ cur a b _ _ w1 (hT.up hb) hok (HA.out.up hb) (HB.out.up hb) (fun b h => hSn b (Nat.le_trans hb.size h)))
  have hpv := hT.row.lt
  generalize unifyF σ a b = R at C
  clear hva hvb hT hok hSn
  have XA : Blk ((w.alloc (.cells #[.int .i64 q, .string s, .int .i64 m, .slice A m9 c9] 24)).alloc (.cells #[.int .i64 q', .string s', .int .i64 m', .slice A' m8 c8] 24)) w.heap.size 24 #[.int .i64 q, .string s, .int .i64 m, .slice A m9 c9] := (Blk.new _ _ _).alloc _
  have XB : Blk ((w.alloc (.cells #[.int .i64 q, .string s, .int .i64 m, .slice A m9 c9] 24)).alloc (.cells #[.int .i64 q', .string s', .int .i64 m', .slice A' m8 c8] 24)) (w.heap.size + 1) 24 #[.int .i64 q', .string s', .int .i64 m', .slice A' m8 c8] := Blk.new' (by simp) _ _
  have HP := hid (show w.heap.size ≠ pv ∧ w.heap.size + 1 ≠ pv by omega)
  clear hpv
  have x0 : ((w.alloc (.cells #[.int .i64 q, .string s, .int .i64 m, .slice A m9 c9] 24)).alloc (.cells #[.int .i64 q', .string s', .int .i64 m', .slice A' m8 c8] 24)).cell? ⟨w.heap.size, 0, none⟩ = some (.int .i64 q) := XA.cell 0; have x1 : ((w.alloc (.cells #[.int .i64 q, .string s, .int .i64 m, .slice A m9 c9] 24)).alloc (.cells #[.int .i64 q', .string s', .int .i64 m', .slice A' m8 c8] 24)).cell? ⟨w.heap.size, 1, none⟩ = some (.string s) := XA.cell 1; have x2 : ((w.alloc (.cells #[.int .i64 q, .string s, .int .i64 m, .slice A m9 c9] 24)).alloc (.cells #[.int .i64 q', .string s', .int .i64 m', .slice A' m8 c8] 24)).cell? ⟨w.heap.size, 2, none⟩ = some (.int .i64 m) := XA.cell 2; have x3 : ((w.alloc (.cells #[.int .i64 q, .string s, .int .i64 m, .slice A m9 c9] 24)).alloc (.cells #[.int .i64 q', .string s', .int .i64 m', .slice A' m8 c8] 24)).cell? ⟨w.heap.size, 3, none⟩ = some (.slice A m9 c9) := XA.cell 3; have y0 : ((w.alloc (.cells #[.int .i64 q, .string s, .int .i64 m, .slice A m9 c9] 24)).alloc (.cells #[.int .i64 q', .string s', .int .i64 m', .slice A' m8 c8] 24)).cell? ⟨w.heap.size + 1, 0, none⟩ = some (.int .i64 q') := XB.cell 0; have y1 : ((w.alloc (.cells #[.int .i64 q, .string s, .int .i64 m, .slice A m9 c9] 24)).alloc (.cells #[.int .i64 q', .string s', .int .i64 m', .slice A' m8 c8] 24)).cell? ⟨w.heap.size + 1, 1, none⟩ = some (.string s') := XB.cell 1; have y2 : ((w.alloc (.cells #[.int .i64 q, .string s, .int .i64 m, .slice A m9 c9] 24)).alloc (.cells #[.int .i64 q', .string s', .int .i64 m', .slice A' m8 c8] 24)).cell? ⟨w.heap.size + 1, 2, none⟩ = some (.int .i64 m') := XB.cell 2; have y3 : ((w.alloc (.cells #[.int .i64 q, .string s, .int .i64 m, .slice A m9 c9] 24)).alloc (.cells #[.int .i64 q', .string s', .int .i64 m', .slice A' m8 c8] 24)).cell? ⟨w.heap.size + 1, 3, none⟩ = some (.slice A' m8 c8) := XB.cell 3
  have HX := hid (And.intro XA XB)
  clear XA XB
  go_enter Tryd.func15, Tryd.ntmps15
  go_wp2
  go_region_held3 (fun w' => w'.cell? ⟨w.heap.size, 0, none⟩ = some (.int .i64 q) ∧ w'.cell? ⟨w.heap.size, 1, none⟩ = some (.string s) ∧ w'.cell? ⟨w.heap.size, 2, none⟩ = some (.int .i64 m) ∧ w'.cell? ⟨w.heap.size, 3, none⟩ = some (.slice A m9 c9) ∧ w'.cell? ⟨w.heap.size + 1, 0, none⟩ = some (.int .i64 q') ∧ w'.cell? ⟨w.heap.size + 1, 1, none⟩ = some (.string s') ∧ w'.cell? ⟨w.heap.size + 1, 2, none⟩ = some (.int .i64 m') ∧ w'.cell? ⟨w.heap.size + 1, 3, none⟩ = some (.slice A' m8 c8)) (first | with_reducible exact ⟨x0, x1, x2, x3, y0, y1, y2, y3⟩ | with_reducible exact ⟨z0, z1, z2, z3, z4, z5, z6, z7⟩ | go_keep)
    (first | (go_at_call 31; go_must (refine (C.out _ (by go_grown : Below w.heap.size w _)).mono ?_); rintro e w1 ⟨rfl, hb1, hb2⟩; go_must (have XA := HX.out.1.drew.kept (S := fun b => b = pv) hb2 HP.out.1; have XB := HX.out.2.drew.kept (S := fun b => b = pv) hb2 HP.out.2; have z0 : (w1).cell? ⟨w.heap.size, 0, none⟩ = some (.int .i64 q) := XA.cell 0; have z1 : (w1).cell? ⟨w.heap.size, 1, none⟩ = some (.string s) := XA.cell 1; have z2 : (w1).cell? ⟨w.heap.size, 2, none⟩ = some (.int .i64 m) := XA.cell 2; have z3 : (w1).cell? ⟨w.heap.size, 3, none⟩ = some (.slice A m9 c9) := XA.cell 3; have z4 : (w1).cell? ⟨w.heap.size + 1, 0, none⟩ = some (.int .i64 q') := XB.cell 0; have z5 : (w1).cell? ⟨w.heap.size + 1, 1, none⟩ = some (.string s') := XB.cell 1; have z6 : (w1).cell? ⟨w.heap.size + 1, 2, none⟩ = some (.int .i64 m') := XB.cell 2; have z7 : (w1).cell? ⟨w.heap.size + 1, 3, none⟩ = some (.slice A' m8 c8) := XB.cell 3; have HB4 := hid (And.intro hb1 (hb2.hop (Kept.of_below (by go_grown : Below w.heap.size w _) _))); clear hb1 hb2 XA XB)))
  go_wp2
  go_ret
  exact ⟨rfl, HB4.out⟩
/-- .. that nobody made. -/
theorem typ_Unify_nil (va vb : Value) (w : World) (q : Int) (s : ByteArray) (m : Int) (A : Option Addr) (m9 c9 : Nat) (ha : va = .agg #[.int .i64 q, .string s, .int .i64 m, .slice A m9 c9]) (q' : Int) (s' : ByteArray) (m' : Int) (A' : Option Addr) (m8 c8 : Nat) (hb : vb = .agg #[.int .i64 q', .string s', .int .i64 m', .slice A' m8 c8]) :
    Calls Tryd.prog 15 #[.pointer none, va, vb] w fun e w' => e = .returned (.int .i64 1) ∧ Below w.heap.size w w' := by
  subst ha hb
  go_enter Tryd.func15, Tryd.ntmps15
  go_wp2
  go_ret
  exact ⟨rfl, below_2 (Below.refl _ _) _ _⟩
end Go.Proofs.YtnlifgcnmhakiaaDoor
