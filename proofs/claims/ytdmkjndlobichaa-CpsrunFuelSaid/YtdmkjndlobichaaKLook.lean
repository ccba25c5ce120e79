/-
  THE LOOKER: its two maps; THE WALKS OF cps.looker.atoms AND WHAT IT CALLS.
-/
import Derived.Test.YtdmkjndlobichaaKForm3
import Derived.Test.YtdmkjndlobichaaKRow
namespace Go.Proofs.Ytdmkjndlobichaa
set_option linter.all false
open Go.ChangeShapes Go.WideShapes Go.ChangeAt Go.RowKit Go.Maps
open Tm (Te atomB atomsB addV)
open Ev (updI upM)

/-- Two blocks may have turned, no other. -/
structure Gr2 (M1 M2 : Nat) (w w' : World) : Prop where
  os : w'.os = w.os
  tape : w'.tape = w.tape
  output : w'.output = w.output
  size : w.heap.size ≤ w'.heap.size
  block : ∀ k, k < w.heap.size → k ≠ M1 → k ≠ M2 → w'.heap[k]? = w.heap[k]?
section
variable {M1 M2 : Nat} {w w1 w2 : World}
theorem Gr2.refl (M1 M2 : Nat) (w : World) : Gr2 M1 M2 w w := ⟨rfl, rfl, rfl, Nat.le_refl _, fun _ _ _ _ => rfl⟩
theorem Gr2.trans (h : Gr2 M1 M2 w w1) (k : Gr2 M1 M2 w1 w2) : Gr2 M1 M2 w w2 :=
  ⟨k.os.trans h.os, k.tape.trans h.tape, k.output.trans h.output, Nat.le_trans h.size k.size, fun b hb h1 h2 => (k.block b (Nat.lt_of_lt_of_le hb h.size) h1 h2).trans (h.block b hb h1 h2)⟩
theorem Gr2.of_below (h : Below w.heap.size w w1) : Gr2 M1 M2 w w1 := ⟨h.os, h.tape, h.output, h.size, fun b hb _ _ => h.block b hb⟩
theorem Gr2.of1 (h : w.grownBy w1 (some M1)) : Gr2 M1 M2 w w1 := ⟨h.os, h.tape, h.output, h.size, fun b hb h1 _ => h.block b hb (fun e => by injection e with e; exact h1 e)⟩
theorem Gr2.of2 (h : w.grownBy w1 (some M2)) : Gr2 M1 M2 w w1 := ⟨h.os, h.tape, h.output, h.size, fun b hb _ h2 => h.block b hb (fun e => by injection e with e; exact h2 e)⟩
theorem Gr2.blk (h : Gr2 M1 M2 w w1) {g : Nat} {t : TypeId} {cs : Array Value} (hb : Blk w g t cs) (h1 : g ≠ M1) (h2 : g ≠ M2) : Blk w1 g t cs := (h.block g hb.lt h1 h2).trans hb
end
/-- A block of cells is no map. -/
theorem map_ne {w : World} {M k g : Nat} {f : Int → Int} {t : TypeId} {cs : Array Value} (h : MapI w M f k) (hb : Blk w g t cs) : g ≠ M := by
  rintro rfl
  obtain ⟨D, ⟨es, cl, h1, _⟩, _⟩ := h
  unfold Blk at hb
  rw [hb] at h1
  cases h1
/-- The looker: which variables were met, which are bound around. -/
structure LK (w : World) (K M1 M2 : Nat) (f g : Int → Int) (k1 k2 B : Nat) : Prop where
  blk : Blk w K 78 #[.map (some M1), .map (some M2)]
  m1 : MapI w M1 f k1
  m2 : MapI w M2 g k2
  ne : M1 ≠ M2
  z : ∀ x, 0 ≤ f x ∧ f x ≤ 1
  b : ∀ x, 0 ≤ g x ∧ g x ≤ B
theorem LK.up {w w' : World} {K M1 M2 : Nat} {f g : Int → Int} {k1 k2 B : Nat} (h : LK w K M1 M2 f g k1 k2 B) (hb : Below w.heap.size w w') : LK w' K M1 M2 f g k1 k2 B := ⟨h.blk.below hb h.blk.lt, h.m1.below hb, h.m2.below hb, h.ne, h.z, h.b⟩
set_option maxRecDepth 100000 in
theorem look_eq {w : World} {B k : Nat} {f : Int → Int} (h : MapI w B f k) {s : Int} (hs : (Lit.int .i64 s).wf = true) : (Instr.lookup 76 (.map (some B)) (.int .i64 s) false).run Try.prog w = .ok (.int .i64 (f s)) w := by
  obtain ⟨D, h1, h2⟩ := h
  obtain ⟨c, hr, hc, _⟩ := h1.lookup_int int_law Try.underlying76 Try.underlying3 (zero_int w) (keyOf_int_mk Try.underlying3 hs)
  have e := hc.symm.trans (h2 s hs)
  injection e with e
  injection e with _ e
  rw [← e]
  exact hr
set_option maxHeartbeats 8000000 in
set_option maxRecDepth 100000 in
theorem atoms_fn (v : Bool) (n : Int) (kb K M1 M2 : Nat) (f g : Int → Int) (k1 k2 B : Nat) (w : World) (hk : Blk w kb 75 #[.pointer (some ⟨K, 0, none⟩)]) (hl : LK w K M1 M2 f g k1 k2 B) (hw : (Lit.int .i64 n).wf = true) :
    Calls Try.prog 94 #[.agg #[.bool v, .int .i64 n], .pointer (some ⟨kb, 0, none⟩)] w (FormTP (!(atomB g (v, n))) w) := by
  obtain ⟨o, ho⟩ : ∃ o : Obj, o = .cells #[.bool v, .int .i64 n] 73 := ⟨_, rfl⟩
  have c0 : (w.alloc (.cells #[.bool v, .int .i64 n] 73)).cell? ⟨kb, 0, none⟩ = some (.pointer (some ⟨K, 0, none⟩)) := (hk.alloc _).cell0
  have c1 : (w.alloc (.cells #[.bool v, .int .i64 n] 73)).cell? ⟨K, 1, none⟩ = some (.map (some M2)) := (hl.blk.alloc _).cell 1
  have c2 := (Blk.new w 73 #[.bool v, .int .i64 n]).cell 0
  have c3 := (Blk.new w 73 #[.bool v, .int .i64 n]).cell 1
  have c4 := fun q => look_eq (w := (w.alloc (.cells #[.bool v, .int .i64 n] 73)).drewN q) ((hl.m2.below (al1 w (.cells #[.bool v, .int .i64 n] 73))).of rfl) hw
  have hlk := hk.lt
  have hlK := hl.blk.lt
  have c2 : (w.alloc (.cells #[.bool v, .int .i64 n] 73)).cell? ⟨w.heap.size, 0, none⟩ = some (.bool v) := c2
  have c3 : (w.alloc (.cells #[.bool v, .int .i64 n] 73)).cell? ⟨w.heap.size, 1, none⟩ = some (.int .i64 n) := c3
  clear ho hk hl
  cases v
  · go_enter Try.func94, Try.ntmps94
    go_wp2
    go_quiet ((go_at_call 95; exact Calls.quiet_of_same ((ints_In _ _).mono (fun _ _ h => ⟨h.1, h.2.symm⟩))))
    go_wp2
    go_ret
    exact formt_ret (by unfold atomB; simp) (below_drewN (al1 w _) _)
  · obtain ⟨c, hc⟩ : ∃ c, c = g n := ⟨_, rfl⟩
    have HC := hid hc
    rw [← hc] at c4
    clear hc
    by_cases h0 : c = 0
    · have d0 : (c == 0) = true := by simpa using h0
      go_enter Try.func94, Try.ntmps94
      go_wp2
      go_quiet (fail)
      go_wp2
      go_ret
      exact formt_ret (by unfold atomB; simp [← HC.out, h0]) (below_drewN (al1 w _) _)
    · have d0 : (c == 0) = false := by simpa using h0
      go_enter Try.func94, Try.ntmps94
      go_wp2
      go_quiet (fail)
      go_wp2
      go_ret
      exact formt_ret (by unfold atomB; simp [← HC.out, h0]) (below_drewN (al1 w _) _)
/-- An element of a row of atoms. -/
theorem AtAt.elem {w : World} {S : Nat → Prop} {ats : List (Bool × Int)} {A : Option Addr} {c : Nat} (h : AtAt w S ats A c) {j : Nat} (hj : j < ats.length) : ∃ ad, A = some ad ∧ w.cell? (ad.add (j * 2)) = some (.bool ats[j].1) ∧ w.cell? ⟨(ad.add (j * 2)).block, (ad.add (j * 2)).off + 1, none⟩ = some (.int .i64 ats[j].2) ∧ (Lit.int .i64 ats[j].2).wf = true := by
  obtain ⟨ad, h1, h2, h3, h4, h5⟩ := h.2 j hj
  exact ⟨ad, h1, h3, h4, h5⟩
set_option maxHeartbeats 8000000 in
set_option maxRecDepth 100000 in
theorem atoms_index (ats : List (Bool × Int)) (A : Option Addr) (c : Nat) (S : Nat → Prop) (kb K M1 M2 : Nat) (f g : Int → Int) (k1 k2 B : Nat) (w : World) (hA : AtAt w S ats A c) (hk : Blk w kb 75 #[.pointer (some ⟨K, 0, none⟩)]) (hl : LK w K M1 M2 f g k1 k2 B) :
    Calls Try.prog 121 #[.slice A ats.length c, .func (.func 94) #[] #[.pointer (some ⟨kb, 0, none⟩)]] w (fun e w' => (∃ r : Int, e = .returned (.int .i64 r) ∧ (r < 0 ↔ atomsB g ats = true)) ∧ Below w.heap.size w w') := by
  have hul := hA.1.2.2.2
  have hL : ats.length ≤ 281474976710656 := by omega
  have Q := hid (And.intro hA (And.intro hk hl))
  clear hA hk hl
  go_enter Try.func121, Try.ntmps121
  go_wp2
  go_loopg [8] ats.length (fun gg x wr => ∃ (i : Nat), i + gg = ats.length ∧ x = .int .i64 i ∧ Hid (atomsB g ats = atomsB g (ats.drop i)) ∧ Hid (Below w.heap.size w wr))
  case atStart => exact ⟨0, by omega, rfl, hid rfl, hid (Below.refl _ _)⟩
  case round =>
    obtain ⟨i, hi, rfl, hE, hB⟩ := hrel
    have Hi := hid hi
    by_cases hlt : i < ats.length
    case neg =>
      obtain rfl : i = ats.length := by omega
      clear hi
      go_wp2
      go_ret
      exact ⟨⟨-1, rfl, by rw [hE.out, List.drop_length]; simp [atomsB]⟩, hB.out⟩
    have hlt' : (i : Int) < ats.length := by omega
    obtain ⟨ad, rfl, y0, y1, hwf⟩ := (Q.out.1.up hB.out).elem hlt
    have hE2 := hE.out
    rw [List.drop_eq_getElem_cons hlt] at hE2
    obtain ⟨av, hav⟩ : ∃ av, av = ats[i].1 := ⟨_, rfl⟩
    obtain ⟨an, han⟩ : ∃ an, an = ats[i].2 := ⟨_, rfl⟩
    have hat : ats[i] = (av, an) := by rw [hav, han]
    rw [hat] at hE2
    rw [← hav] at y0
    rw [← han] at y1 hwf
    have C := hid (atoms_fn av an kb K M1 M2 f g k1 k2 B wr (Q.out.2.1.below hB.out Q.out.2.1.lt) (Q.out.2.2.up hB.out) hwf)
    have HE := hid hE2
    obtain ⟨q, hq⟩ : ∃ q, atomB g (av, an) = q := ⟨_, rfl⟩
    have HQ := hid hq
    clear hi hE2 hav han hat hq hE hwf
    cases q
    · go_wp2_with (go_at_call 94; go_must (refine C.out.mono ?_); rw [HQ.out]; rintro e w1 ⟨rfl, b1⟩)
      go_ret
      refine ⟨⟨i, rfl, ?_⟩, below_hop b1 hB.out⟩
      have e9 : atomsB g ats = false := by rw [HE.out]; simp [atomsB, HQ.out]
      rw [e9]
      simp
    · go_wp2_with (go_at_call 94; go_must (refine C.out.mono ?_); rw [HQ.out]; rintro e w1 ⟨rfl, b1⟩)
      have hgk := Hi.out
      go_roundg (gk - 1)
      case rel => exact ⟨i + 1, by omega, by go_num, hid (by rw [HE.out]; simp [atomsB, HQ.out]), hid (below_hop b1 hB.out)⟩
      case measure => omega
set_option maxHeartbeats 8000000 in
set_option maxRecDepth 100000 in
theorem atoms_has (ats : List (Bool × Int)) (A : Option Addr) (c : Nat) (S : Nat → Prop) (kb K M1 M2 : Nat) (f g : Int → Int) (k1 k2 B : Nat) (w : World) (hA : AtAt w S ats A c) (hk : Blk w kb 75 #[.pointer (some ⟨K, 0, none⟩)]) (hl : LK w K M1 M2 f g k1 k2 B) :
    Calls Try.prog 93 #[.slice A ats.length c, .func (.func 94) #[] #[.pointer (some ⟨kb, 0, none⟩)]] w (FormTP (!(atomsB g ats)) w) := by
  have C := hid (atoms_index ats A c S kb K M1 M2 f g k1 k2 B w hA hk hl)
  obtain ⟨q, hq⟩ : ∃ q, atomsB g ats = q := ⟨_, rfl⟩
  have HQ := hid hq
  rw [hq]
  clear hA hk hl hq
  cases q
  · go_enter Try.func93, Try.ntmps93
    go_wp2_with (go_at_call 121; go_must (refine C.out.mono ?_); rw [HQ.out]; rintro e w1 ⟨⟨r, rfl, hr⟩, hG9⟩; go_must (have hr2 : 0 ≤ r := by (have : ¬ r < 0 := fun h => Bool.noConfusion (hr.1 h)); omega); have G := hid hG9; clear hG9 hr)
    go_ret
    exact formt_ret rfl G.out
  · go_enter Try.func93, Try.ntmps93
    go_wp2_with (go_at_call 121; go_must (refine C.out.mono ?_); rw [HQ.out]; rintro e w1 ⟨⟨r, rfl, hr⟩, hG9⟩; go_must (have hr2 : ¬ 0 ≤ r := by (have := hr.2 rfl); omega); have G := hid hG9; clear hG9 hr)
    go_ret
    exact formt_ret (by simp; omega) G.out
set_option maxHeartbeats 8000000 in
set_option maxRecDepth 100000 in
theorem look_atoms (ats : List (Bool × Int)) (A : Option Addr) (c : Nat) (S : Nat → Prop) (K M1 M2 : Nat) (f g : Int → Int) (k1 k2 B : Nat) (w : World) (hA : AtAt w S ats A c) (hl : LK w K M1 M2 f g k1 k2 B) :
    Calls Try.prog 63 #[.pointer (some ⟨K, 0, none⟩), .slice A ats.length c] w (FormTP (atomsB g ats) w) := by
  have C := hid (atoms_has ats A c S w.heap.size K M1 M2 f g k1 k2 B _ (hA.up (al1 w (.cells #[.pointer (some ⟨K, 0, none⟩)] 75))) (Blk.new w 75 #[.pointer (some ⟨K, 0, none⟩)]) (hl.up (al1 w _)))
  obtain ⟨q, hq⟩ : ∃ q, atomsB g ats = q := ⟨_, rfl⟩
  have HQ := hid hq
  rw [hq]
  clear hA hl hq
  cases q
  all_goals
    go_enter Try.func63, Try.ntmps63
    go_wp2_with (go_at_call 93; go_must (refine C.out.mono ?_); rw [HQ.out]; rintro e w1 ⟨rfl, b1⟩)
    go_ret
    exact formt_ret rfl (below_hop b1 (al1 w _))
end Go.Proofs.Ytdmkjndlobichaa
