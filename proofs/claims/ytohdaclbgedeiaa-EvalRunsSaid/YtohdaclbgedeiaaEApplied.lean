/-
  THE WALK OF eval.machine.applied.
-/
import Derived.Test.YtohdaclbgedeiaaESmall
import Derived.BigRegion
import Derived.BigQuiet
import Derived.Deep.RegionHeld3
namespace Go.Proofs.Ytohdaclbgedeiaa
set_option linter.all false
open Go.ChangeShapes Go.WideShapes Go.ChangeAt Go.RowKit
open Ev (Co Va En Out)
theorem Blk.three {w : World} {g : Nat} {t : TypeId} {a b c : Value} (h : Blk w g t #[a, b, c]) : w.cell? ⟨g, 0, none⟩ = some a ∧ w.cell? ⟨g, 1, none⟩ = some b ∧ w.cell? ⟨g, 2, none⟩ = some c := ⟨h.cell 0, h.cell 1, h.cell 2⟩
/-- A step is told. -/
theorem MSt.step {w : World} {M F s : Nat} {ws : List Int} {wv : Value} (h : MSt w M F s ws wv) (hs : s < F) : MSt (w.setCell ⟨M, 1, none⟩ (.int .i64 (s + 1 : Nat))) M F (s + 1) ws wv ∧ MStep M wv wv w (w.setCell ⟨M, 1, none⟩ (.int .i64 (s + 1 : Nat))) := by
  refine ⟨⟨h.blk.set_ 1 _, h.own.set_ (by simp) _, h.hF, by omega, h.hw⟩, rfl, rfl, rfl, by simp, fun k _ hk _ => Below.heap_setCell _ ⟨M, 1, none⟩ _ k hk, fun _ h => .inl h⟩
theorem drewN_below (w : World) (n : Nat) : Below w.heap.size w (w.drewN n) := ⟨rfl, rfl, rfl, Nat.le_refl _, fun _ _ => rfl⟩
theorem MSt.step2 {w : World} {M F s : Nat} {ws : List Int} {wv : Value} (h : MSt w M F s ws wv) (hs : s < F) (n : Nat) : MSt ((w.drewN n).setCell ⟨M, 1, none⟩ (.int .i64 ((s : Int) + 1))) M F (s + 1) ws wv ∧ MStep M wv wv w ((w.drewN n).setCell ⟨M, 1, none⟩ (.int .i64 ((s : Int) + 1))) := by
  have b : Below w.heap.size w (w.drewN n) := drewN_below w n
  obtain ⟨h1, h2⟩ := (h.below b).step hs
  exact ⟨h1, (MStep.below (MStep.refl M wv w) b).trans h2⟩
set_option maxHeartbeats 4000000 in
set_option maxRecDepth 100000 in
theorem applied_fuel (w : World) (M F : Nat) (ws : List Int) (wv vf va : Value) (hm : MSt w M F F ws wv) : Calls Try.prog 49 #[.pointer (some ⟨M, 0, none⟩), vf, va] w fun e w' => e = .panicked [stopV 3] ∧ Below w.heap.size w w' := by
  obtain ⟨x0, x1, x2⟩ := hm.blk.three
  clear hm
  go_enter Try.func49, Try.ntmps49
  go_wp2
  go_quiet (fail)
  go_wp2
  exact ⟨rfl, rfl, drewN_below _ _⟩
set_option maxHeartbeats 4000000 in
set_option maxRecDepth 100000 in
theorem applied_bad (w : World) (M F s : Nat) (ws : List Int) (wv vf va : Value) (S : Nat → Prop) (u : Va) (hm : MSt w M F s ws wv) (hs : s < F) (hu : VAt w S u vf) (hn : ∀ x self b e, u ≠ .clo x self b e) : Calls Try.prog 49 #[.pointer (some ⟨M, 0, none⟩), vf, va] w fun e w' => e = .panicked [stopV (-1)] ∧ MSt w' M F (s + 1) ws wv ∧ MStep M wv wv w w' := by
  have HS := hid (hm.step2 hs)
  obtain ⟨x0, x1, x2⟩ := hm.blk.three
  have f1 := hm.blk.frozen 1
  have hF := hm.hF
  have q1 : IntKind.i64.wrap ((s : Int) + 1) = ((s + 1 : Nat) : Int) := by rw [IntWalk.i64_in _ (by omega)]; rfl
  have e1 : ((s : Int) == F) = false := by simp; omega
  have hv : (∀ w, (Instr.typeAssert vf 91 103 true).run Try.prog w = .ok (.tuple #[.pointer none, .bool false]) w) := by
    cases u with
    | num n => rw [VAt] at hu; obtain ⟨rfl, _⟩ := hu; exact as_fun_num n
    | con t us => rw [VAt] at hu; obtain ⟨⟨p, A, c, rfl, _⟩, _⟩ := hu; exact as_fun_con _
    | clo x self b e => exact absurd rfl (hn x self b e)
  clear hm hu hn
  go_enter Try.func49, Try.ntmps49
  go_wp2
  go_quiet (fail)
  go_wp2_with (go_at_call 62; go_must (refine (want_no _).mono ?_); rintro e w1 ⟨rfl, rfl⟩)
  exact ⟨rfl, rfl, HS.out _⟩
/-- What applied hands back: the body, and what is bound there. -/
def AppP (x : Int) (va : Value) (b : Co) (S : Nat → Prop) (F s : Nat) (ws : List Int) (M : Nat) (wv : Value) (ep : Option Addr) (bp : Addr) (w : World) (e : Ending) (w' : World) : Prop :=
  ∃ q, e = .returned (.tuple #[.pointer (some bp), .pointer (some ⟨q, 0, none⟩)]) ∧ w.heap.size ≤ q ∧ Blk w' q 109 #[.int .i64 x, va, .pointer ep] ∧ MSt w' M F s ws wv ∧ MStep M wv wv w w'
set_option maxHeartbeats 4000000 in
set_option maxRecDepth 100000 in
theorem applied_ok (w : World) (M F s : Nat) (ws : List Int) (wv : Value) (ta : TypeId) (va : Value) (x : Int) (p : Nat) (bp : Addr) (ep : Option Addr) (hm : MSt w M F s ws wv) (hs : s < F) (hne : p ≠ M) (hb : Blk w p 107 #[.int .i64 x, .pointer (some bp), .pointer ep]) :
    Calls Try.prog 49 #[.pointer (some ⟨M, 0, none⟩), .iface 103 (.pointer (some ⟨p, 0, none⟩)), .iface ta va] w (fun e w' => ∃ q, e = .returned (.tuple #[.pointer (some bp), .pointer (some ⟨q, 0, none⟩)]) ∧ w.heap.size ≤ q ∧ Blk w' q 109 #[.int .i64 x, .iface ta va, .pointer ep] ∧ MSt w' M F (s + 1) ws wv ∧ MStep M wv wv w w') := by
  have HS := hid (hm.step2 hs)
  obtain ⟨x0, x1, x2⟩ := hm.blk.three
  obtain ⟨y0, y1, y2⟩ := hb.three
  have f1 := hm.blk.frozen 1
  have hF := hm.hF
  have q1 : IntKind.i64.wrap ((s : Int) + 1) = ((s + 1 : Nat) : Int) := by rw [IntWalk.i64_in _ (by omega)]; rfl
  have e1 : ((s : Int) == F) = false := by simp; omega
  have h1 := as_fun_fun (some ⟨p, 0, none⟩)
  have hne2 : M ≠ p := fun h => hne h.symm
  have hp : p < w.heap.size := hb.lt
  clear hm hb
  go_enter Try.func49, Try.ntmps49
  go_wp2
  go_quiet (fail)
  go_wp2_with (go_at_call 62; go_must (refine (want_yes _).mono ?_); rintro e w1 ⟨rfl, rfl⟩)
  go_region
  go_wp2
  go_ret2
  have h := HS.out nq
  refine ⟨w.heap.size, by rfl, Nat.le_refl _, Blk.drew (Blk.new' (by simp) _ _), h.1.below (Below.drew (al1 _ _)), h.2.below (Below.drew (al1 _ _))⟩
end Go.Proofs.Ytohdaclbgedeiaa
