/-
  PLAIN: the two runs of wakes.
  THE WALK OF athanorlaw21.wakes.
-/
import Derived.Test.YtohdaclbgedeiaaEFuelP
import Derived.Test.YtohdaclbgedeiaaEKeep
import Derived.Test.YtohdaclbgedeiaaECopy
namespace Go.Proofs.Ytohdaclbgedeiaa
set_option linter.all false
namespace Ev
def wkC : Co := .mk 3 1 0 0 false [] [.mk 1 1 0 0 false [] []]
def wkD : Co := .mk 2 0 0 1 false [] []
theorem wk_run {r : Int × List Int × List Int × Int} {n : Nat} (h : RunIs wkC [5] 10 r n) : r = (1, [], [1, 5, 0], 0) := by
  have hg : goodB wkC = true := by decide +kernel
  have hw : whole 10 3 wkC [5] = some (.ok (inputV [5]), 1, []) := by rfl
  exact (run_one h (.inr (.inr ⟨hg, by decide, by decide, by decide, 3, _, _, hw, rfl⟩))).1
theorem wk_run2 {r : Int × List Int × List Int × Int} {n : Nat} (h : RunIs wkD [] 10 r n) : r = (0, [], [], 190) := by
  have hg : goodB wkD = true := by decide +kernel
  have hw : whole 10 3 wkD [] = some (.stop (-1), 1, []) := by rfl
  exact (run_one h (.inr (.inr ⟨hg, by decide, by decide, by decide, 3, _, _, hw, rfl⟩))).1
end Ev
end Go.Proofs.Ytohdaclbgedeiaa
namespace Go.Proofs.Ytohdaclbgedeiaa
set_option linter.all false
open Go.ChangeShapes Go.WideShapes Go.ChangeAt Go.RowKit
open Ev (Co wkC wkD RunIs wk_run wk_run2)
theorem iat_nil (w : World) (S : Nat → Prop) : IAt w S [] none 0 := ⟨⟨Nat.le_refl _, Nat.zero_le _, fun _ => ⟨rfl, rfl⟩, by simp⟩, fun j h => by simp at h⟩
theorem wkC_at {w : World} {S : Nat → Prop} {b : Nat} {t : TypeId} (hS : S b) (h : Blk w b t #[.int .i64 1, .int .i64 1, .int .i64 0, .int .i64 0, .bool false, .slice none 0 0, .slice none 0 0]) : CAt w S wkC (.agg #[.int .i64 3, .int .i64 1, .int .i64 0, .int .i64 0, .bool false, .slice none 0 0, .slice (some ⟨b, 0, none⟩) 1 1]) := by
  refine CAt.make rfl rfl (iat_nil _ _) ⟨by simp, by unfold maxLen; omega, fun h => (by cases h), by simp⟩ ?_ (by unfold Wf4; decide)
  refine CRow.mk hS _ _ (fun k hk => ?_)
  obtain rfl : k = 0 := by simp at hk; omega
  refine ⟨_, _, _, _, _, _, _, h.seven, ?_⟩
  exact CAt.make rfl rfl (iat_nil _ _) ⟨Nat.le_refl _, Nat.zero_le _, fun _ => ⟨rfl, rfl⟩, by simp⟩ (by rw [CRow]; trivial) (by unfold Wf4; decide)
theorem wkD_at (w : World) (S : Nat → Prop) : CAt w S wkD (.agg #[.int .i64 2, .int .i64 0, .int .i64 0, .int .i64 1, .bool false, .slice none 0 0, .slice none 0 0]) :=
  CAt.make rfl rfl (iat_nil _ _) ⟨Nat.le_refl _, Nat.zero_le _, fun _ => ⟨rfl, rfl⟩, by simp⟩ (by rw [CRow]; trivial) (by unfold Wf4; decide)
set_option maxHeartbeats 4000000 in
set_option maxRecDepth 100000 in
theorem law21_Plain (w : World) : Calls Try.prog 24 #[] w fun e w' => (∃ v, e = .returned v ∧ CAt w' (fun b => w.heap.size ≤ b) wkC v) ∧ Below w.heap.size w w' := by
  go_enter Try.func24, Try.ntmps24
  go_wp2
  refine ret_core rfl (by rfl) ((Blk.new _ _ _).alloc _) rfl ⟨⟨_, rfl, wkC_at (b := w.heap.size + 1) (by omega) (Blk.new' (by simp) _ _)⟩, al2 _ _ _⟩
theorem iat_one {w : World} {b : Nat} (h : Blk w b 3 #[.int .i64 5]) : IAt w (fun _ => True) [5] (some ⟨b, 0, none⟩) 1 :=
  ⟨⟨Nat.le_refl _, by unfold maxLen; simp, fun h => (by cases h), by simp⟩, fun j hj => by
    obtain rfl : j = 0 := by simp at hj; omega
    exact ⟨_, rfl, trivial, h.cell 0, (show (Lit.int .i64 5).wf = true by decide)⟩⟩
theorem own_ints {w w' : World} {B : Nat} {A : Option Addr} {n c : Nat} {xs : List Int} (h : OwnI w B (.slice A n c) xs) (hb : Below w.heap.size w w') : Ints w' w'.heap.size A n c xs := h.ints.below hb hb.size
set_option maxHeartbeats 4000000 in
set_option maxRecDepth 100000 in
theorem law21_wakes (w : World) : Calls Try.prog 9 #[] w fun e w' => e = .returned (.bool true) ∧ Below w.heap.size w w' := by
  have P0 := hid trivial
  go_enter Try.func9, Try.ntmps9
  go_wp2_with (first
    | (go_at_call 24; (refine (law21_Plain _).mono ?_); rintro e w1 ⟨⟨v, rfl, hv⟩, b1⟩; obtain ⟨k, x, y, m, i, T, tl, tc, A2, l2, c2, rfl⟩ := hv.agg; have V1 := hid (And.intro hv b1); clear hv b1)
    | (go_at_call 10; have _ := P0.out; clear P0; (refine (eval_Run (w1.alloc (.cells #[.int .i64 5] 3)) wkC _ _ (fun _ => True) [5] (some ⟨w1.heap.size, 0, none⟩) 1 10 (V1.out.1.up (al1 w1 _)) (iat_one (Blk.new _ _ _))).mono ?_); rintro e w2 ⟨r, n, A1, c1, A3, c3, hR, h9, ho1, ho2, b2⟩; have hr := wk_run hR; subst hr; subst h9; have R1 := hid (And.intro ho2 (below_hop b2 ((V1.out.2).alloc V1.out.2.size _))); clear hR ho1 ho2 b2)
    | (go_at_call 10; (have BT := Blk.new w2 31 #[.int .i64 1, .slice A1 0 c1, .slice A3 3 c3]); (refine (eval_Run _ wkD _ (fun _ => True) (fun _ => True) [] none 0 10 (wkD_at _ _) (iat_nil _ _)).mono ?_); rintro e w3 ⟨r, n2, A4, c4, A5, c5, hR, h9, ho1, ho2, b3⟩; have hr := wk_run2 hR; subst hr; subst h9; have BT3 := hid (BT.below b3 (by simp)); have R2 := hid (And.intro (below_hop b3 (al1 w2 _)) trivial); obtain ⟨x0, x1, x2⟩ := BT3.out.three; have hl := BT3.out.lt; clear BT hR ho1 ho2 b3))
  have hz : Below w2.heap.size w2 ((w3.alloc (.cells #[.int .i64 0, .slice A4 0 c4, .slice A5 0 c5] 31)).alloc (.cells #[.int .i64 1, .int .i64 5, .int .i64 0] 3)) := (R2.out.1.alloc R2.out.1.size _).alloc (by have := R2.out.1.size; simp; omega) _
  have hlit : Blk ((w3.alloc (.cells #[.int .i64 0, .slice A4 0 c4, .slice A5 0 c5] 31)).alloc (.cells #[.int .i64 1, .int .i64 5, .int .i64 0] 3)) (w3.heap.size + 1) 3 (cellsOf [1, 5, 0]) := Blk.new' (by simp) _ _
  have hI := ints_of_blk (B := ((w3.alloc (.cells #[.int .i64 0, .slice A4 0 c4, .slice A5 0 c5] 31)).alloc (.cells #[.int .i64 1, .int .i64 5, .int .i64 0] 3)).heap.size) hlit hlit.lt (by simp) (by decide)
  refine (keep_Same _ A3 _ 3 c3 3 3 [1, 5, 0] [1, 5, 0] _ (Nat.le_refl _) (own_ints R1.out.1 hz) hI).mono ?_
  rintro e w4 ⟨rfl, b4⟩
  have HZ := hid (below_hop b4 (below_hop hz R1.out.2))
  clear hz b4
  go_wp2
  go_ret
  exact ⟨rfl, HZ.out⟩
end Go.Proofs.Ytohdaclbgedeiaa
