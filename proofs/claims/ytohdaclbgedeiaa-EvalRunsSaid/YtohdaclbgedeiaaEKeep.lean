/-
  THE WALKS OF athanorkeep.Begins AND OF athanorref18.Same.
-/
import Derived.Test.YtohdaclbgedeiaaHKeep
import Derived.Test.YtohdaclbgedeiaaERun
namespace Go.Proofs.Ytohdaclbgedeiaa
set_option linter.all false
open Go.ChangeShapes Go.WideShapes Go.ChangeAt Go.RowKit
theorem Ints.take {w : World} {B : Nat} {A : Option Addr} {n c : Nat} {xs : List Int} (h : Ints w B A n c xs) {k : Nat} (hk : k ≤ n) : Ints w B A k c (xs.take k) := by
  have hl := h.len
  refine ⟨by rw [List.length_take]; omega, Nat.le_trans hk h.cap, h.max, fun x hx => h.wf x (List.mem_of_mem_take hx), fun e => ⟨by have := (h.nil e).1; omega, (h.nil e).2⟩, ?_⟩
  rcases h.at_ with h0 | ⟨ad, hA, hb, hc⟩
  · exact .inl (by omega)
  · refine .inr ⟨ad, hA, hb, fun i hi => (hc i (by omega)).trans ?_⟩
    rw [← gw_get (show i < xs.length by omega), ← gw_get (show i < (xs.take k).length by rw [List.length_take]; omega), List.getElem_take]
theorem begins_iff (xs ys : List Int) : decide (ys <+: xs) = (decide (ys.length ≤ xs.length) && decide (xs.take ys.length = ys)) := by
  rw [Bool.eq_iff_iff]
  simp only [decide_eq_true_eq, Bool.and_eq_true]
  constructor
  · rintro ⟨zs, rfl⟩; simp
  · rintro ⟨_, h⟩
    exact ⟨xs.drop ys.length, by have h9 := List.take_append_drop ys.length xs; rw [h] at h9; exact h9⟩
set_option maxHeartbeats 4000000 in
set_option maxRecDepth 100000 in
theorem keep_Begins (B : Nat) (A1 A2 : Option Addr) (n1 c1 n2 c2 : Nat) (xs ys : List Int) (w : World) (hBw : B ≤ w.heap.size) (h1 : Ints w B A1 n1 c1 xs) (h2 : Ints w B A2 n2 c2 ys) :
    Calls Try.prog 13 #[.slice A1 n1 c1, .slice A2 n2 c2] w fun e w' => e = .returned (.bool (decide (ys <+: xs))) ∧ Below w.heap.size w w' := by
  have e1 := h1.len
  have e2 := h2.len
  have m1 := h1.max
  have k1 := h1.cap
  have nn := h1.nil
  rw [begins_iff]
  by_cases hn : n2 ≤ n1
  · have H := hid (And.intro (h1.take hn) h2)
    have HN := hid (show decide (ys.length ≤ xs.length) = true by simp; omega)
    have HE := hid e2
    have hn' : (n2 : Int) ≤ n1 := by omega
    have hc' : (n1 : Int) ≤ c1 := by omega
    have hb' : (n2 : Int) ≤ c1 := by omega
    have h0 : (0 : Int) ≤ n2 := by omega
    have q9 : (n2 : Int) ≤ 9223372036854775807 := by unfold maxLen at m1; omega
    have hcm : c1 ≤ maxLen := m1
    clear e1 e2 h1 h2 k1
    go_enter Try.func13, Try.ntmps13
    go_wp2_with (go_at_call 18; go_must (refine (keep_Same B A1 A2 n2 c1 n2 c2 (xs.take n2) ys w hBw H.out.1 H.out.2).mono ?_); rintro e w1 ⟨rfl, b1⟩)
    go_ret
    exact ⟨by rw [HN.out, ← HE.out]; simp, b1⟩
  · have HN := hid (show decide (ys.length ≤ xs.length) = false by simp; omega)
    have hn' : ¬ (n2 : Int) ≤ n1 := by omega
    clear e1 e2 h1 h2
    go_enter Try.func13, Try.ntmps13
    go_wp2
    go_ret
    exact ⟨by rw [HN.out]; simp, Below.refl _ _⟩
set_option maxHeartbeats 4000000 in
set_option maxRecDepth 100000 in
theorem ref18_Same (B : Nat) (e1 e2 : Int) (A1 A2 A3 A4 : Option Addr) (n1 c1 n2 c2 n3 c3 n4 c4 : Nat) (xs ys us vs : List Int) (w : World) (hBw : B ≤ w.heap.size) (h1 : Ints w B A1 n1 c1 xs) (h2 : Ints w B A2 n2 c2 ys) (h3 : Ints w B A3 n3 c3 us) (h4 : Ints w B A4 n4 c4 vs) :
    Calls Try.prog 12 #[.agg #[.int .i64 e1, .slice A1 n1 c1, .slice A3 n3 c3], .agg #[.int .i64 e2, .slice A2 n2 c2, .slice A4 n4 c4]] w fun e w' => e = .returned (.bool (decide (e1 = e2 ∧ xs = ys ∧ us = vs))) ∧ Below w.heap.size w w' := by
  have H := hid (And.intro h1 (And.intro h2 (And.intro h3 (And.intro h4 hBw))))
  have BM : Below w.heap.size w ((w.alloc (.cells #[.int .i64 e1, .slice A1 n1 c1, .slice A3 n3 c3] 31)).alloc (.cells #[.int .i64 e2, .slice A2 n2 c2, .slice A4 n4 c4] 31)) := al2 _ _ _
  have HM := hid BM
  clear h1 h2 h3 h4 hBw BM
  by_cases he : e1 = e2
  · subst he
    by_cases hx : xs = ys
    · have HX := hid hx
      have P0 := hid trivial
      clear hx
      go_enter Try.func12, Try.ntmps12
      go_wp2_with (first
        | (go_at_call 18; have _ := P0.out; clear P0; (refine (keep_Same B A1 A2 n1 c1 n2 c2 xs ys _ (Nat.le_trans H.out.2.2.2.2 HM.out.size) (H.out.1.below (HM.out.mono H.out.2.2.2.2) (Nat.le_refl _)) (H.out.2.1.below (HM.out.mono H.out.2.2.2.2) (Nat.le_refl _))).mono ?_); rintro e w1 ⟨rfl, b1⟩; rw [decide_eq_true HX.out]; have B1 := hid (below_hop b1 HM.out); have BX := hid (((Blk.new w 31 #[.int .i64 e1, .slice A1 n1 c1, .slice A3 n3 c3]).alloc _).below b1 (by simp; omega)); have BY := hid ((Blk.new' (w := w.alloc (.cells #[.int .i64 e1, .slice A1 n1 c1, .slice A3 n3 c3] 31)) (g := w.heap.size + 1) (by simp) 31 #[.int .i64 e1, .slice A2 n2 c2, .slice A4 n4 c4]).below b1 (by simp)); obtain ⟨x0, x1, x2⟩ := BX.out.three; obtain ⟨y0, y1, y2⟩ := BY.out.three; clear b1)
        | (go_at_call 18; (refine (keep_Same B A3 A4 n3 c3 n4 c4 us vs w1 (Nat.le_trans H.out.2.2.2.2 B1.out.size) (H.out.2.2.1.below (B1.out.mono H.out.2.2.2.2) (Nat.le_refl _)) (H.out.2.2.2.1.below (B1.out.mono H.out.2.2.2.2) (Nat.le_refl _))).mono ?_); rintro e w2 ⟨rfl, b2⟩))
      go_ret
      exact ⟨by simp [HX.out], below_hop b2 B1.out⟩
    · have HX := hid hx
      clear hx
      go_enter Try.func12, Try.ntmps12
      go_wp2_with (go_at_call 18; (refine (keep_Same B A1 A2 n1 c1 n2 c2 xs ys _ (Nat.le_trans H.out.2.2.2.2 HM.out.size) (H.out.1.below (HM.out.mono H.out.2.2.2.2) (Nat.le_refl _)) (H.out.2.1.below (HM.out.mono H.out.2.2.2.2) (Nat.le_refl _))).mono ?_); rintro e w1 ⟨rfl, b1⟩; rw [decide_eq_false HX.out]; have B1 := hid (below_hop b1 HM.out); clear b1)
      go_ret
      exact ⟨by simp [HX.out], B1.out⟩
  · have HE := hid he
    have he' : (e1 == e2) = false := by simp [he]
    clear he
    go_enter Try.func12, Try.ntmps12
    go_wp2
    go_ret
    exact ⟨by simp [HE.out], HM.out⟩
end Go.Proofs.Ytohdaclbgedeiaa
