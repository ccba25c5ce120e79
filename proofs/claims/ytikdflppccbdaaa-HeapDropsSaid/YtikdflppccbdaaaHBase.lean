/-
  THE WALKS OF Large, Same, shaped, Copy, New.
-/
import Derived.Test.YtikdflppccbdaaaHKeep
import Derived.Laws.AppendOwnNone
namespace Go.Proofs.Ytikdflppccbdaaa
open Go.ChangeShapes Go.WideShapes Go.ChangeAt Go.RowKit

def LargeP (n m : Nat) : Prop := 6000 < n ∨ 100 < m
instance (n m : Nat) : Decidable (LargeP n m) := by unfold LargeP; infer_instance
theorem law_Large (A A' : Option Addr) (n c m d : Nat) (room base top : Int) (w : World) :
    Calls Try.prog 11 #[.agg #[.slice A n c, .int .i64 room, .int .i64 base, .int .i64 top], .slice A' m d] w fun e w' => e = .returned (.bool (decide (LargeP n m))) ∧ Below w.heap.size w w' := by
  have hc : 6000 < n ∨ n ≤ 6000 ∧ 100 < m ∨ n ≤ 6000 ∧ m ≤ 100 := by omega
  rcases hc with hc | ⟨h1, h2⟩ | ⟨h1, h2⟩
  all_goals
    go_enter Try.func11, Try.ntmps11
    go_wp2
    go_ret
    refine ⟨ret_bool ?_, by go_grown⟩
    (refine dec_eq ?_; unfold LargeP; first | omega | (simp; done) | (simp; omega))

def ShapedP (n : Nat) (room base top : Int) : Prop := 64 ≤ room ∧ room ≤ 131072 ∧ (n : Int) = 2 * room ∧ (base = 0 ∨ base = room) ∧ base ≤ top ∧ top ≤ base + room
instance (n : Nat) (room base top : Int) : Decidable (ShapedP n room base top) := by unfold ShapedP; infer_instance
theorem ref28_shaped (A : Option Addr) (n c : Nat) (room base top : Int) (w : World) :
    Calls Try.prog 34 #[.agg #[.slice A n c, .int .i64 room, .int .i64 base, .int .i64 top]] w fun e w' => e = .returned (.bool (decide (ShapedP n room base top))) ∧ Below w.heap.size w w' := by
  go_enter Try.func34, Try.ntmps34
  go_wp2
  all_goals
    go_ret
    refine ⟨ret_bool ?_, by go_grown⟩
    (refine dec_eq ?_; unfold ShapedP; first | omega | (simp; done) | (simp; omega))
/-- A heap, by what it holds. -/
structure Hp where
  ws : List Int
  room : Int
  base : Int
  top : Int
  deriving DecidableEq
def hpZ : Hp := ⟨[], 0, 0, 0⟩
def IsInts (w : World) (B : Nat) (v : Value) (xs : List Int) : Prop := ∃ A n c, v = .slice A n c ∧ Ints w B A n c xs
def IsHp (w : World) (B : Nat) (v : Value) (h : Hp) : Prop := ∃ A n c, v = .agg #[.slice A n c, .int .i64 h.room, .int .i64 h.base, .int .i64 h.top] ∧ Ints w B A n c h.ws
theorem IsInts.below {w w' : World} {B B' : Nat} {v : Value} {xs : List Int} (h : IsInts w B v xs) (hb : Below B w w') (hB : B ≤ B') : IsInts w' B' v xs := by
  obtain ⟨A, n, c, rfl, h⟩ := h; exact ⟨A, n, c, rfl, h.below hb hB⟩
theorem IsHp.below {w w' : World} {B B' : Nat} {v : Value} {x : Hp} (h : IsHp w B v x) (hb : Below B w w') (hB : B ≤ B') : IsHp w' B' v x := by
  obtain ⟨A, n, c, rfl, h⟩ := h; exact ⟨A, n, c, rfl, h.below hb hB⟩
theorem IsInts.nil (w : World) (B : Nat) : IsInts w B (.slice none 0 0) [] := ⟨none, 0, 0, rfl, Ints.none_ w B⟩
theorem IsHp.zero (w : World) (B : Nat) : IsHp w B (.agg #[.slice none 0 0, .int .i64 0, .int .i64 0, .int .i64 0]) hpZ := ⟨none, 0, 0, rfl, Ints.none_ w B⟩

theorem hp_dec (ws1 ws2 : List Int) (room1 room2 base1 base2 top1 top2 : Int) : decide (Hp.mk ws1 room1 base1 top1 = Hp.mk ws2 room2 base2 top2) = (((decide (room1 = room2) && decide (base1 = base2)) && decide (top1 = top2)) && decide (ws1 = ws2)) := by
  rw [Bool.eq_iff_iff]; simp only [decide_eq_true_eq, Hp.mk.injEq, Bool.and_eq_true]; exact ⟨fun ⟨a, b, c, d⟩ => ⟨⟨⟨b, c⟩, d⟩, a⟩, fun ⟨⟨⟨b, c⟩, d⟩, a⟩ => ⟨a, b, c, d⟩⟩
theorem law_Same (B : Nat) (v1 v2 : Value) (h1 h2 : Hp) (w : World) (hBw : B ≤ w.heap.size) (i1 : IsHp w B v1 h1) (i2 : IsHp w B v2 h2) :
    Calls Try.prog 18 #[v1, v2] w fun e w' => e = .returned (.bool (decide (h1 = h2))) ∧ Below w.heap.size w w' := by
  obtain ⟨A1, n1, c1, rfl, g1⟩ := i1
  obtain ⟨A2, n2, c2, rfl, g2⟩ := i2
  obtain ⟨ws1, room1, base1, top1⟩ := h1
  obtain ⟨ws2, room2, base2, top2⟩ := h2
  rw [hp_dec]
  dsimp only at g1 g2 ⊢
  have G1 := hid g1
  have G2 := hid g2
  clear g1 g2
  by_cases e1 : room1 = room2
  · subst e1
    by_cases e2 : base1 = base2
    · subst e2
      by_cases e3 : top1 = top2
      · subst e3
        (go_enter Try.func18, Try.ntmps18; go_wp2_with (go_at_call 21; go_must (refine (keep_Same B _ _ _ _ _ _ ws1 ws2 _ (by simp; omega) (G1.out.below (by go_grown : Below B w _) (Nat.le_refl _)) (G2.out.below (by go_grown : Below B w _) (Nat.le_refl _))).mono ?_); rintro e w1 ⟨rfl, hb⟩; have hB := hid (below_then (B := w.heap.size) (w := w) hb (by go_grown) (by first | (simp; done) | (simp; omega) | omega)); clear hb))
        go_ret
        exact ⟨ret_bool (by simp), hB.out⟩
      · have t3 : (top1 == top2) = false := by simpa using e3
        rw [decide_eq_false e3]
        clear e3
        (go_enter Try.func18, Try.ntmps18; go_wp2_with (go_at_call 21; go_must (refine (keep_Same B _ _ _ _ _ _ ws1 ws2 _ (by simp; omega) (G1.out.below (by go_grown : Below B w _) (Nat.le_refl _)) (G2.out.below (by go_grown : Below B w _) (Nat.le_refl _))).mono ?_); rintro e w1 ⟨rfl, hb⟩; have hB := hid (below_then (B := w.heap.size) (w := w) hb (by go_grown) (by first | (simp; done) | (simp; omega) | omega)); clear hb))
        go_ret
        exact ⟨ret_bool (by simp), by go_grown⟩
    · have t2 : (base1 == base2) = false := by simpa using e2
      rw [decide_eq_false e2]
      clear e2
      (go_enter Try.func18, Try.ntmps18; go_wp2_with (go_at_call 21; go_must (refine (keep_Same B _ _ _ _ _ _ ws1 ws2 _ (by simp; omega) (G1.out.below (by go_grown : Below B w _) (Nat.le_refl _)) (G2.out.below (by go_grown : Below B w _) (Nat.le_refl _))).mono ?_); rintro e w1 ⟨rfl, hb⟩; have hB := hid (below_then (B := w.heap.size) (w := w) hb (by go_grown) (by first | (simp; done) | (simp; omega) | omega)); clear hb))
      go_ret
      exact ⟨ret_bool (by simp), by go_grown⟩
  · have t1 : (room1 == room2) = false := by simpa using e1
    rw [decide_eq_false e1]
    clear e1
    (go_enter Try.func18, Try.ntmps18; go_wp2_with (go_at_call 21; go_must (refine (keep_Same B _ _ _ _ _ _ ws1 ws2 _ (by simp; omega) (G1.out.below (by go_grown : Below B w _) (Nat.le_refl _)) (G2.out.below (by go_grown : Below B w _) (Nat.le_refl _))).mono ?_); rintro e w1 ⟨rfl, hb⟩; have hB := hid (below_then (B := w.heap.size) (w := w) hb (by go_grown) (by first | (simp; done) | (simp; omega) | omega)); clear hb))
    go_ret
    exact ⟨ret_bool (by simp), by go_grown⟩

theorem ref28_Copy (B : Nat) (v : Value) (h : Hp) (w : World) (hBw : B ≤ w.heap.size) (i1 : IsHp w B v h) (hlen : h.ws.length ≤ 6000) :
    Calls Try.prog 13 #[v] w fun e w' => ∃ v', e = .returned v' ∧ IsHp w' w'.heap.size v' h ∧ Below w.heap.size w w' := by
  obtain ⟨A1, n1, c1, rfl, g1⟩ := i1
  obtain ⟨ws1, room1, base1, top1⟩ := h
  dsimp only at hlen g1 ⊢
  have hn : n1 ≤ 6000 := by have := g1.len; omega
  have G := hid g1
  have Hn := hid hn
  clear hn hlen g1
  go_enter Try.func13, Try.ntmps13
  go_wp2_with (at_builtin; go_must (refine wpList_appI (by rfl) _ _ (by rfl) (w.heap.size + 1 + 1) (by rfl) (OwnI.lit0 (by simp) (by omega)) (by rfl) ((G.out.below (hB := Nat.le_refl _) (by go_grown : Below B w _))) (by have := Hn.out; simp; omega) (by first | (simp; done) | (simp; omega) | omega) ?_); intro A2 c2 w2 ho hg hbb; have ho2 := hid ho; go_must (have hB2 := hid (hbb w.heap.size w (by omega) (by go_grown))); go_must (obtain ⟨x0, x1, x2, x3, f0, f1, f2, f3⟩ := (((Blk.new w 24 _).alloc _).alloc _ |>.grown hg (by simp [Value.ownBlock]; try omega)).four); go_must (obtain ⟨y0, y1, y2, y3, h0, h1, h2, h3⟩ := ((Blk.new' (g := w.heap.size + 1) (by simp) 24 _).alloc _ |>.grown hg (by simp [Value.ownBlock])).four); clear hbb hg ho)
  refine bodyPost_ret (v := .agg #[.slice A2 n1 c2, .int .i64 room1, .int .i64 base1, .int .i64 top1]) (by simp [results, Try.results13, go_sem, y0, y1, y2, y3]) rfl ?_
  have hO := ((((ho2.out.set_ (a := ⟨w.heap.size, 0, none⟩) (by dsimp only; omega) (.slice A2 n1 c2)).set_ (a := ⟨w.heap.size + 1, 0, none⟩) (by dsimp only; omega) (.slice A2 n1 c2)).set_ (a := ⟨w.heap.size + 1, 1, none⟩) (by dsimp only; omega) (.int .i64 room1)).set_ (a := ⟨w.heap.size + 1, 2, none⟩) (by dsimp only; omega) (.int .i64 base1)).set_ (a := ⟨w.heap.size + 1, 3, none⟩) (by dsimp only; omega) (.int .i64 top1)
  simp only [List.length_nil, Nat.zero_add, List.nil_append] at hO
  exact ⟨_, rfl, ⟨A2, n1, c2, rfl, hO.ints⟩, by have := hB2.out; go_grown⟩
end Go.Proofs.Ytikdflppccbdaaa
