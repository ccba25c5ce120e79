/-
  THE WALK OF wakes.
-/
import Derived.Test.YtikdflppccbdaaaHWakeP
import Derived.Test.YtikdflppccbdaaaHColH
namespace Go.Proofs.Ytikdflppccbdaaa
open Go.ChangeShapes Go.WideShapes Go.ChangeAt Go.RowKit

theorem ints_lit (xs : List Int) {w : World} {cs : Array Value} {g k B : Nat} (hcs : cs = cellsOf xs) (hk : k = xs.length) (hg : g = w.heap.size) (hB : g < B) (hm : xs.length ≤ 100) (hv : ∀ x ∈ xs, (Lit.int .i64 x).wf = true) : Ints (w.alloc (.cells cs 3)) B (some ⟨g, 0, none⟩) k k xs := by
  subst hg hcs hk
  exact ints_of_blk (Blk.new w 3 _) hB (by omega) hv
theorem IsHp.open_ {w : World} {B : Nat} {v : Value} {h : Hp} {r b t : Int} (i : IsHp w B v h) (hr : h.room = r) (hb : h.base = b) (ht : h.top = t) : ∃ A n c, v = .agg #[.slice A n c, .int .i64 r, .int .i64 b, .int .i64 t] ∧ Ints w B A n c h.ws := by
  obtain ⟨A, n, c, rfl, g⟩ := i
  exact ⟨A, n, c, by rw [hr, hb, ht], g⟩
theorem Ints.isHp {w : World} {B n c : Nat} {A : Option Addr} {h : Hp} (g : Ints w B A n c h.ws) : IsHp w B (.agg #[.slice A n c, .int .i64 h.room, .int .i64 h.base, .int .i64 h.top]) h := ⟨A, n, c, rfl, g⟩

set_option maxHeartbeats 2000000 in
set_option maxRecDepth 100000 in
theorem law_wakes (w : World) : Calls Try.prog 12 #[] w fun e w' => e = .returned (.bool true) ∧ Below w.heap.size w w' := by
  have G0 := hid trivial
  go_enter Try.func12, Try.ntmps12
  go_wp2_with (first
    | (go_at_call 14; go_must (refine (heap_New _ _).mono ?_); rintro e w1 ⟨v1, rfl, h1, b1⟩; go_must (rw [wk_new.1] at h1; rw [wk_new.2]; obtain ⟨A1, n1, c1, rfl, g1⟩ := h1.open_ (r := 64) (b := 0) (t := 0) rfl rfl rfl; have G1 := hid g1; clear h1 g1; have B1 := hid b1; clear b1))
    | (go_at_call 19; have hG1 := G1; go_must (refine (heap_Alloc w1.heap.size _ _ wk0 0 [] _ (by first | (simp; done) | (simp; omega) | omega) ((G1.out.below (by go_grown : Below w1.heap.size w1 _) (Nat.le_refl _)).isHp) (IsInts.nil _ _) (by decide +kernel)).mono ?_); rw [wk_alloc0]; rintro e w2 ⟨⟨v2, rfl, h2⟩, b2⟩; go_must (obtain ⟨A2, n2, c2, rfl, g2⟩ := h2.open_ (r := 64) (b := 0) (t := 1) rfl rfl rfl; have G2 := hid g2; have B2 := hid (below_then (B := w.heap.size) (w := w) b2 (by have h9 := B1.out; have h8 := h9.size; go_grown) (by have := B1.out.size; simp; omega)); clear G1 hG1 h2 g2 b2 B1))
    | (go_at_call 19; have hG2 := G2; go_must (refine (heap_Alloc _ _ _ wk1 1 [11, 1024] _ (Nat.le_refl _) ?_ ?_ (by decide +kernel)).mono ?_; (exact (G2.out.below (by go_grown) (by first | (simp; done) | (simp; omega) | omega)).isHp); (exact ⟨_, _, _, rfl, ints_lit [11, 1024] (by rfl) (by rfl) (by simp) (by first | (simp; done) | (simp; omega) | omega) (by decide) (by decide)⟩)); rw [wk_alloc1]; rintro e w3 ⟨⟨v3, rfl, h3⟩, b3⟩; go_must (obtain ⟨A3, n3, c3, rfl, g3⟩ := h3.open_ (r := 64) (b := 0) (t := 4) rfl rfl rfl; have G3 := hid g3; have B3 := hid (below_then (B := w.heap.size) (w := w) b3 (by have h9 := B2.out; have h8 := h9.size; go_grown) (by have := B2.out.size; simp; omega)); clear G2 hG2 h3 g3 b3 B2))
    | (go_at_call 22; have hG3 := G3; go_must (refine (heap_Collect _ _ _ wk2 [1028] _ (Nat.le_refl _) ?_ ?_ (by decide +kernel)).mono ?_; (exact (G3.out.below (by go_grown) (by first | (simp; done) | (simp; omega) | omega)).isHp); (exact ⟨_, _, _, rfl, ints_lit [1028] (by rfl) (by rfl) (by simp) (by first | (simp; done) | (simp; omega) | omega) (by decide) (by decide)⟩)); go_must (obtain ⟨hx, ox, ex, ebx, etx, elx, esx, eox⟩ := wk_collect); rw [ex]; rintro e w4 ⟨⟨v4, o4, rfl, h4, j4⟩, b4⟩; go_must (subst eox; obtain ⟨A4, n4, c4, rfl, g4⟩ := h4.open_ (r := hx.room) (b := 64) (t := 68) rfl ebx etx; obtain ⟨A5, n5, c5, rfl, g5⟩ := j4; obtain rfl : n4 = 128 := g4.len.trans elx; obtain ⟨ad, rfl⟩ := g4.some_ (i := 0) (by omega); have hc4 := g4.cap; have hc5 := g4.max; have g7 := g4.sub (p := 64) (q := 4) (by omega) (by omega); dsimp only at g7; rw [esx] at g7; have G4 := hid g7; clear g7; have G5 := hid g5; have B4 := hid (below_then (B := w.heap.size) (w := w) b4 (by have h9 := B3.out; have h8 := h9.size; go_grown) (by have := B3.out.size; simp; omega)); clear G3 hG3 h4 g4 g5 b4 B3))
    | (go_at_call 21; have hG4 := G4; go_must (refine (keep_Same _ _ _ _ _ _ _ [517, 11, 1292, 1] [517, 11, 1292, 1] _ (Nat.le_refl _) ?_ ?_).mono ?_; (refine (fun hb => G4.out.below hb hb.size) (?_ : Below w4.heap.size w4 _); go_grown); (exact ints_lit _ (by rfl) (by rfl) (by simp) (by first | (simp; done) | (simp; omega) | omega) (by decide) (by decide))); rw [decide_eq_true rfl]; rintro e w5 ⟨rfl, b5⟩; go_must (have b9 := (fun (h : Below w4.heap.size w4 _) => below_then b5 h h.size) (by go_grown); have G6 := hid (G5.out.below b9 b9.size); have B5 := hid (below_then (B := w.heap.size) (w := w) b5 (by have h9 := B4.out; have h8 := h9.size; go_grown) (by have := B4.out.size; simp; omega)); clear G4 hG4 G5 b5 B4 b9))
    | (go_at_call 21; have hG6 := G6; go_must (refine (keep_Same _ _ _ _ _ _ _ [1280] [1280] _ (Nat.le_refl _) ?_ ?_).mono ?_; (refine (fun hb => G6.out.below hb hb.size) (?_ : Below w5.heap.size w5 _); go_grown); (exact ints_lit _ (by rfl) (by rfl) (by simp) (by first | (simp; done) | (simp; omega) | omega) (by decide) (by decide))); rw [decide_eq_true rfl]; rintro e w6 ⟨rfl, b6⟩; go_must (have B6 := hid (below_then (B := w.heap.size) (w := w) b6 (by have h9 := B5.out; have h8 := h9.size; go_grown) (by have := B5.out.size; simp; omega)); clear G6 hG6 b6 B5)))
  go_ret
  exact ⟨rfl, by have h9 := B6.out; have h8 := h9.size; go_grown⟩
end Go.Proofs.Ytikdflppccbdaaa
