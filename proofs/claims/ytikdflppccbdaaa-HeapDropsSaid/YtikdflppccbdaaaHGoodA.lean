/-
  heap.Good: what the reference says of any heap, with any roots.
-/
import Derived.Test.YtikdflppccbdaaaHGoodN
import Derived.Test.YtikdflppccbdaaaHGoodS
namespace Go.Proofs.Ytikdflppccbdaaa
open Go.ChangeShapes Go.WideShapes Go.ChangeAt Go.RowKit

set_option maxHeartbeats 1000000 in
theorem good_bad (A A2 : Option Addr) (n c m d : Nat) (room base top : Int) (w : World) (h : ¬ (ShapedP n room base top ∧ m ≤ 64)) :
    Calls Try.prog 16 #[.agg #[.slice A n c, .int .i64 room, .int .i64 base, .int .i64 top], .slice A2 m d] w fun e w' => e = .returned (.bool false) ∧ Below w.heap.size w w' := by
  have hc : room < 64 ∨ 64 ≤ room ∧ 131072 < room ∨ 64 ≤ room ∧ room ≤ 131072 ∧ (n : Int) ≠ 2 * room ∨ 64 ≤ room ∧ room ≤ 131072 ∧ (n : Int) = 2 * room ∧ base ≠ 0 ∧ base ≠ room ∨
      64 ≤ room ∧ room ≤ 131072 ∧ (n : Int) = 2 * room ∧ base = 0 ∧ (top < 0 ∨ 0 ≤ top ∧ room < top ∨ 0 ≤ top ∧ top ≤ room ∧ 64 < m) ∨ 64 ≤ room ∧ room ≤ 131072 ∧ (n : Int) = 2 * room ∧ base = room ∧ (top < room ∨ room ≤ top ∧ room + room < top ∨ room ≤ top ∧ top ≤ room + room ∧ 64 < m) := by
    unfold ShapedP at h; omega
  clear h
  rcases hc with h1 | ⟨h1, h2⟩ | ⟨h1, h2, h3⟩ | ⟨h1, h2, h3, h4, h5⟩ | ⟨h1, h2, h3, rfl, h4 | ⟨h4, h5⟩ | ⟨h4, h5, h6⟩⟩ | ⟨h1, h2, h3, rfl, h4 | ⟨h4, h5⟩ | ⟨h4, h5, h6⟩⟩
  · (go_enter Try.func16, Try.ntmps16; go_wp2; refine bodyPost_ret (v := .bool false) (by simp [results, Try.results16, go_sem]) rfl ?_; exact ⟨rfl, by go_grown⟩)
  · (go_enter Try.func16, Try.ntmps16; go_wp2; refine bodyPost_ret (v := .bool false) (by simp [results, Try.results16, go_sem]) rfl ?_; exact ⟨rfl, by go_grown⟩)
  · have q : ((n : Int) != 2 * room) = true := by simpa using h3
    (go_enter Try.func16, Try.ntmps16; go_wp2; refine bodyPost_ret (v := .bool false) (by simp [results, Try.results16, go_sem]) rfl ?_; exact ⟨rfl, by go_grown⟩)
  · have q1 : (base != 0) = true := by simpa using h4
    have q2 : (base != room) = true := by simpa using h5
    (go_enter Try.func16, Try.ntmps16; go_wp2; refine bodyPost_ret (v := .bool false) (by simp [results, Try.results16, go_sem]) rfl ?_; exact ⟨rfl, by go_grown⟩)
  · (go_enter Try.func16, Try.ntmps16; go_wp2; refine bodyPost_ret (v := .bool false) (by simp [results, Try.results16, go_sem]) rfl ?_; exact ⟨rfl, by go_grown⟩)
  · (go_enter Try.func16, Try.ntmps16; go_wp2; refine bodyPost_ret (v := .bool false) (by simp [results, Try.results16, go_sem]) rfl ?_; exact ⟨rfl, by go_grown⟩)
  · (go_enter Try.func16, Try.ntmps16; go_wp2; refine bodyPost_ret (v := .bool false) (by simp [results, Try.results16, go_sem]) rfl ?_; exact ⟨rfl, by go_grown⟩)
  · have q1 : (base != 0) = true := by simp; omega
    (go_enter Try.func16, Try.ntmps16; go_wp2; refine bodyPost_ret (v := .bool false) (by simp [results, Try.results16, go_sem]) rfl ?_; exact ⟨rfl, by go_grown⟩)
  · have q1 : (base != 0) = true := by simp; omega
    (go_enter Try.func16, Try.ntmps16; go_wp2; refine bodyPost_ret (v := .bool false) (by simp [results, Try.results16, go_sem]) rfl ?_; exact ⟨rfl, by go_grown⟩)
  · have q1 : (base != 0) = true := by simp; omega
    (go_enter Try.func16, Try.ntmps16; go_wp2; refine bodyPost_ret (v := .bool false) (by simp [results, Try.results16, go_sem]) rfl ?_; exact ⟨rfl, by go_grown⟩)

theorem heap_Good (B : Nat) (v rv : Value) (h : Hp) (roots : List Int) (w : World) (hBw : B ≤ w.heap.size) (i1 : IsHp w B v h) (i2 : IsInts w B rv roots) (hn6 : h.ws.length ≤ 6000) :
    Calls Try.prog 16 #[v, rv] w fun e w' => e = .returned (.bool (decide (GoodP h roots))) ∧ Below w.heap.size w w' := by
  obtain ⟨A, n, c, rfl, g1⟩ := i1
  obtain ⟨A2, m, d, rfl, g2⟩ := i2
  obtain ⟨ws, room, base, top⟩ := h
  dsimp only at g1 hn6 ⊢
  have en := g1.len
  have em := g2.len
  have hg : GoodP ⟨ws, room, base, top⟩ roots = (ShapedP n room base top ∧ m ≤ 64 ∧ ∃ sts, stl (gw ws) top.toNat base.toNat = some sts ∧ BodyOk n sts (gw ws) base.toNat top.toNat ∧ RootsOk n sts (gw roots) m) := by
    rw [en, em]; rfl
  by_cases hb : ShapedP n room base top ∧ m ≤ 64
  · obtain ⟨hs, hm⟩ := hb
    obtain ⟨bn, rfl⟩ : ∃ b : Nat, base = b := ⟨base.toNat, by unfold ShapedP at hs; omega⟩
    obtain ⟨tn, rfl⟩ : ∃ b : Nat, top = b := ⟨top.toNat, by unfold ShapedP at hs; omega⟩
    simp only [Int.toNat_natCast] at hg
    cases hst : stl (gw ws) tn bn with
    | none =>
      refine (good_none B A A2 n c m d ws room bn tn w hBw g1 hs hm (by omega) hst).mono fun e w' ⟨h1, h2⟩ => ⟨?_, h2⟩
      rw [h1]
      exact ret_not (by rw [hg]; rintro ⟨_, _, s, h, _⟩; rw [hst] at h; cases h)
    | some sts =>
      refine (good_some B A A2 n c m d ws roots room bn tn w hBw g1 g2 hs hm (by omega) sts hst).mono fun e w' ⟨⟨b, h1, h3⟩, h2⟩ => ⟨?_, h2⟩
      rw [h1]
      refine ret_bool (dec_eq ?_)
      rw [h3, hg]
      constructor
      · intro h
        exact ⟨hs, hm, sts, hst, h.1, h.2⟩
      · rintro ⟨_, _, s, h, h4, h5⟩
        rw [hst] at h
        injection h with h
        subst h
        exact ⟨h4, h5⟩
  · refine (good_bad A A2 n c m d room base top w hb).mono fun e w' ⟨h1, h2⟩ => ⟨?_, h2⟩
    rw [h1]
    exact ret_not (by rw [hg]; rintro ⟨h3, h4, _⟩; exact hb ⟨h3, h4⟩)
end Go.Proofs.Ytikdflppccbdaaa
