/-
  THE WALKS OF New.
-/
import Derived.Test.YtikdflppccbdaaaHBase
namespace Go.Proofs.Ytikdflppccbdaaa
open Go.ChangeShapes Go.WideShapes Go.ChangeAt Go.RowKit

def newP (room : Int) : Hp := if 64 ≤ room ∧ room ≤ 131072 then ⟨List.replicate (2 * room).toNat 0, room, 0, 0⟩ else hpZ
def newE (room : Int) : Int := if 64 ≤ room ∧ room ≤ 131072 then 0 else 1
theorem newP_yes {room : Int} (h : 64 ≤ room ∧ room ≤ 131072) {k : Nat} (hk : (k : Int) = 2 * room) : newP room = ⟨zeros k, room, 0, 0⟩ := by
  unfold newP; rw [if_pos h, show (2 * room).toNat = k from by omega]; rfl
theorem newP_no {room : Int} (h : ¬ (64 ≤ room ∧ room ≤ 131072)) : newP room = hpZ := by unfold newP; rw [if_neg h]
theorem newE_yes {room : Int} (h : 64 ≤ room ∧ room ≤ 131072) : newE room = 0 := by unfold newE; rw [if_pos h]
theorem newE_no {room : Int} (h : ¬ (64 ≤ room ∧ room ≤ 131072)) : newE room = 1 := by unfold newE; rw [if_neg h]
theorem heap_New (room : Int) (w : World) : Calls Try.prog 14 #[.int .i64 room] w fun e w' => ∃ v, e = .returned (.tuple #[v, .int .i64 (newE room)]) ∧ IsHp w' w'.heap.size v (newP room) ∧ Below w.heap.size w w' := by
  have hc : room < 64 ∨ 64 ≤ room ∧ 131072 < room ∨ 64 ≤ room ∧ room ≤ 131072 := by omega
  rcases hc with hc | ⟨h1, h2⟩ | ⟨h1, h2⟩
  · rw [newP_no (by omega), newE_no (by omega)]
    go_enter Try.func14, Try.ntmps14
    go_wp2
    refine bodyPost_ret (v := .tuple #[.agg #[.slice none 0 0, .int .i64 0, .int .i64 0, .int .i64 0], .int .i64 1]) (by simp [results, Try.results14, go_sem]) rfl ?_
    exact ⟨_, rfl, IsHp.zero _ _, by go_grown⟩
  · rw [newP_no (by omega), newE_no (by omega)]
    go_enter Try.func14, Try.ntmps14
    go_wp2
    refine bodyPost_ret (v := .tuple #[.agg #[.slice none 0 0, .int .i64 0, .int .i64 0, .int .i64 0], .int .i64 1]) (by simp [results, Try.results14, go_sem]) rfl ?_
    exact ⟨_, rfl, IsHp.zero _ _, by go_grown⟩
  · obtain ⟨k, hk⟩ : ∃ k : Nat, (k : Int) = 2 * room := ⟨(2 * room).toNat, by omega⟩
    rw [newP_yes ⟨h1, h2⟩ hk, newE_yes ⟨h1, h2⟩]
    have hmk := make_ints k (by omega)
    rw [hk] at hmk
    go_enter Try.func14, Try.ntmps14
    go_wp2
    refine bodyPost_ret (v := .tuple #[.agg #[.slice (some ⟨w.heap.size + 1, 0, none⟩) k k, .int .i64 room, .int .i64 0, .int .i64 0], .int .i64 0]) (by simp [results, Try.results14, go_sem]) rfl ?_
    exact ⟨_, rfl, ⟨_, _, _, rfl, ints_zeros (Blk.new' (by simp) _ _) (by simp) (by omega)⟩, by go_grown⟩
theorem ref28_New (room : Int) (w : World) : Calls Try.prog 15 #[.int .i64 room] w fun e w' => ∃ v, e = .returned (.tuple #[v, .int .i64 (newE room)]) ∧ IsHp w' w'.heap.size v (newP room) ∧ Below w.heap.size w w' := by
  have hc : room < 64 ∨ 64 ≤ room ∧ 131072 < room ∨ 64 ≤ room ∧ room ≤ 131072 := by omega
  rcases hc with hc | ⟨h1, h2⟩ | ⟨h1, h2⟩
  · rw [newP_no (by omega), newE_no (by omega)]
    go_enter Try.func15, Try.ntmps15
    go_wp2
    refine bodyPost_ret (v := .tuple #[.agg #[.slice none 0 0, .int .i64 0, .int .i64 0, .int .i64 0], .int .i64 1]) (by simp [results, Try.results15, go_sem]) rfl ?_
    exact ⟨_, rfl, IsHp.zero _ _, by go_grown⟩
  · rw [newP_no (by omega), newE_no (by omega)]
    go_enter Try.func15, Try.ntmps15
    go_wp2
    refine bodyPost_ret (v := .tuple #[.agg #[.slice none 0 0, .int .i64 0, .int .i64 0, .int .i64 0], .int .i64 1]) (by simp [results, Try.results15, go_sem]) rfl ?_
    exact ⟨_, rfl, IsHp.zero _ _, by go_grown⟩
  · obtain ⟨k, hk⟩ : ∃ k : Nat, (k : Int) = 2 * room := ⟨(2 * room).toNat, by omega⟩
    rw [newP_yes ⟨h1, h2⟩ hk, newE_yes ⟨h1, h2⟩]
    have hmk := make_ints k (by omega)
    rw [hk] at hmk
    go_enter Try.func15, Try.ntmps15
    go_wp2
    refine bodyPost_ret (v := .tuple #[.agg #[.slice (some ⟨w.heap.size + 1, 0, none⟩) k k, .int .i64 room, .int .i64 0, .int .i64 0], .int .i64 0]) (by simp [results, Try.results15, go_sem]) rfl ?_
    exact ⟨_, rfl, ⟨_, _, _, rfl, ints_zeros (Blk.new' (by simp) _ _) (by simp) (by omega)⟩, by go_grown⟩
end Go.Proofs.Ytikdflppccbdaaa
