/-
  THE WALK OF athanorkeep.Same: two rows of integers.
-/
import Derived.Test.YtdmkjndlobichaaHMem
import Derived.Deep.LoopGhost
import Derived.WalkLawsBesides
import Derived.Deep.DeepMust
namespace Go.Proofs.Ytdmkjndlobichaa
open Go.ChangeShapes Go.WideShapes Go.ChangeAt Go.RowKit

theorem same_step {xs ys : List Int} {k : Nat} (hl : xs.length = ys.length) (h : ∀ i, i < k → gw xs i = gw ys i) (hk : xs.length ≤ k) : xs = ys := by
  apply List.ext_getElem hl
  intro i h1 h2
  rw [gw_get h1, gw_get h2]
  exact h i (by omega)

theorem keep_Same (B : Nat) (A1 A2 : Option Addr) (n1 c1 n2 c2 : Nat) (xs ys : List Int) (w : World) (hBw : B ≤ w.heap.size) (h1 : Ints w B A1 n1 c1 xs) (h2 : Ints w B A2 n2 c2 ys) :
    Calls Try.prog 28 #[.slice A1 n1 c1, .slice A2 n2 c2] w fun e w' => e = .returned (.bool (decide (xs = ys))) ∧ Below w.heap.size w w' := by
  have e1 := h1.len
  have e2 := h2.len
  by_cases hn : n1 = n2
  · subst hn
    have H := hid (show xs.length = ys.length ∧ n1 = xs.length by omega)
    clear e1 e2
    have H1 := hid h1
    have H2 := hid h2
    clear h1 h2
    go_enter Try.func28, Try.ntmps28
    go_wp2
    go_loopg [5] n1 (fun g x wr => ∃ k : Nat, k + g = n1 ∧ x = .int .i64 k ∧ Hid (Below w.heap.size w wr) ∧ Hid (∀ i, i < k → gw xs i = gw ys i))
    case atStart => exact ⟨0, by omega, rfl, hid (Below.refl _ _), hid (fun i hi => by omega)⟩
    case round =>
      obtain ⟨k, hk, rfl, hB, hs⟩ := hrel
      have Hk := hid hk
      by_cases hlt : k < n1
      · obtain ⟨a1, rfl⟩ := H1.out.some_ hlt
        obtain ⟨a2, rfl⟩ := H2.out.some_ hlt
        have q1 := (H1.out.below (hB.out.mono hBw) (Nat.le_refl _)).cell hlt
        have q2 := (H2.out.below (hB.out.mono hBw) (Nat.le_refl _)).cell hlt
        by_cases he : gw xs k = gw ys k
        · clear hk
          rw [← he] at q2
          go_wp2
          go_region
          go_wp2
          have hgk := Hk.out
          go_roundg (gk - 1)
          case rel => exact ⟨k + 1, by omega, int_succ hlt H1.out.small, hid (Below.drew hB.out), hid (fun i hi => by rcases Nat.lt_succ_iff_lt_or_eq.1 hi with h | rfl; exact hs.out i h; exact he)⟩
          case measure => omega
        · have q3 : (gw xs k != gw ys k) = true := by simpa using he
          clear hk
          go_wp2
          go_region
          go_wp2
          go_ret
          refine ⟨ret_bool ?_, Below.drew hB.out⟩
          have : xs ≠ ys := fun h => he (by rw [h])
          simp [this]
      · clear hk
        go_wp2
        go_ret
        refine ⟨ret_bool ?_, hB.out⟩
        have := same_step H.out.1 hs.out (by have := H.out.2; omega)
        simp [this]
  · have hne : xs ≠ ys := fun h => hn (by rw [e1, e2, h])
    have q : (((n1 : Nat) : Int) != n2) = true := by simp; omega
    clear e1 e2 h1 h2
    go_enter Try.func28, Try.ntmps28
    go_wp2
    go_ret
    exact ⟨ret_bool (by simp [hne]), Below.refl _ _⟩
end Go.Proofs.Ytdmkjndlobichaa
