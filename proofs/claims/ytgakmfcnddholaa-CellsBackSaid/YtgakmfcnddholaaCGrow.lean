/-
  THE WALKS OF slices.Grow (OF NIL) AND slices.Concat (OF TWO ROWS OF INTEGERS).
-/
import Derived.Test.YtgakmfcnddholaaHMem
import Derived.Test.YtgakmfcnddholaaCMay
import Derived.Lib.Walk
import Derived.Lib.SliceRun
import Derived.Lib.AppendZerosOnto
namespace Go.Proofs.Ytgakmfcnddholaa
open Go.ChangeShapes Go.WideShapes Go.ChangeAt Go.RowKit

set_option maxHeartbeats 4000000 in
set_option maxRecDepth 100000 in
theorem slices_Grow (n : Nat) (hn : 1 ≤ n) (hn2 : n ≤ 1000000) (w : World) :
    Calls Try.prog 46 #[.slice none 0 0, .int .i64 n] w fun e w' => (∃ v, e = .returned v ∧ OwnI w' w.heap.size v []) ∧ Below w.heap.size w w' := by
  obtain ⟨i0, hi0, hz0, hs0, hb0⟩ := info_int.parts
  have h1 : ¬ ((n : Int) < 0) := by omega
  have h3 : wrap64 ((n : Int)) = (n : Int) := by unfold wrap64; omega
  have h4 : (n : Int) > 0 := by omega
  have hold : (Builtin.firstCells i0.size 0 (.slice none 0 0)).run Try.prog w.drew = .ok (([] : List Value).toArray) w.drew := run_firstCells_none w.drew i0.size 0 0 0
  have hrz : ∀ ty, (Builtin.append_ #[36, 3] ty #[.slice none 0 0, .int .i64 (n : Int)]).run Try.prog w =
      .ok (.slice (some ⟨w.heap.size, 0, none⟩) n (grownCap w n 0 3)) (w.drew.alloc (.cells (Builtin.zeroCells (Value.int .i64 0).cells n ++ Builtin.zeroCells (Value.int .i64 0).cells (grownCap w n 0 3 - n)) 3)) := fun ty => by
    have h := Lib.run_append_grow_zeros w 36 3 ty 3 i0 (.int .i64 0) .i64 .i64 Try.underlying36 Try.underlying3 hi0 hz0 none 0 0 [] hold n (by omega) (by omega) (by omega) (by omega)
      (by rw [hb0]; omega)
      (growslice_fits (by omega) (by rw [hb0]; omega))
    simpa using h
  have hGn : n ≤ grownCap w n 0 3 := grownCap_ge w _ _ _
  have hGm : grownCap w n 0 3 ≤ maxLen := grownCap_le_maxLen w n 0 3 (by unfold maxLen; omega)
  obtain ⟨G, hG⟩ : ∃ G, G = grownCap w n 0 3 := ⟨_, rfl⟩
  rw [← hG] at hrz hGn hGm
  have hG63 : G ≤ 9223372036854775807 := by unfold maxLen at hGm; omega
  have HG := hid (And.intro hG hGm)
  clear hold hG hGm
  go_enter Try.func46, Try.ntmps46
  go_wp2_with (at_builtin; refine Lib.wpList_append_run _ rfl _ _ _ _ rfl _ _ rfl rfl _ _ (hrz _) ?_)
  go_ret
  have hz : ∀ k, (Builtin.zeroCells #[Value.int .i64 0] k).size = k := fun k => by simp [Builtin.zeroCells]
  refine ⟨⟨_, rfl, ⟨⟨by simp, .inr ⟨w.heap.size, G, _, rfl, Nat.le_refl _, heap_alloc_new w _, Nat.zero_le _, HG.out.2, by simp [hz]; omega, by simp⟩⟩, by simp⟩⟩, ?_⟩
  exact ((Below.refl _ w).alloc (Nat.le_refl _) _).drew

/-- What the second loop has laid so far. -/
def catL (h : Int) (ys : List Int) (k : Nat) : List Int := if k = 0 then [] else if k = 1 then [h] else h :: ys
def catN (m k : Nat) : Nat := if k = 0 then 0 else if k = 1 then 1 else 1 + m
set_option maxHeartbeats 4000000 in
set_option maxRecDepth 100000 in
theorem slices_Concat (q : Nat) (a1 : Addr) (A2 : Option Addr) (c1 n2 c2 B1 B2 : Nat) (h : Int) (ys : List Int) (w : World) (hb : Blk w q 36 #[.slice (some a1) 1 c1, .slice A2 n2 c2])
    (i1 : Ints w B1 (some a1) 1 c1 [h]) (i2 : Ints w B2 A2 n2 c2 ys) (hB1 : B1 ≤ w.heap.size) (hB2 : B2 ≤ w.heap.size) (hn : n2 ≤ 1000) :
    Calls Try.prog 45 #[.slice (some ⟨q, 0, none⟩) 2 2] w fun e w' => (∃ A c, e = .returned (.slice A (1 + n2) c) ∧ OwnI w' w.heap.size (.slice A (1 + n2) c) (h :: ys)) ∧ Below w.heap.size w w' := by
  have z0 : w.cell? ⟨q, 0, none⟩ = some (.slice (some a1) 1 c1) := hb.cell 0
  have z1 : w.cell? ⟨q, 1, none⟩ = some (.slice A2 n2 c2) := hb.cell 1
  have HB := hid hb
  have I := hid (And.intro i1 (And.intro i2 (And.intro hB1 (And.intro hB2 hn))))
  clear hb i1 i2 hB1 hB2
  go_enter Try.func45, Try.ntmps45
  go_wp2
  go_loopg [3, 11] 2 (fun g s x wr => ∃ k : Nat, k + g = 2 ∧ x = .int .i64 k ∧ s = .int .i64 (catN n2 k : Nat) ∧ wr = w)
  case atStart => exact ⟨0, rfl, rfl, rfl, rfl⟩
  case round =>
    obtain ⟨k, hk, rfl, rfl, rfl⟩ := hrel
    have hk3 : k = 0 ∨ k = 1 ∨ k = 2 := by omega
    rcases hk3 with rfl | rfl | rfl
    · simp only [catN]
      go_wp2
      go_roundg 1
      case rel => exact ⟨1, rfl, rfl, rfl, rfl⟩
      case measure => omega
    · simp only [catN]
      have e1 : wrap64 (1 + (n2 : Int)) = 1 + (n2 : Int) := wrap_small (by omega)
      have e2 : ¬ (1 + (n2 : Int)) < 0 := by omega
      go_wp2
      go_roundg 0
      case rel => exact ⟨2, rfl, rfl, by simp [catN], rfl⟩
      case measure => omega
    · simp only [catN]
      go_wp2_with (go_at_call 46; go_must (refine (slices_Grow (1 + n2) (by omega) (by omega) _).mono ?_); rintro e w1 ⟨⟨v, rfl, o1⟩, b1⟩)
      obtain ⟨W0, hW0⟩ : ∃ W0, W0 = wr := ⟨_, rfl⟩
      subst hW0
      obtain ⟨A, c, rfl, _⟩ := o1.slice
      have O := hid (And.intro o1 b1)
      clear o1 b1
      go_loopg [6, 27] 2 (fun g v x wr' => ∃ (k : Nat) (A : Option Addr) (c : Nat), k + g = 2 ∧ x = .int .i64 k ∧ v = .slice A (catN n2 k) c ∧ Hid (OwnI wr' W0.heap.size (.slice A (catN n2 k) c) (catL h ys k)) ∧ Hid (Below W0.heap.size W0 wr'))
      case atStart => exact ⟨0, A, c, rfl, rfl, rfl, hid O.out.1, hid O.out.2⟩
      case round =>
        obtain ⟨k, A3, c3, hk, rfl, rfl, ho, hbb⟩ := hrel
        have hq := HB.out.lt
        have x0 := ((hbb.out.cell (p := ⟨q, 0, none⟩) hq)).trans z0
        have x1 := ((hbb.out.cell (p := ⟨q, 1, none⟩) hq)).trans z1
        have hk3 : k = 0 ∨ k = 1 ∨ k = 2 := by omega
        rcases hk3 with rfl | rfl | rfl
        · simp only [catN, catL, if_true] at ho ⊢
          go_wp2_with (at_builtin; go_must (refine wpList_appI (by rfl) _ _ (by rfl) W0.heap.size (by rfl) ho.out (by rfl) (I.out.1.below (hbb.out.mono I.out.2.2.1) (Nat.le_refl _)) (by simp) hbb.out.size ?_); intro A4 c4 w4 o4 hg4 hb4)
          have Q := hid (And.intro o4 (hb4 _ _ (Nat.le_refl _) hbb.out))
          clear o4 hg4 hb4
          go_wp2
          go_roundg 1
          case rel => exact ⟨1, A4, c4, rfl, rfl, rfl, hid Q.out.1, hid Q.out.2⟩
          case measure => omega
        · simp only [catN, catL, if_true, if_false, Nat.one_ne_zero] at ho ⊢
          go_wp2_with (at_builtin; go_must (refine wpList_appI (by rfl) _ _ (by rfl) W0.heap.size (by rfl) ho.out (by rfl) (I.out.2.1.below (hbb.out.mono I.out.2.2.2.1) (Nat.le_refl _)) (by simp; have := I.out.2.2.2.2; omega) hbb.out.size ?_); intro A4 c4 w4 o4 hg4 hb4)
          have Q := hid (And.intro o4 (hb4 _ _ (Nat.le_refl _) hbb.out))
          clear o4 hg4 hb4
          go_wp2
          go_roundg 0
          case rel => exact ⟨2, A4, c4, rfl, rfl, rfl, hid Q.out.1, hid Q.out.2⟩
          case measure => omega
        · simp only [catN, catL] at ho ⊢
          go_wp2
          go_ret
          exact ⟨⟨A3, c3, rfl, ho.out⟩, hbb.out⟩
end Go.Proofs.Ytgakmfcnddholaa
