/-
  THE WALK OF leb.groups' NEXT: one group more, or none.
-/
import Derived.Test.YtiamcllejdidjaaRows
import Derived.Test.YtiamcllejdidjaaMem
import Derived.Test.YtiamcllejdidjaaLebPlain
import Derived.OpenShut
import Derived.WalkLawsBesides
import Derived.Deep.DeepMust
namespace Go.Proofs.Ytiamcllejdidjaa
open Go.ChangeShapes Go.WideShapes Go.ChangeAt Go.RowKit

/-- The state of leb.groups: six blocks from b on: the text, the place, the number, how many, the last byte, the most. -/
structure GS (w0 W : World) (b : Nat) (s : ByteArray) (at_ : Int) (n : Int) (many : Int) (last : Int) (most : Int) : Prop where
  below : Below b w0 W
  bs : Blk W b 9 #[.string s]
  bat : Blk W (b + 1) 3 #[.int .i64 at_]
  bn : Blk W (b + 1 + 1) 29 #[.int .u64 n]
  bmany : Blk W (b + 1 + 1 + 1) 3 #[.int .i64 many]
  blast : Blk W (b + 1 + 1 + 1 + 1) 5 #[.int .u8 last]
  bmost : Blk W (b + 1 + 1 + 1 + 1 + 1) 3 #[.int .i64 most]

theorem next_no {w0 W : World} {b : Nat} {s : ByteArray} {at_ n many last most : Int} (h : GS w0 W b s at_ n many last most) (_hs : s.size ≤ 281474976710656) (hno : (s.size : Int) ≤ at_ ∨ many = most) :
    Calls Try.prog 40 #[.pointer (some ⟨b + 1, 0, none⟩), .pointer (some ⟨b, 0, none⟩), .pointer (some ⟨b + 1 + 1 + 1, 0, none⟩), .pointer (some ⟨b + 1 + 1 + 1 + 1 + 1, 0, none⟩), .pointer (some ⟨b + 1 + 1 + 1 + 1, 0, none⟩), .pointer (some ⟨b + 1 + 1, 0, none⟩)] W
      fun e W' => e = .returned (.bool false) ∧ W = W' := by
  have c1 := h.bs.cell0
  have c2 := h.bat.cell0
  have c4 := h.bmany.cell0
  have c6 := h.bmost.cell0
  by_cases h1 : (s.size : Int) ≤ at_
  · clear hno
    go_enter Try.func40, Try.ntmps40
    go_wp2
    go_ret
    exact ⟨rfl, rfl⟩
  · have hm : many = most := by omega
    subst hm
    clear hno
    go_enter Try.func40, Try.ntmps40
    go_wp2
    go_ret
    exact ⟨rfl, rfl⟩

/-- What a call of next leaves, where there is a group more. -/
def NextYes (w0 : World) (b : Nat) (s : ByteArray) (p m : Nat) (most : Int) (e : Ending) (W' : World) : Prop :=
  e = .returned (.bool true) ∧ GS w0 W' b s (p + m + 1 : Nat) (v64 s p (m + 1)) (m + 1 : Nat) (bt s (p + m)) most

set_option maxHeartbeats 800000 in
theorem next_yes {w0 W : World} {b : Nat} {s : ByteArray} {last most : Int} {p m : Nat} (h : GS w0 W b s (p + m : Nat) (v64 s p m) m last most) (hs : s.size ≤ 281474976710656) (h1 : p + m < s.size) (h2 : (m : Int) ≠ most) (h3 : m < 10) :
    Calls Try.prog 40 #[.pointer (some ⟨b + 1, 0, none⟩), .pointer (some ⟨b, 0, none⟩), .pointer (some ⟨b + 1 + 1 + 1, 0, none⟩), .pointer (some ⟨b + 1 + 1 + 1 + 1 + 1, 0, none⟩), .pointer (some ⟨b + 1 + 1 + 1 + 1, 0, none⟩), .pointer (some ⟨b + 1 + 1, 0, none⟩)] W
      (NextYes w0 b s p m most) := by
  generalize hat : p + m = at_ at h h1
  generalize hn : v64 s p m = n at h
  have Hat := hid hat
  have Hn := hid hn
  clear hat hn
  have c1 := h.bs.cell0
  have c2 := h.bat.cell0
  have c3 := h.bn.cell0
  have c4 := h.bmany.cell0
  have c5 := h.blast.cell0
  have c6 := h.bmost.cell0
  have f2 := h.bat.frozen 0
  have f3 := h.bn.frozen 0
  have f4 := h.bmany.frozen 0
  have f5 := h.blast.frozen 0
  have g2 : ((m : Int) == most) = false := by simpa using h2
  have g3 : decide (s.size ≤ at_) = false := by simpa using h1
  go_enter Try.func40, Try.ntmps40
  go_wp2
  go_region
  go_wp2
  go_ret
  refine ⟨rfl, ?_⟩
  have hv : valAt s p m < 2 ^ (7 * m) := by rw [← pow_128]; exact valAt_lt s p m
  have hv2 : valAt s p m < 18446744073709551616 := by
    have : (2 : Nat) ^ (7 * m) ≤ 2 ^ 63 := Nat.pow_le_pow_right (by omega) (by omega)
    omega
  have hn : n = valAt s p m := by rw [← Hn.out, v64, Nat.mod_eq_of_lt hv2]
  have hb : s[at_].toNat = bt s (p + m) := by rw [bt_at, Hat.out]
  have hor := or_shl (valAt s p m) (bt s (p + m)) (7 * m) hv (by omega) (bt_lt _ _)
  have e : valAt s p m + bt s (p + m) % 128 * 2 ^ (7 * m) = valAt s p (m + 1) := by rw [← pow_128]; rfl
  rw [e] at hor
  rw [hb, hn]
  have ev : v64 s p (m + 1) = valAt s p (m + 1) % 18446744073709551616 := rfl
  rw [← ev] at hor
  generalize v64 s p (m + 1) = V at hor ⊢
  rw [hor]
  have hB : b ≤ b + 1 ∧ b ≤ b + 1 + 1 ∧ b ≤ b + 1 + 1 + 1 ∧ b ≤ b + 1 + 1 + 1 + 1 := ⟨by omega, by omega, by omega, by omega⟩
  refine ⟨Below.drew (below_set (below_set (below_set (below_set h.below hB.2.2.2 _) hB.2.1 _) hB.1 _) hB.2.2.1 _), ?_, ?_, ?_, ?_, ?_, ?_⟩
  · exact (((h.bs.far (by dsimp only; omega) _).far (by dsimp only; omega) _).far (by dsimp only; omega) _).far (by dsimp only; omega) _
  · have e : ((p + m + 1 : Nat) : Int) = (at_ : Int) + 1 := by have := Hat.out; omega
    rw [e]
    exact (((h.bat.far (by dsimp only; omega) _).far (by dsimp only; omega) _).set0 _).far (by dsimp only; omega) _
  · exact (((h.bn.far (by dsimp only; omega) _).set0 _).far (by dsimp only; omega) _).far (by dsimp only; omega) _
  · have e : ((m + 1 : Nat) : Int) = (m : Int) + 1 := by omega
    rw [e]
    exact (((h.bmany.far (by dsimp only; omega) _).far (by dsimp only; omega) _).far (by dsimp only; omega) _).set0 _
  · exact (((h.blast.set0 _).far (by dsimp only; omega) _).far (by dsimp only; omega) _).far (by dsimp only; omega) _
  · exact (((h.bmost.far (by dsimp only; omega) _).far (by dsimp only; omega) _).far (by dsimp only; omega) _).far (by dsimp only; omega) _
end Go.Proofs.Ytiamcllejdidjaa
