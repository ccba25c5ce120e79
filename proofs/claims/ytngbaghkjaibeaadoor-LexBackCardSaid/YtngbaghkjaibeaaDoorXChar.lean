/-
  THE WALKS OF lex.small, great, digit, inside, key, word.
-/
import Derived.Test.YtngbaghkjaibeaaDoorRows
import Derived.Test.YtngbaghkjaibeaaDoorMem
import Derived.Test.YtngbaghkjaibeaaDoorHPlain
import Derived.Test.YtngbaghkjaibeaaDoorXPlain
import Derived.OpenShut
import Derived.WalkLawsBesides
import Derived.WalkSpells
import Derived.Deep.DeepMust
namespace Go.Proofs.YtngbaghkjaibeaaDoor
set_option linter.all false
open Go.ChangeShapes Go.WideShapes Go.ChangeAt Go.RowKit

namespace Lx
def smI (c : Int) : Bool := decide (97 ≤ c) && decide (c ≤ 122)
def grI (c : Int) : Bool := decide (65 ≤ c) && decide (c ≤ 90)
def dgI (c : Int) : Bool := decide (48 ≤ c) && decide (c ≤ 57)
def inI (c : Int) : Bool := smI c || grI c || dgI c || decide (c = 95)
theorem le_u8 (a b : UInt8) : (a ≤ b) = (a.toNat ≤ b.toNat) := propext UInt8.le_iff_toNat_le
theorem smI_byte (b : UInt8) : smI (b.toNat : Int) = isSmall b := by
  unfold smI isSmall
  rw [Bool.eq_iff_iff]
  simp only [Bool.and_eq_true, decide_eq_true_eq, le_u8]
  show _ ↔ (97 ≤ b.toNat ∧ b.toNat ≤ 122)
  omega
theorem grI_byte (b : UInt8) : grI (b.toNat : Int) = isGreat b := by
  unfold grI isGreat
  rw [Bool.eq_iff_iff]
  simp only [Bool.and_eq_true, decide_eq_true_eq, le_u8]
  show _ ↔ (65 ≤ b.toNat ∧ b.toNat ≤ 90)
  omega
theorem dgI_byte (b : UInt8) : dgI (b.toNat : Int) = isDig b := by
  unfold dgI isDig
  rw [Bool.eq_iff_iff]
  simp only [Bool.and_eq_true, decide_eq_true_eq, le_u8]
  show _ ↔ (48 ≤ b.toNat ∧ b.toNat ≤ 57)
  omega
theorem eqI_byte (b : UInt8) (k : Nat) (hk : k < 256) : decide ((b.toNat : Int) = (k : Int)) = (b == UInt8.ofNat k) := by
  rw [Bool.eq_iff_iff]
  simp only [decide_eq_true_eq, beq_iff_eq]
  constructor
  · intro h
    have h2 : b.toNat = k := by omega
    rw [← h2]; simp
  · rintro rfl
    simp; omega
theorem inI_byte (b : UInt8) : inI (b.toNat : Int) = isPart b := by
  unfold inI isPart
  rw [smI_byte, grI_byte, dgI_byte]
  have := eqI_byte b 95 (by omega)
  rw [show ((95 : Nat) : Int) = 95 from rfl] at this
  rw [this]; rfl
theorem inI_high {c : Int} (h : 128 ≤ c) : inI c = false := by
  unfold inI smI grI dgI
  simp; omega
theorem dgI_high {c : Int} (h : 128 ≤ c) : dgI c = false := by
  unfold dgI
  simp; omega
theorem part_high {b : UInt8} (h : 128 ≤ b.toNat) : isPart b = false := by rw [← inI_byte]; exact inI_high (by omega)
theorem dig_high {b : UInt8} (h : 128 ≤ b.toNat) : isDig b = false := by rw [← dgI_byte]; exact dgI_high (by omega)
end Lx
theorem lx_small (c : Int) (w : World) : Calls Tryd.prog 26 #[.int .i32 c] w fun e w' => e = .returned (.bool (Lx.smI c)) ∧ w = w' := by
  by_cases h1 : 97 ≤ c
  · by_cases h2 : c ≤ 122
    · go_enter Tryd.func26, Tryd.ntmps26
      go_wp2
      go_ret
      exact ⟨ret_bool (by simp [Lx.smI, h1, h2]), rfl⟩
    · go_enter Tryd.func26, Tryd.ntmps26
      go_wp2
      go_ret
      exact ⟨ret_bool (by simp [Lx.smI, h1, h2]), rfl⟩
  · go_enter Tryd.func26, Tryd.ntmps26
    go_wp2
    go_ret
    exact ⟨ret_bool (by simp [Lx.smI]; omega), rfl⟩
theorem lx_great (c : Int) (w : World) : Calls Tryd.prog 28 #[.int .i32 c] w fun e w' => e = .returned (.bool (Lx.grI c)) ∧ w = w' := by
  by_cases h1 : 65 ≤ c
  · by_cases h2 : c ≤ 90
    · go_enter Tryd.func28, Tryd.ntmps28
      go_wp2
      go_ret
      exact ⟨ret_bool (by simp [Lx.grI, h1, h2]), rfl⟩
    · go_enter Tryd.func28, Tryd.ntmps28
      go_wp2
      go_ret
      exact ⟨ret_bool (by simp [Lx.grI, h1, h2]), rfl⟩
  · go_enter Tryd.func28, Tryd.ntmps28
    go_wp2
    go_ret
    exact ⟨ret_bool (by simp [Lx.grI]; omega), rfl⟩
theorem lx_digit (c : Int) (w : World) : Calls Tryd.prog 29 #[.int .i32 c] w fun e w' => e = .returned (.bool (Lx.dgI c)) ∧ w = w' := by
  by_cases h1 : 48 ≤ c
  · by_cases h2 : c ≤ 57
    · go_enter Tryd.func29, Tryd.ntmps29
      go_wp2
      go_ret
      exact ⟨ret_bool (by simp [Lx.dgI, h1, h2]), rfl⟩
    · go_enter Tryd.func29, Tryd.ntmps29
      go_wp2
      go_ret
      exact ⟨ret_bool (by simp [Lx.dgI, h1, h2]), rfl⟩
  · go_enter Tryd.func29, Tryd.ntmps29
    go_wp2
    go_ret
    exact ⟨ret_bool (by simp [Lx.dgI]; omega), rfl⟩
theorem lx_inside (c : Int) (w : World) : Calls Tryd.prog 25 #[.int .i32 c] w fun e w' => e = .returned (.bool (Lx.inI c)) ∧ w = w' := by
  have key : ∀ a b d : Bool, Lx.smI c = a → Lx.grI c = b → Lx.dgI c = d → Calls Tryd.prog 25 #[.int .i32 c] w fun e w' => e = .returned (.bool (Lx.inI c)) ∧ w = w' := by
    intro a b d ha hb hd
    have HA := hid ha
    have HB := hid hb
    have HD := hid hd
    clear ha hb hd
    by_cases hc : c = 95
    · have HC := hid hc
      have hq : (c == 95) = true := by simpa using hc
      clear hc
      cases a <;> cases b <;> cases d
      all_goals
        go_enter Tryd.func25, Tryd.ntmps25
        go_wp2_with (first
          | (go_at_call 26; (with_reducible refine (lx_small _ _).mono ?_); rw [HA.out]; rintro e w' ⟨rfl, rfl⟩)
          | (go_at_call 28; (with_reducible refine (lx_great _ _).mono ?_); rw [HB.out]; rintro e w' ⟨rfl, rfl⟩)
          | (go_at_call 29; (with_reducible refine (lx_digit _ _).mono ?_); rw [HD.out]; rintro e w' ⟨rfl, rfl⟩))
        go_ret
        exact ⟨ret_bool (by simp [Lx.inI, HA.out, HB.out, HD.out, HC.out]), rfl⟩
    · have HC := hid hc
      have hq : (c == 95) = false := by simpa using hc
      clear hc
      cases a <;> cases b <;> cases d
      all_goals
        go_enter Tryd.func25, Tryd.ntmps25
        go_wp2_with (first
          | (go_at_call 26; (with_reducible refine (lx_small _ _).mono ?_); rw [HA.out]; rintro e w' ⟨rfl, rfl⟩)
          | (go_at_call 28; (with_reducible refine (lx_great _ _).mono ?_); rw [HB.out]; rintro e w' ⟨rfl, rfl⟩)
          | (go_at_call 29; (with_reducible refine (lx_digit _ _).mono ?_); rw [HD.out]; rintro e w' ⟨rfl, rfl⟩))
        go_ret
        exact ⟨ret_bool (by simp [Lx.inI, HA.out, HB.out, HD.out, HC.out]), rfl⟩
  exact key _ _ _ rfl rfl rfl
end Go.Proofs.YtngbaghkjaibeaaDoor
