/-
  THE WALK OF core.formed, JOINED.
-/
import Derived.Test.YtohdaclbgedeiaaEFormed2
import Derived.Test.YtohdaclbgedeiaaEFormed3
import Derived.Test.YtohdaclbgedeiaaEFormed9
namespace Go.Proofs.Ytohdaclbgedeiaa
set_option linter.all false
open Go.ChangeShapes Go.WideShapes Go.ChangeAt Go.RowKit
open Ev (Co formB)
theorem formB_none (k x y m : Int) (b : Bool) (ts : List Int) (l : Nat) (h1 : k ≠ 1) (h2 : k ≠ 2) (h3 : k ≠ 3) (h4 : k ≠ 4) (h5 : k ≠ 5) (h6 : k ≠ 6) (h7 : k ≠ 7) (h8 : k ≠ 8) (h9 : k ≠ 9) (h10 : k ≠ 10) (h11 : k ≠ 11) : formB k x y m b ts l = false := by
  unfold formB
  rw [if_neg h1, if_neg h2, if_neg h3, if_neg h4, if_neg h5, if_neg h6, if_neg h7, if_neg h8, if_neg h9, if_neg h10, if_neg h11]
theorem core_formed (k x y m : Int) (b : Bool) (T A : Option Addr) (tc : Nat) (ts : List Int) (l c : Nat) (S : Nat → Prop) (w : World) (hI : IAt w S ts T tc) (hl : l ≤ 17592186044416) :
    Calls Try.prog 57 #[.agg #[.int .i64 k, .int .i64 x, .int .i64 y, .int .i64 m, .bool b, .slice T ts.length tc, .slice A l c]] w (FormP (formB k x y m b ts l) w) := by
  have ht := hI.1.2.2.2
  by_cases h1 : k = 1
  · subst h1; exact formed1 x y m b T A tc ts l c w hl ht
  by_cases h2 : k = 2
  · subst h2; exact formed2 x y m b T A tc ts l c w hl ht
  by_cases h3 : k = 3
  · subst h3; exact formed3 x y m b T A tc ts l c w hl ht
  by_cases h4 : k = 4
  · subst h4; exact formed4 x y m b T A tc ts l c w hl ht
  by_cases h5 : k = 5
  · subst h5; exact formed5 x y m b T A tc ts l c w hl ht
  by_cases h6 : k = 6
  · subst h6; exact formed6 x y m b T A tc ts l c w hl ht
  by_cases h7 : k = 7
  · subst h7; exact formed7 x y m b T A tc ts l c w hl ht
  by_cases h8 : k = 8
  · subst h8; exact formed8 x y m b T A tc ts l c w hl ht
  by_cases h9 : k = 9
  · subst h9; exact formed9 x y m b T A tc ts l c S w hl hI
  by_cases h10 : k = 10
  · subst h10; exact formed10 x y m b T A tc ts l c w hl ht
  by_cases h11 : k = 11
  · subst h11; exact formed11 x y m b T A tc ts l c w hl ht
  rw [formB_none k x y m b ts l h1 h2 h3 h4 h5 h6 h7 h8 h9 h10 h11]
  have e : ∀ {a b : Int}, a ≠ b → (a == b) = false := fun h => by simpa using h
  exact formed0 k x y m b T A ts.length tc l c w (e h1) (e h2) (e h3) (e h4) (e h5) (e h6) (e h7) (e h8) (e h9) (e h10) (e h11)
end Go.Proofs.Ytohdaclbgedeiaa
