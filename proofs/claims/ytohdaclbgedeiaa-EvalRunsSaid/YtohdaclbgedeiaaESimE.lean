/-
  PLAIN: what an evaluation of a constructor, a field, a primitive, a print is made of.
  AN OPERATION OF A DRAWN REGION IS TAKEN FIRST, ITS PLACE BY NAME.
-/
import Derived.Test.YtohdaclbgedeiaaESimP
import Derived.Test.YtohdaclbgedeiaaESimC
import Derived.Deep.RegionHeld2
namespace Go.Proofs.Ytohdaclbgedeiaa
set_option linter.all false
open Ev (Co Va En Out evL ev evS R bnd)
def fieldO (n : Int) (s : Nat) (ws : List Int) (o : Out (List Va)) (oo : Out Va) (s2 : Nat) (ws2 : List Int) : Prop := match o with
  | .ok vs => Ev.field n s ws vs = some (oo, s2, ws2)
  | .stop k => oo = .stop k ∧ s2 = s ∧ ws2 = ws
theorem ev_con {F g : Nat} {x y n : Int} {i : Bool} {ts : List Int} {us : List Co} {e : En} {s : Nat} {ws : List Int} {oo : Out Va} {s2 : Nat} {ws2 : List Int} (h : ev F (g + 1) (.mk 7 x y n i ts us) e s ws = some (oo, s2, ws2)) : ∃ o, evL (fun c s w => ev F g c e s w) us s ws = some (o, s2, ws2) ∧ conO n o = oo := by
  rw [show ev F (g + 1) = evS F (ev F g) from rfl] at h
  unfold evS at h
  dsimp only at h
  rw [if_neg (by decide), if_neg (by decide), if_neg (by decide), if_neg (by decide), if_neg (by decide), if_neg (by decide), if_pos rfl] at h
  rcases Ev.bnd_some h with ⟨k, h1, rfl⟩ | ⟨vs, s1, w1, h1, h2⟩
  · exact ⟨_, h1, rfl⟩
  · injection h2 with h2; injection h2 with h3 h2; injection h2 with h4 h5
    subst h3 h4 h5
    exact ⟨_, h1, rfl⟩
theorem ev_field {F g : Nat} {x y n : Int} {i : Bool} {ts : List Int} {us : List Co} {e : En} {s : Nat} {ws : List Int} {oo : Out Va} {s2 : Nat} {ws2 : List Int} (h : ev F (g + 1) (.mk 8 x y n i ts us) e s ws = some (oo, s2, ws2)) : ∃ o s1 w1, evL (fun c s w => ev F g c e s w) us s ws = some (o, s1, w1) ∧ fieldO n s1 w1 o oo s2 ws2 ∧ (∀ vs, o = .ok vs → 0 ≤ n) := by
  rw [show ev F (g + 1) = evS F (ev F g) from rfl] at h
  unfold evS at h
  dsimp only at h
  rw [if_neg (by decide), if_neg (by decide), if_neg (by decide), if_neg (by decide), if_neg (by decide), if_neg (by decide), if_neg (by decide), if_pos rfl] at h
  rcases Ev.bnd_some h with ⟨k, h1, rfl⟩ | ⟨vs, s1, w1, h1, h2⟩
  · exact ⟨_, _, _, h1, ⟨rfl, rfl, rfl⟩, fun vs e => by cases e⟩
  · by_cases hn : 0 ≤ n
    · rw [if_pos hn] at h2
      exact ⟨_, _, _, h1, h2, fun _ _ => hn⟩
    · rw [if_neg hn] at h2; cases h2
theorem ev_print {F g : Nat} {x y n : Int} {i : Bool} {ts : List Int} {us : List Co} {e : En} {s : Nat} {ws : List Int} {oo : Out Va} {s2 : Nat} {ws2 : List Int} (h : ev F (g + 1) (.mk 11 x y n i ts us) e s ws = some (oo, s2, ws2)) : ∃ o s1 w1, evL (fun c s w => ev F g c e s w) us s ws = some (o, s1, w1) ∧ tellO s1 w1 o oo s2 ws2 := by
  rw [show ev F (g + 1) = evS F (ev F g) from rfl] at h
  unfold evS at h
  dsimp only at h
  rw [if_neg (by decide), if_neg (by decide), if_neg (by decide), if_neg (by decide), if_neg (by decide), if_neg (by decide), if_neg (by decide), if_neg (by decide), if_neg (by decide), if_neg (by decide), if_pos rfl] at h
  rcases Ev.bnd_some h with ⟨k, h1, rfl⟩ | ⟨vs, s1, w1, h1, h2⟩
  · exact ⟨_, _, _, h1, rfl, rfl, rfl⟩
  · exact ⟨_, _, _, h1, h2⟩
end Go.Proofs.Ytohdaclbgedeiaa
namespace Go.Proofs.Ytohdaclbgedeiaa
set_option linter.all false
/-- An operation of a drawn region is taken first; where it puts what it yields is told. -/
theorem take_d {P : Program} {ops : Array Oper} {Q : Exit → Act → World → Prop} {md : Region.Mode} {S : World → Prop} (d : Option Nat) {i : Nat} {oi : Oper} {v : Value} {fuel : Nat} {listed : Array Bool} {a : Act} {w : World} (hi : ops[i]? = some oi) (hd : oi.dst = d)
    (hs : Region.noSelect ops = true) (hf : Region.free md ops listed i = true) (hr : (Region.ready md ops listed).contains i = true)
    (hQ : ∀ c a w, Q (.panic c) (a.put d v) w → Q (.panic c) a w) (hy : YieldsIf P ops S oi v a) (hS : S w)
    (h : wpAnyH P md ops Q S fuel (listed.setIfInBounds i true) (a.put d v) w) : wpAnyH P md ops Q S (fuel + 1) listed a w := by
  subst hd
  exact wpAnyH_take hi hs hf hr hQ hy hS h
end Go.Proofs.Ytohdaclbgedeiaa
