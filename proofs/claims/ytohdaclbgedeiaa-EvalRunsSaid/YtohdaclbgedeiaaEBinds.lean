/-
  THE WALK OF core.binds.
-/
import Derived.Test.YtohdaclbgedeiaaEGood
namespace Go.Proofs.Ytohdaclbgedeiaa
set_option linter.all false
open Go.ChangeShapes Go.WideShapes Go.ChangeAt Go.RowKit
open Ev (Co nodes nodesL bindA)
def BindsP (L : List Int) (w : World) (e : Ending) (w' : World) : Prop := ∃ A c, e = .returned (.slice A L.length c) ∧ IAt w' (fun b => w.heap.size ≤ b) L A c ∧ Below w.heap.size w w'
theorem cell_add {g j : Nat} : (⟨g, 0, none⟩ : Addr).add j = ⟨g, j, none⟩ := by unfold Addr.add; split <;> simp_all
theorem binds_none {L : List Int} {w w' : World} (h : L = []) (hb : Below w.heap.size w w') : BindsP L w (.returned (.slice none 0 0)) w' := by
  subst h
  exact ⟨none, 0, rfl, ⟨⟨Nat.le_refl _, Nat.zero_le _, fun _ => ⟨rfl, rfl⟩, by simp⟩, fun j hj => by simp at hj⟩, hb⟩
theorem binds_some {L : List Int} {w w' : World} {g : Nat} {xs : List Int} {n : Nat} (h : L = xs) (hn : n = xs.length) (hl : xs.length ≤ 2) (hw : ∀ x ∈ xs, (Lit.int .i64 x).wf = true) (hg : w.heap.size ≤ g) (hb : Blk w' g 3 (xs.map (fun x => Value.int .i64 x)).toArray) (h2 : Below w.heap.size w w') : BindsP L w (.returned (.slice (some ⟨g, 0, none⟩) n n)) w' := by
  subst h hn
  refine ⟨_, _, rfl, ⟨⟨Nat.le_refl _, by unfold maxLen; omega, fun h => (by cases h), by omega⟩, fun j hj => ⟨_, rfl, hg, ?_, hw _ (List.getElem_mem hj)⟩⟩, h2⟩
  rw [cell_add, hb.cell j]
  simp [hj]
set_option maxHeartbeats 8000000 in
set_option maxRecDepth 100000 in
theorem core_binds (k x y m : Int) (b : Bool) (T A : Option Addr) (tl tc l c : Nat) (w : World) (j : Nat) (hwf : Wf4 k x y m) :
    Calls Try.prog 69 #[.agg #[.int .i64 k, .int .i64 x, .int .i64 y, .int .i64 m, .bool b, .slice T tl tc, .slice A l c], .int .i64 j] w (BindsP (bindA k x y j) w) := by
  have HW := hid hwf
  clear hwf
  go_enter Try.func69, Try.ntmps69
  go_wp2
  all_goals (go_ret; first
    | exact binds_none (by unfold bindA; simp_all <;> first | omega | (intro; omega)) (by go_grown)
    | exact binds_some (xs := [x]) (by unfold bindA; simp_all <;> first | omega | (intro; omega)) rfl (by simp) (by simpa using HW.out.2.1) (by simp) (Blk.new' (by simp) _ _) (by go_grown)
    | exact binds_some (xs := [x, y]) (by unfold bindA; simp_all <;> first | omega | (intro; omega)) rfl (by simp) (by simpa using And.intro HW.out.2.1 HW.out.2.2.1) (by simp) (Blk.new' (by simp) _ _) (by go_grown))
end Go.Proofs.Ytohdaclbgedeiaa
