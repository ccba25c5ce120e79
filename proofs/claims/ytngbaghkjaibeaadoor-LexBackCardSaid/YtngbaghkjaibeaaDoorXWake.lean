/-
  THE WALK OF athanorlaw11.wakes.
-/
import Derived.Test.YtngbaghkjaibeaaDoorXPost
namespace Go.Proofs.YtngbaghkjaibeaaDoor
set_option linter.all false
open Go.ChangeShapes Go.WideShapes Go.ChangeAt Go.RowKit

def toksW : List Lx.Tok := [⟨5, [108, 101, 116], 0, 0⟩, ⟨1, [120], 0, 4⟩, ⟨6, [61], 0, 5⟩, ⟨4, [], -5, 6⟩, ⟨5, [105, 110], 0, 9⟩, ⟨1, [120], 0, 12⟩, ⟨6, [45, 62], 0, 13⟩, ⟨4, [], 1, 15⟩]
def strA : ByteArray := ⟨#[108, 101, 116, 32, 120, 61, 126, 53, 32, 105, 110, 32, 120, 45, 62, 49, 32, 35, 32, 99]⟩
def strB : ByteArray := ⟨#[97, 32, 48, 48, 55]⟩
theorem wakeA : Lx.lexT strA.data.toList = .ok toksW := by decide +kernel
theorem wakeB : Lx.lexT strB.data.toList = .bad 2 110 := by decide +kernel
theorem lexA_call (w : World) (hE : ErrVars w) : Calls Tryd.prog 10 #[.string ⟨#[108, 101, 116, 32, 120, 61, 126, 53, 32, 105, 110, 32, 120, 45, 62, 49, 32, 35, 32, 99]⟩] w (LexR (.ok toksW) w) := by
  have h := lex_Lex strA w hE
  rw [wakeA] at h
  exact h
theorem lexB_call (w : World) (hE : ErrVars w) : Calls Tryd.prog 10 #[.string ⟨#[97, 32, 48, 48, 55]⟩] w (LexR (.bad 2 110) w) := by
  have h := lex_Lex strB w hE
  rw [wakeB] at h
  exact h
theorem rowT_ne {w : World} {B : Nat} {v : Value} {l : List Lx.Tok} (h : TRowT w B v l) (hl : l ≠ []) : ∃ g c, v = .slice (some ⟨g, 0, none⟩) l.length c := by
  rcases h.2 with ⟨h1, h2⟩ | ⟨g, cap, cur, h1, _⟩
  · exact absurd (List.length_eq_zero_iff.1 h2) hl
  · exact ⟨g, cap, h1⟩
theorem TRowT.cells8 {w : World} {B g n c : Nat} {v : Value} (h : TRowT w B v toksW) (hv : v = .slice (some ⟨g, 0, none⟩) n c) : True ∧ ∀ w2, Below w.heap.size w w2 → w2.cell? ⟨g, 14, none⟩ = some (.int .i64 (-5)) ∧ w2.cell? ⟨g, 25, none⟩ = some (.string ⟨#[45, 62]⟩) := by
  subst hv
  refine ⟨trivial, fun w2 hb => ?_⟩
  have hlt := h.lt g rfl
  have c1 := World.ownsRow.cells h (g := g) rfl 14 (.int .i64 (-5)) rfl
  have c2 := World.ownsRow.cells h (g := g) rfl 25 (.string ⟨#[45, 62]⟩) rfl
  have hadd : ∀ k, (⟨g, 0, none⟩ : Addr).add k = ⟨g, k, none⟩ := fun k => by unfold Addr.add; split <;> simp_all
  rw [hadd] at c1 c2
  exact ⟨(hb.cell (p := ⟨g, 14, none⟩) hlt.2).trans c1, (hb.cell (p := ⟨g, 25, none⟩) hlt.2).trans c2⟩
set_option maxHeartbeats 4000000 in
set_option maxRecDepth 100000 in
theorem law_wakes (w : World) (hE : ErrVars w) : Calls Tryd.prog 9 #[] w fun e w' => e = .returned (.bool true) ∧ Below w.heap.size w w' := by
  have HE := hid hE
  clear hE
  go_enter Tryd.func9, Tryd.ntmps9
  go_wp2_with (go_at_call 10; first
    | ((with_reducible refine (lexA_call _ HE.out).mono ?_); rintro e w1 ⟨b, v, rfl, hr⟩; obtain ⟨g, c, rfl⟩ := rowT_ne hr (by decide); have HB := hid b; have HR := hid (hr.cells8 rfl); have h8 : toksW.length = 8 := rfl; rw [h8]; clear b hr h8)
    | ((with_reducible refine (lexB_call _ (HE.out.up HB.out)).mono ?_); rintro e w2 ⟨b, rfl⟩; have p2 := (HR.out.2 w2 b).1; have q1 := (HR.out.2 w2 b).2; have HB2 := hid (below_hop b HB.out); clear b))
  go_ret
  exact ⟨rfl, HB2.out⟩
end Go.Proofs.YtngbaghkjaibeaaDoor
