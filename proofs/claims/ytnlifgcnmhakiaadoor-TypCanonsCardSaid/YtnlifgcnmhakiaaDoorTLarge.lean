/-
  THE WALK OF athanorlaw15.large.
-/
import Derived.Test.YtnlifgcnmhakiaaDoorTPairs
namespace Go.Proofs.YtnlifgcnmhakiaaDoor
open Go.ChangeShapes Go.WideShapes Go.ChangeAt Go.RowKit

def Few (ps : List (Ty × Ty)) (k : Nat) : Prop := ∀ i, (h : i < ps.length) → i < k → nodes ps[i].1 ≤ 20000 ∧ nodes ps[i].2 ≤ 20000
def LargesP (ps : List (Ty × Ty)) (w : World) (e : Ending) (w' : World) : Prop := (∃ b : Bool, e = .returned (.bool b) ∧ (b = false → Few ps 12)) ∧ Below w.heap.size w w'
theorem few_succ {ps : List (Ty × Ty)} {i : Nat} (h : Few ps i) (hi : i < ps.length) (h1 : nodes ps[i].1 ≤ 20000) (h2 : nodes ps[i].2 ≤ 20000) : Few ps (i + 1) := by
  intro j hj hji
  by_cases e : j = i
  · subst e; exact ⟨h1, h2⟩
  · exact h j hj (by omega)
set_option maxHeartbeats 4000000 in
set_option maxRecDepth 100000 in
theorem law15_large (ps : List (Ty × Ty)) (v : Value) (S : Nat → Prop) (w : World) (hp : PsAt w S ps v) : Calls Tryd.prog 12 #[v] w (LargesP ps w) := by
  obtain ⟨A, c, rfl, hc, hcm, hrow⟩ := hp
  have hL : ps.length ≤ 9223372036854775807 := by unfold maxLen at hcm; omega
  have H := hid hrow
  clear hrow hc hcm
  go_enter Tryd.func12, Tryd.ntmps12
  go_wp2
  go_loopg [3] 12 (fun g x wr => ∃ i : Nat, i + g = 12 ∧ x = .int .i64 i ∧ Hid (Below w.heap.size w wr) ∧ Hid (Few ps i))
  case atStart => exact ⟨0, by omega, rfl, hid (Below.refl _ _), hid (fun i _ h => by omega)⟩
  case round =>
    obtain ⟨i, hi, rfl, hb, hf⟩ := hrel
    have Hi := hid hi
    by_cases hlt : i < ps.length
    case neg =>
      have hlt' : ¬ (i : Int) < ps.length := by omega
      have hd : decide ((i : Int) < (ps.length : Nat)) = false := by simpa using hlt'
      have hd2 : decide (i < ps.length) = false := by simpa using hlt
      clear hi
      go_wp2
      go_ret
      exact ⟨⟨false, rfl, fun _ j hj _ => hf.out j hj (by omega)⟩, hb.out⟩
    have hlt' : (i : Int) < ps.length := by omega
    by_cases h12 : i < 12
    case neg =>
      have h12' : ¬ (i : Int) < 12 := by omega
      clear hi
      go_wp2
      go_ret
      exact ⟨⟨false, rfl, fun _ j hj h => hf.out j hj (by omega)⟩, hb.out⟩
    have h12' : (i : Int) < 12 := by omega
    have hi0 : (0 : Int) ≤ (i : Int) := by omega
    have hiw : IntKind.i64.wrap ((i : Int) + 1) = i + 1 := IntWalk.i64_in _ (by omega)
    obtain ⟨ad, q, s, n, A1, m, c1, q', s', n', A2, m', c2, rfl, hSb, hab, y0, y1, y2, y3, z0, z1, z2, z3, ha, hbb⟩ := (H.out.up hb.out).elem hlt
    have Q := hid (And.intro ha hbb)
    have Z := hid (And.intro (cell_lt z0) (cell_lt y0))
    clear hi hSb hab ha hbb
    go_wp2_with (first
      | (go_at_call 5; (with_reducible refine (law12_LargeType ps[i].1 _ S _ Q.out.1).mono ?_); rintro e w1 ⟨⟨b1, rfl, hb1⟩, bl⟩; go_must (have HB1 := hid (And.intro hb1 bl); have u0 := (bl.cell (p := ⟨(ad.add (i * 8)).block, (ad.add (i * 8)).off + 4, none⟩) Z.out.1).trans z0; have u1 := (bl.cell (p := ⟨(ad.add (i * 8)).block, (ad.add (i * 8)).off + 5, none⟩) Z.out.1).trans z1; have u2 := (bl.cell (p := ⟨(ad.add (i * 8)).block, (ad.add (i * 8)).off + 6, none⟩) Z.out.1).trans z2; have u3 := (bl.cell (p := ⟨(ad.add (i * 8)).block, (ad.add (i * 8)).off + 7, none⟩) Z.out.1).trans z3; clear hb1 bl))
      | (go_at_call 5; (with_reducible refine (law12_LargeType ps[i].2 _ S w1 (Q.out.2.up HB1.out.2)).mono ?_); rintro e w2 ⟨⟨b2, rfl, hb2⟩, bl⟩; go_must (have HB2 := hid (And.intro hb2 bl); clear hb2 bl)))
    · go_ret
      exact ⟨⟨true, rfl, fun h => by cases h⟩, below_hop HB1.out.2 hb.out⟩
    · go_ret
      exact ⟨⟨true, rfl, fun h => by cases h⟩, below_hop HB2.out.2 (below_hop HB1.out.2 hb.out)⟩
    · have h1 : b1 = false := by cases b1 <;> simp_all
      have h2 : b2 = false := by assumption
      have hgk := Hi.out
      have hfs := few_succ hf.out hlt (HB1.out.1 h1) (HB2.out.1 h2)
      have Hfs := hid hfs
      clear hfs
      go_roundg (gk - 1)
      case rel => exact ⟨i + 1, by omega, rfl, hid (below_hop HB2.out.2 (below_hop HB1.out.2 hb.out)), Hfs⟩
      case measure => omega
end Go.Proofs.YtnlifgcnmhakiaaDoor
