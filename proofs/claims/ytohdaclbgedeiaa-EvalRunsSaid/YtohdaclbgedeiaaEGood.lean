/-
  THE WALK OF core.good, JOINED.
-/
import Derived.Test.YtohdaclbgedeiaaEGood0
namespace Go.Proofs.Ytohdaclbgedeiaa
set_option linter.all false
open Go.ChangeShapes Go.WideShapes Go.ChangeAt Go.RowKit
open Ev (Co nodes nodesL goodM goodML formB bindL addM updI)
theorem core_good : ∀ (N : Nat) (t : Co), SizeOf.sizeOf t ≤ N → ∀ (d : Int) (M : Nat), 0 ≤ d → GoodH [t] d M := by
  intro N
  induction N with
  | zero => intro t ht; cases t; simp at ht
  | succ N ih =>
    intro t ht d M hd0 t' ht' v S w f n hv hS hm hz hn
    simp only [List.mem_singleton] at ht'
    subst ht'
    obtain ⟨k, x, y, m, b, ts, us⟩ := t'
    by_cases hd : 1024 < d
    · refine (good_deep v S _ w d M hv hd).mono ?_
      rintro e w' ⟨rfl, hb⟩
      have e5 : goodM (.mk k x y m b ts us) d f = none := by rw [goodM, if_pos (.inl hd)]
      exact ⟨by rw [e5]; rfl, fun g h => (by rw [e5] at h; cases h), below_by hb _⟩
    obtain ⟨T, tc, A, c, rfl, hI, hc, hrow, hwf⟩ := hv.parts
    cases hf : formB k x y m b ts us.length with
    | false =>
      refine (good_bad k x y m b T A tc ts us.length c S w d M hI hc.2.2.2 hd hf).mono ?_
      rintro e w' ⟨rfl, hb⟩
      have e5 : goodM (.mk k x y m b ts us) d f = none := by rw [goodM, if_pos (.inr hf)]
      exact ⟨by rw [e5]; rfl, fun g h => (by rw [e5] at h; cases h), below_by hb _⟩
    | true =>
      have H : GoodH us (d + 1) M := fun t hm' => ih t (by have := co_lt (k := k) (x := x) (y := y) (n := m) (i := b) (ts := ts) hm'; omega) (d + 1) M (by omega) t (by simp)
      have hn2 : n + 2 + 2 * nodesL us ≤ 17592186044416 := by rw [nodes] at hn; omega
      by_cases h3 : k = 3 ∨ k = 5
      · exact good_three k x y m b T A tc ts us c S w d f n M h3 hI hc.2.2.2 hrow hS hm hz hn2 hwf hd hd0 hf H
      · by_cases h6 : k = 6
        · subst h6
          exact good_six x y m b T A tc ts us c S w d f n M hI hc.2.2.2 hrow hS hm hz hn2 hwf hd hd0 hf H
        · exact good_rest k x y m b T A tc ts us c S w d f n M (fun h => h3 (.inl h)) (fun h => h3 (.inr h)) h6 hI hc.2.2.2 hrow hS hm hz hn2 hwf hd hd0 hf H
theorem core_good_at (t : Co) (v : Value) (S : Nat → Prop) (w : World) (d : Int) (f : Int → Int) (k M : Nat) (hd : 0 ≤ d) (hv : CAt w S t v) (hS : ∀ b, S b → b ≠ M) (hm : MapI w M f k) (hz : Z01 f) (hk : k + 2 * nodes t ≤ 17592186044416) : Calls Try.prog 44 #[v, .int .i64 d, .map (some M)] w (GoodP t d f k M w) :=
  core_good _ t (Nat.le_refl _) d M hd t (by simp) v S w f k hv hS hm hz hk
end Go.Proofs.Ytohdaclbgedeiaa
