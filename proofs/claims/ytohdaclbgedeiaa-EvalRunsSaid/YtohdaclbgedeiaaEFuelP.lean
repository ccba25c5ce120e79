/-
  PLAIN: what a run tells; with more fuel.
-/
import Derived.Test.YtohdaclbgedeiaaEGoodP
namespace Go.Proofs.Ytohdaclbgedeiaa
set_option linter.all false
namespace Ev

/-- What a run shows, or how it stops. -/
def resO : Out Va → Out (List Int)
  | .ok u => showV u []
  | .stop k => .stop k
/-- The end, the writes, what is shown, the error. -/
def fin : Out (List Int) → List Int → Int × List Int × List Int × Int
  | .ok l, ws => (1, ws, l, 0)
  | .stop k, ws => if k < 0 then (0, [], [], 190) else (k, ws, [], 0)
/-- A run. -/
def RunIs (c : Co) (l : List Int) (fuel : Int) (r : Int × List Int × List Int × Int) (n : Nat) : Prop :=
  (goodB c = false ∧ r = (0, [], [], 190) ∧ n = 0) ∨ (goodB c = true ∧ (256 < l.length ∨ fuel < 0 ∨ 65536 < fuel) ∧ r = (0, [], [], 1) ∧ n = 0) ∨
  (goodB c = true ∧ l.length ≤ 256 ∧ 0 ≤ fuel ∧ fuel ≤ 65536 ∧ ∃ g o ws, whole fuel.toNat g c l = some (o, n, ws) ∧ r = fin (resO o) ws)
theorem input_ok (K : Nat) : ∀ l, OkV K (inputV l)
  | [] => .con (fun v hv => by cases hv)
  | n :: l => .con (fun v hv => by
    rcases List.mem_cons.1 hv with rfl | hv
    · exact .num
    · rcases List.mem_cons.1 hv with rfl | hv
      · exact input_ok K l
      · cases hv)
theorem app_ends {F K : Nat} (vf va : Va) (s : Nat) (w : List Int) (hs : s ≤ F) (hvf : OkV K vf) (hva : OkV K va) : Ends (fun g => app F (ev F g) vf va s w) (OkV K) := by
  by_cases h3 : s = F
  · refine ⟨0, .stop 3, s, w, by dsimp only; unfold app; rw [if_pos h3], fun a h => by cases h⟩
  · cases vf with
    | num n => exact ⟨0, .stop (-1), s + 1, w, by dsimp only; unfold app; rw [if_neg h3], fun a h => by cases h⟩
    | con t us => exact ⟨0, .stop (-1), s + 1, w, by dsimp only; unfold app; rw [if_neg h3], fun a h => by cases h⟩
    | clo x self b e2 =>
      cases hvf with
      | clo q1 q2 q3 =>
        have hE : OkE K (.bind x va (around x self b e2)) := by
          refine .bind hva ?_
          unfold around
          split
          · exact .bind (.clo q1 q2 q3) q3
          · exact q3
        have hD : Fit (En.bind x va (around x self b e2)).dom b := by
          rw [En.dom]
          unfold around
          split
          · rename_i h9; rw [if_pos h9] at q1; exact q1
          · rename_i h9; rw [if_neg h9] at q1; exact q1
        obtain ⟨g, o, s3, w3, h5, h6⟩ := ev_ends F K _ b (.bind x va (around x self b e2)) (s + 1) w (Nat.le_refl _) (by omega) q2 hD hE
        exact ⟨g, o, s3, w3, by dsimp only; unfold app; rw [if_neg h3]; exact h5, h6⟩
theorem mono_whole (F : Nat) (c : Co) (l : List Int) : Mono (fun g => whole F g c l) := fun g => Le.bnd (ev_succ F g c .nil 0 []) (fun f s w => Mono.rA F f (inputV l) s w g)
theorem whole_ends {c : Co} (h : goodB c = true) (F : Nat) (l : List Int) : ∃ g o s ws, whole F g c l = some (o, s, ws) := by
  obtain ⟨h1, h2⟩ := good_fit h
  have h3 : Ends (fun g => whole F g c l) (OkV 65536) := Ends.bnd (s0 := 0) (w0 := []) (F := F) (P := OkV 65536) (Mono.r1 F c .nil 0 []) (fun f s w => Mono.rA F f (inputV l) s w) (ev_ends F 65536 _ c .nil 0 [] (Nat.le_refl _) (by omega) h2 h1 .nil) (fun g => ev_grows F g c .nil 0 []) (fun vf s1 w1 hvf g1 => app_ends vf _ s1 w1 (g1.fuel (by omega)) hvf (input_ok _ l))
  obtain ⟨g, o, s, w, h4, _⟩ := h3
  exact ⟨g, o, s, w, h4⟩
theorem whole_one {F g g' : Nat} {c : Co} {l : List Int} {y y' : Out Va × Nat × List Int} (h1 : whole F g c l = some y) (h2 : whole F g' c l = some y') : y = y' := (mono_whole F c l).one h1 h2
theorem whole_fuel {F F' : Nat} (hF : F ≤ F') (g : Nat) (c : Co) (l : List Int) : Fu (whole F g c l) (fun g' => whole F' g' c l) :=
  Fu.b (F := F) (F' := F') (s := 0) (w := []) (Mono.r1 F' c .nil 0 []) (fun f s w => Mono.rA F' f (inputV l) s w) (fun g f s w => gr_app F' g f (inputV l) s w) (by omega) (ev_grows F g c .nil 0 []) (ev_fuel hF g c .nil 0 [] (by omega))
    (fun f s1 w1 h1 => Fu.rA hF (ev_fuel hF g) f (inputV l) s1 w1 h1)
theorem whole_grows {F g : Nat} {c : Co} {l : List Int} {o : Out Va} {s : Nat} {ws : List Int} (h : whole F g c l = some (o, s, ws)) : Gr F 0 [] s ws :=
  Grows.bnd (ev_grows F g c .nil 0 []) (fun f s w => gr_app F g f (inputV l) s w) _ _ _ h
theorem run_one {c : Co} {l : List Int} {fuel : Int} {r q : Int × List Int × List Int × Int} {n m : Nat} (h : RunIs c l fuel r n) (k : RunIs c l fuel q m) : r = q ∧ n = m := by
  rcases h with ⟨h1, rfl, rfl⟩ | ⟨h1, h2, rfl, rfl⟩ | ⟨h1, h2, h3, h4, g, o, ws, h5, rfl⟩
  · rcases k with ⟨k1, rfl, rfl⟩ | ⟨k1, _⟩ | ⟨k1, _⟩
    · exact ⟨rfl, rfl⟩
    · rw [h1] at k1; cases k1
    · rw [h1] at k1; cases k1
  · rcases k with ⟨k1, _⟩ | ⟨k1, k2, rfl, rfl⟩ | ⟨k1, k2, k3, k4, _⟩
    · rw [h1] at k1; cases k1
    · exact ⟨rfl, rfl⟩
    · omega
  · rcases k with ⟨k1, _⟩ | ⟨k1, k2, _⟩ | ⟨k1, k2, k3, k4, g2, o2, ws2, k5, rfl⟩
    · rw [h1] at k1; cases k1
    · omega
    · have := whole_one h5 k5
      injection this with t1 t2
      injection t2 with t2 t3
      subst t1 t2 t3
      exact ⟨rfl, rfl⟩
theorem run_ends (c : Co) (l : List Int) (fuel : Int) : ∃ r n, RunIs c l fuel r n := by
  cases hg : goodB c with
  | false => exact ⟨_, _, .inl ⟨hg, rfl, rfl⟩⟩
  | true =>
    by_cases h : 256 < l.length ∨ fuel < 0 ∨ 65536 < fuel
    · exact ⟨_, _, .inr (.inl ⟨hg, h, rfl, rfl⟩)⟩
    · obtain ⟨g, o, s, ws, h1⟩ := whole_ends hg fuel.toNat l
      exact ⟨_, _, .inr (.inr ⟨hg, by omega, by omega, by omega, g, o, ws, h1, rfl⟩)⟩
/-- What the law on the fuel asks. -/
def FuelLaw (r q : Int × List Int × List Int × Int) : Prop := (r.2.2.2 ≠ 0 → r.2.2.2 = q.2.2.2 ∧ r.1 = 0) ∧ (r.2.2.2 = 0 → r.1 ≠ 3 → q.2.2.2 = 0 ∧ r = q) ∧ (r.2.2.2 = 0 → r.1 = 3 → q.2.2.2 = 190 ∨ r.2.1 <+: q.2.1)
theorem fuelLaw_same {r : Int × List Int × List Int × Int} (h : r.2.2.2 ≠ 0 → r.1 = 0) : FuelLaw r r := ⟨fun h1 => ⟨rfl, h h1⟩, fun h1 _ => ⟨h1, rfl⟩, fun _ _ => .inr (List.prefix_refl _)⟩
theorem fin_err (o : Out (List Int)) (ws : List Int) : (fin o ws).2.2.2 ≠ 0 → (fin o ws).1 = 0 := by
  cases o with
  | ok l => intro h; exact absurd rfl h
  | stop k =>
    rw [fin]
    by_cases hk : k < 0
    · rw [if_pos hk]; intro _; rfl
    · rw [if_neg hk]; intro h; exact absurd rfl h
theorem run_fuel {c : Co} {l : List Int} {a b : Int} (ha : 0 ≤ a) (hab : a ≤ b) (hb : b ≤ 3000) {r q : Int × List Int × List Int × Int} {n m : Nat} (h : RunIs c l a r n) (k : RunIs c l b q m) : FuelLaw r q := by
  rcases h with ⟨h1, rfl, rfl⟩ | ⟨h1, h2, rfl, rfl⟩ | ⟨h1, h2, h3, h4, g, o, ws, h5, rfl⟩
  · rcases k with ⟨k1, rfl, rfl⟩ | ⟨k1, _⟩ | ⟨k1, _⟩
    · exact fuelLaw_same (fun _ => rfl)
    · rw [h1] at k1; cases k1
    · rw [h1] at k1; cases k1
  · rcases k with ⟨k1, _⟩ | ⟨k1, k2, rfl, rfl⟩ | ⟨k1, k2, k3, k4, _⟩
    · rw [h1] at k1; cases k1
    · exact fuelLaw_same (fun _ => rfl)
    · omega
  · rcases k with ⟨k1, _⟩ | ⟨k1, k2, _⟩ | ⟨k1, k2, k3, k4, g2, o2, ws2, k5, rfl⟩
    · rw [h1] at k1; cases k1
    · omega
    · obtain ⟨p, q⟩ := whole_fuel (show a.toNat ≤ b.toNat by omega) g c l _ _ _ h5
      by_cases ho : o = .stop 3
      · have hp := q ho g2 _ _ _ k5
        subst ho
        have e1 : fin (resO (Out.stop 3 : Out Va)) ws = (3, ws, [], 0) := rfl
        rw [e1]
        refine ⟨fun h => absurd rfl h, fun _ h => absurd rfl h, fun _ _ => ?_⟩
        cases hr : resO o2 with
        | ok l2 => exact .inr hp
        | stop k =>
          rw [fin]
          by_cases hk : k < 0
          · rw [if_pos hk]; exact .inl rfl
          · rw [if_neg hk]; exact .inr hp
      · obtain ⟨g3, h9⟩ := p ho
        have := whole_one h9 k5
        injection this with t1 t2
        injection t2 with t2 t3
        subst t1 t2 t3
        exact fuelLaw_same (fin_err _ _)
end Ev
end Go.Proofs.Ytohdaclbgedeiaa
