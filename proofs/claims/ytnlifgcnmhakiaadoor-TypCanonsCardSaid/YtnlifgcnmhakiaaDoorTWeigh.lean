/-
  THE WALK OF athanorlaw12.LargeType: what is not too large has few nodes.
-/
import Derived.Test.YtnlifgcnmhakiaaDoorTTree
namespace Go.Proofs.YtnlifgcnmhakiaaDoor
open Go.ChangeShapes Go.WideShapes Go.ChangeAt Go.RowKit

/-- What weighType tells. -/
def WeighP (t : Ty) (n : Int) (w : World) (e : Ending) (w' : World) : Prop :=
  (∃ r : Int, e = .returned (.int .i64 r) ∧ (r = -1 ∨ (0 ≤ r ∧ r ≤ 20000 ∧ n + nodes t ≤ r))) ∧ Below w.heap.size w w'

set_option maxHeartbeats 4000000 in
set_option maxRecDepth 100000 in
theorem weigh_node (q : Int) (s : ByteArray) (k n : Int) (A : Option Addr) (us : List Ty) (c d : Nat) (S : Nat → Prop) (w : World) (hn0 : 0 ≤ n) (hn : n ≤ 20000) (hd : d ≤ 601) (hm : us.length ≤ maxLen) (hrow : TRow w S us A 0)
    (ih : ∀ t ∈ us, ∀ (d : Nat) (x n : Int) (v : Value) (S : Nat → Prop) (w : World), x = d → 0 ≤ n → n ≤ 20000 → d ≤ 601 → TAt w S t v → Calls Tryd.prog 17 #[v, .int .i64 x, .int .i64 n] w (WeighP t n w)) :
    Calls Tryd.prog 17 #[.agg #[.int .i64 q, .string s, .int .i64 k, .slice A us.length c], .int .i64 d, .int .i64 n] w (WeighP (.mk q s k us) n w) := by
  have hL : us.length ≤ 9223372036854775807 := by unfold maxLen at hm; omega
  have q1 : ((us.length : Nat) : Int).tdiv 10 = us.length / 10 := Int.tdiv_eq_ediv_of_nonneg (by omega)
  have q2 : IntKind.i64.wrap ((us.length : Int) / 10) = us.length / 10 := IntWalk.i64_in _ (by omega)
  have q3 : IntKind.i64.wrap (1 + (us.length : Int) / 10) = 1 + us.length / 10 := IntWalk.i64_in _ (by omega)
  have q4 : IntKind.i64.wrap (n + (1 + (us.length : Int) / 10)) = n + (1 + us.length / 10) := IntWalk.i64_in _ (by omega)
  have H := hid (And.intro hm (And.intro hrow (And.intro ih hn0)))
  clear hm hrow ih hn0
  by_cases hbig : n + (1 + (us.length : Int) / 10) > 20000
  · go_enter Tryd.func17, Tryd.ntmps17
    go_wp2
    go_ret
    exact ⟨⟨-1, rfl, .inl rfl⟩, (Below.refl _ _).alloc (Nat.le_refl _) _⟩
  · by_cases hdp : (d : Int) > 600
    · go_enter Tryd.func17, Tryd.ntmps17
      go_wp2
      go_ret
      exact ⟨⟨-1, rfl, .inl rfl⟩, (Below.refl _ _).alloc (Nat.le_refl _) _⟩
    · have q5 : IntKind.i64.wrap ((d : Int) + 1) = d + 1 := IntWalk.i64_in _ (by omega)
      go_enter Tryd.func17, Tryd.ntmps17
      go_wp2
      go_loopg [2, 7] us.length (fun g nv x wr => ∃ (i : Nat) (m : Int), i + g = us.length ∧ x = .int .i64 i ∧ nv = .int .i64 m ∧ Hid (m = -1 ∨ (0 ≤ m ∧ m ≤ 20000 ∧ n + 1 + nodesL (us.take i) ≤ m)) ∧ Hid (Blk wr w.heap.size 24 #[.int .i64 q, .string s, .int .i64 k, .slice A us.length c]) ∧ Hid (Below w.heap.size w wr))
      case atStart => exact ⟨0, _, by omega, rfl, rfl, hid (.inr ⟨by have := H.out.2.2.2; omega, by omega, by simp [nodesL]; omega⟩), hid (Blk.new _ _ _), hid ((Below.refl _ _).alloc (Nat.le_refl _) _)⟩
      case round =>
        obtain ⟨i, m, hi, rfl, rfl, hm, hb, hbl⟩ := hrel
        have Hi := hid hi
        have x3 : wr.cell? ⟨w.heap.size, 3, none⟩ = some (.slice A us.length c) := hb.out.cell 3
        by_cases hlt : i < us.length
        · have hlt' : (i : Int) < us.length := by omega
          rcases hm.out with rfl | ⟨m0, m1, m2⟩
          · clear hi
            go_wp2
            go_ret
            exact ⟨⟨-1, rfl, .inl rfl⟩, hbl.out⟩
          · obtain ⟨ad, q', s', n', A', m', c', rfl, hSb, hab, y0, y1, y2, y3, hel⟩ := (H.out.2.1.up hbl.out).elem hlt
            have Q := hid (And.intro hel (And.intro (List.getElem_mem hlt) (And.intro m2 (nodesL_take hlt))))
            clear hi hm hel hSb hab
            generalize us[i] = t at Q
            go_wp2_with (go_at_call 17; go_must (refine (H.out.2.2.1 t Q.out.2.1 (d + 1) _ _ _ _ _ (by omega) m0 m1 (by omega) Q.out.1).mono ?_); rintro e w1 ⟨⟨r, rfl, hr⟩, b1⟩)
            have hgk := Hi.out
            have hbm := hb.out.lt
            go_roundg (gk - 1)
            case rel => exact ⟨i + 1, r, by omega, rfl, rfl, hid (by have h3 := Q.out.2.2.1; have h4 := Q.out.2.2.2; rw [h4]; rcases hr with hr | hr; exact .inl hr; right; omega), hid (hb.out.below b1 hbm), hid (below_hop b1 hbl.out)⟩
            case measure => omega
        · obtain rfl : i = us.length := by omega
          clear hi
          go_wp2
          go_ret
          refine ⟨⟨m, rfl, ?_⟩, hbl.out⟩
          have h1 := hm.out
          rw [List.take_length] at h1
          rw [nodes]
          rcases h1 with h1 | h1
          · exact .inl h1
          · right; omega
theorem law12_weigh : ∀ (N : Nat) (t : Ty), SizeOf.sizeOf t ≤ N → ∀ (d : Nat) (x n : Int) (v : Value) (S : Nat → Prop) (w : World), x = d → 0 ≤ n → n ≤ 20000 → d ≤ 601 → TAt w S t v → Calls Tryd.prog 17 #[v, .int .i64 x, .int .i64 n] w (WeighP t n w) := by
  intro N
  induction N with
  | zero => intro t ht; cases t; simp at ht
  | succ N ih =>
  intro t ht d x n v S w hx h0 h1 h2 hv
  subst hx
  obtain ⟨q, s, k, us⟩ := t
  obtain ⟨A, c, rfl, hc, hcm, _, hrow, _⟩ := hv.parts
  exact weigh_node q s k n A us c d S w h0 h1 h2 (Nat.le_trans hc hcm) hrow (fun t hm d x n v S w => ih t (by have := ty_lt (k := q) (n := k) (s := s) hm; omega) d x n v S w)
/-- LargeType: what is not too large has at most 20000 nodes. -/
theorem law12_LargeType (t : Ty) (v : Value) (S : Nat → Prop) (w : World) (hv : TAt w S t v) :
    Calls Tryd.prog 5 #[v] w fun e w' => (∃ b : Bool, e = .returned (.bool b) ∧ (b = false → nodes t ≤ 20000)) ∧ Below w.heap.size w w' := by
  have hv0 := hv
  obtain ⟨q, s, k, us⟩ := t
  obtain ⟨A, c, rfl, _⟩ := hv.parts
  go_enter Tryd.func5, Tryd.ntmps5
  go_wp2_with (go_at_call 17; go_must (refine (law12_weigh _ _ (Nat.le_refl _) 0 _ _ _ S _ rfl (by omega) (by omega) (by omega) (hv0.up (by go_grown : Below w.heap.size w _))).mono ?_); rintro e w1 ⟨⟨r, rfl, hr⟩, b1⟩)
  all_goals
    go_ret
    refine ⟨⟨_, rfl, fun h => ?_⟩, below_hop b1 ((Below.refl _ _).alloc (Nat.le_refl _) _)⟩
    simp at h
    omega
end Go.Proofs.YtnlifgcnmhakiaaDoor
