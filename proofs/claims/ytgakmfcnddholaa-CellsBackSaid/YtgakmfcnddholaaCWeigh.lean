/-
  THE WALK OF athanorlaw17.LargeVal: what is not too large has few nodes.
-/
import Derived.Test.YtgakmfcnddholaaCTree
import Derived.Deep.LoopGhost
import Derived.WalkLawsBesides
import Derived.Deep.DeepMust
namespace Go.Proofs.Ytgakmfcnddholaa
open Go.ChangeShapes Go.WideShapes Go.ChangeAt Go.RowKit

mutual
def nodes : Tr → Nat
  | .mk _ _ us => 1 + nodesL us
def nodesL : List Tr → Nat
  | [] => 0
  | t :: ts => nodes t + nodesL ts
end
theorem nodesL_take {us : List Tr} {i : Nat} (hi : i < us.length) : nodesL (us.take (i + 1)) = nodesL (us.take i) + nodes us[i] := by
  induction us generalizing i with
  | nil => simp at hi
  | cons t ts ih =>
    cases i with
    | zero => simp [nodesL]
    | succ i =>
      simp only [List.take_succ_cons, nodesL, List.getElem_cons_succ]
      rw [ih (by simpa using hi)]
      omega
/-- What weigh tells. -/
def WeighP (t : Tr) (n : Int) (w : World) (e : Ending) (w' : World) : Prop :=
  (∃ r : Int, e = .returned (.int .i64 r) ∧ (r = -1 ∨ (0 ≤ r ∧ r ≤ 3000 ∧ n + nodes t ≤ r))) ∧ Below w.heap.size w w'

set_option maxHeartbeats 4000000 in
set_option maxRecDepth 100000 in
theorem weigh_node (b : Bool) (k n : Int) (A : Option Addr) (us : List Tr) (c B d : Nat) (w : World) (hn0 : 0 ≤ n) (hn : n ≤ 3000) (hd : d ≤ 401) (hB : B ≤ w.heap.size) (hm : us.length ≤ maxLen) (hrow : RowV w B us A 0)
    (ih : ∀ t ∈ us, ∀ (d : Nat) (x n : Int) (v : Value) (w : World), x = d → 0 ≤ n → n ≤ 3000 → d ≤ 401 → B ≤ w.heap.size → VAt w B t v → Calls Try.prog 29 #[v, .int .i64 x, .int .i64 n] w (WeighP t n w)) :
    Calls Try.prog 29 #[.agg #[.bool b, .int .i64 k, .slice A us.length c], .int .i64 d, .int .i64 n] w (WeighP (.mk b k us) n w) := by
  have hL : us.length ≤ 9223372036854775807 := by unfold maxLen at hm; omega
  have q1 : ((us.length : Nat) : Int).tdiv 10 = us.length / 10 := Int.tdiv_eq_ediv_of_nonneg (by omega)
  have q2 : IntKind.i64.wrap ((us.length : Int) / 10) = us.length / 10 := IntWalk.i64_in _ (by omega)
  have q3 : IntKind.i64.wrap (1 + (us.length : Int) / 10) = 1 + us.length / 10 := IntWalk.i64_in _ (by omega)
  have q4 : IntKind.i64.wrap (n + (1 + (us.length : Int) / 10)) = n + (1 + us.length / 10) := IntWalk.i64_in _ (by omega)
  have H := hid (And.intro hm (And.intro hrow (And.intro ih (And.intro hB hn0))))
  clear hm hrow ih hB hn0
  by_cases hbig : n + (1 + (us.length : Int) / 10) > 3000
  · go_enter Try.func29, Try.ntmps29
    go_wp2
    go_ret
    exact ⟨⟨-1, rfl, .inl rfl⟩, (Below.refl _ _).alloc (Nat.le_refl _) _⟩
  · by_cases hdp : (d : Int) > 400
    · go_enter Try.func29, Try.ntmps29
      go_wp2
      go_ret
      exact ⟨⟨-1, rfl, .inl rfl⟩, (Below.refl _ _).alloc (Nat.le_refl _) _⟩
    · have q5 : IntKind.i64.wrap ((d : Int) + 1) = d + 1 := IntWalk.i64_in _ (by omega)
      go_enter Try.func29, Try.ntmps29
      go_wp2
      go_loopg [2, 7] us.length (fun g nv x wr => ∃ (i : Nat) (m : Int), i + g = us.length ∧ x = .int .i64 i ∧ nv = .int .i64 m ∧ Hid (m = -1 ∨ (0 ≤ m ∧ m ≤ 3000 ∧ n + 1 + nodesL (us.take i) ≤ m)) ∧ Hid (Blk wr w.heap.size 33 #[.bool b, .int .i64 k, .slice A us.length c]) ∧ Hid (Below w.heap.size w wr))
      case atStart => exact ⟨0, _, by omega, rfl, rfl, hid (.inr ⟨by have := H.out.2.2.2.2; omega, by omega, by simp [nodesL]; omega⟩), hid (Blk.new _ _ _), hid ((Below.refl _ _).alloc (Nat.le_refl _) _)⟩
      case round =>
        obtain ⟨i, m, hi, rfl, rfl, hm, hb, hbl⟩ := hrel
        have Hi := hid hi
        have x2 : wr.cell? ⟨w.heap.size, 2, none⟩ = some (.slice A us.length c) := hb.out.cell 2
        by_cases hlt : i < us.length
        · have hlt' : (i : Int) < us.length := by omega
          rcases hm.out with rfl | ⟨m0, m1, m2⟩
          · clear hi
            go_wp2
            go_ret
            exact ⟨⟨-1, rfl, .inl rfl⟩, hbl.out⟩
          · obtain ⟨ad, v0, v1, v2, rfl, p0, p1, p2, p3, p4⟩ := H.out.2.1.get hlt
            have e := fun (a : Addr) (ha : a.block < B) => (hbl.out.mono H.out.2.2.2.1).cell (p := a) ha
            rw [Nat.zero_add] at p1 p2 p3
            have eb := add_block ad (i * 3)
            have y1 := (e _ (by rw [eb]; exact p0)).trans p1
            have y2 := (e _ (by dsimp only; rw [eb]; exact p0)).trans p2
            have y3 := (e _ (by dsimp only; rw [eb]; exact p0)).trans p3
            obtain ⟨b', n', A', m', c', rfl, rfl, rfl⟩ := p4.agg
            have Q := hid (And.intro (p4.keep (fun j hj => hbl.out.block j (Nat.lt_of_lt_of_le hj H.out.2.2.2.1))) (And.intro (List.getElem_mem hlt) (And.intro m2 (nodesL_take hlt))))
            clear hi e p0 p1 p2 p3 p4 eb hm
            generalize us[i] = t at Q
            go_wp2_with (go_at_call 29; go_must (refine (H.out.2.2.1 t Q.out.2.1 (d + 1) _ _ _ _ (by omega) m0 m1 (by omega) (by have := hbl.out.size; have := H.out.2.2.2.1; omega) Q.out.1).mono ?_); rintro e w1 ⟨⟨r, rfl, hr⟩, b1⟩)
            have hgk := Hi.out
            have hbm := hb.out.lt
            go_roundg (gk - 1)
            case rel => exact ⟨i + 1, r, by omega, rfl, rfl, hid (by have h3 := Q.out.2.2.1; have h4 := Q.out.2.2.2; rw [h4]; rcases hr with hr | hr; exact .inl hr; right; omega), hid (hb.out.below b1 hbm), hid (below_hop b1 hbl.out)⟩
            case measure => omega
        · obtain rfl : i = us.length := by omega
          clear hi
          go_wp2
          go_ret
          refine ⟨⟨m, rfl, ?_⟩, hbl.out⟩
          have h1 := hm.out
          rw [List.take_length] at h1
          rw [nodes]
          rcases h1 with h1 | h1
          · exact .inl h1
          · right; omega
theorem law17_weigh : ∀ (N : Nat) (t : Tr), SizeOf.sizeOf t ≤ N → ∀ (B d : Nat) (x n : Int) (v : Value) (w : World), x = d → 0 ≤ n → n ≤ 3000 → d ≤ 401 → B ≤ w.heap.size → VAt w B t v → Calls Try.prog 29 #[v, .int .i64 x, .int .i64 n] w (WeighP t n w) := by
  intro N
  induction N with
  | zero => intro t ht; cases t; simp at ht
  | succ N ih =>
  intro t ht B d x n v w hx h0 h1 h2 hB hv
  subst hx
  obtain ⟨b, k, us⟩ := t
  obtain ⟨A, c, rfl, hc, hcm, _, hrow, _⟩ := hv.parts
  exact weigh_node b k n A us c B d w h0 h1 h2 hB (Nat.le_trans hc hcm) hrow (fun t hm d x n v w => ih t (by have := tr_lt (b := b) (n := k) hm; omega) B d x n v w)
/-- LargeVal: what is not too large has at most 3000 nodes. -/
theorem law17_LargeVal (B : Nat) (t : Tr) (v : Value) (w : World) (hB : B ≤ w.heap.size) (hv : VAt w B t v) :
    Calls Try.prog 13 #[v] w fun e w' => (∃ b : Bool, e = .returned (.bool b) ∧ (b = false → nodes t ≤ 3000)) ∧ Below w.heap.size w w' := by
  have hv0 := hv
  obtain ⟨b, k, us⟩ := t
  obtain ⟨A, c, rfl, _⟩ := hv.parts
  go_enter Try.func13, Try.ntmps13
  go_wp2_with (go_at_call 29; go_must (refine (law17_weigh _ _ (Nat.le_refl _) B 0 _ _ _ _ rfl (by omega) (by omega) (by omega) (by simp; omega) (hv0.keep (fun k hk => Below.heap_alloc _ _ _ (by omega)))).mono ?_); rintro e w1 ⟨⟨r, rfl, hr⟩, b1⟩)
  all_goals
    go_ret
    refine ⟨⟨_, rfl, fun h => ?_⟩, below_hop b1 ((Below.refl _ _).alloc (Nat.le_refl _) _)⟩
    simp at h
    omega
end Go.Proofs.Ytgakmfcnddholaa
