/-
  THE WALKS OF athanorlaw20.weigh AND LargeCore, athanorref20.size AND Size, athanorlaw21.deep, Steep AND Large.
-/
import Derived.Test.YtohdaclbgedeiaaECo
import Derived.BigQuiet
import Derived.Deep.RegionHeld3
namespace Go.Proofs.Ytohdaclbgedeiaa
set_option linter.all false
open Go.ChangeShapes Go.WideShapes Go.ChangeAt Go.RowKit
open Ev (Co nodes nodesL)

theorem nodesL_take {us : List Co} {i : Nat} (hi : i < us.length) : nodesL (us.take (i + 1)) = nodesL (us.take i) + nodes us[i] := by
  induction us generalizing i with
  | nil => simp at hi
  | cons t ts ih =>
    cases i with
    | zero => simp [nodesL]
    | succ i =>
      simp only [List.take_succ_cons, nodesL, List.getElem_cons_succ]
      rw [ih (by simpa using hi)]
      omega
theorem co_lt {k x y n : Int} {i : Bool} {ts : List Int} {us : List Co} {t : Co} (h : t ∈ us) : SizeOf.sizeOf t < SizeOf.sizeOf (Co.mk k x y n i ts us) := by
  have := List.sizeOf_lt_of_mem h
  simp; omega
theorem length_nodes (us : List Co) : us.length ≤ nodesL us := by
  induction us with
  | nil => exact Nat.le_refl _
  | cons a us ih => rw [nodesL]; have := Ev.nodes_pos a; simp; omega
mutual
/-- Nodes, and tenths of tags. -/
def heft : Co → Nat
  | .mk _ _ _ _ _ ts us => 1 + ts.length / 10 + heftL us
def heftL : List Co → Nat
  | [] => 0
  | c :: cs => heft c + heftL cs
end
theorem heft_pos (c : Co) : 0 < heft c := by obtain ⟨k, x, y, n, i, ts, us⟩ := c; rw [heft]; omega
mutual
theorem nodes_heft : ∀ c : Co, nodes c ≤ heft c
  | .mk _ _ _ _ _ ts us => by rw [nodes, heft]; have := nodesL_heft us; omega
theorem nodesL_heft : ∀ cs : List Co, nodesL cs ≤ heftL cs
  | [] => by rw [nodesL, heftL]; exact Nat.le_refl _
  | c :: cs => by rw [nodesL, heftL]; have := nodes_heft c; have := nodesL_heft cs; omega
end
theorem heftL_take {us : List Co} {i : Nat} (hi : i < us.length) : heftL (us.take (i + 1)) = heftL (us.take i) + heft us[i] := by
  induction us generalizing i with
  | nil => simp at hi
  | cons t ts ih =>
    cases i with
    | zero => simp [heftL]
    | succ i =>
      simp only [List.take_succ_cons, heftL, List.getElem_cons_succ]
      rw [ih (by simpa using hi)]
      omega
theorem heft_mem {us : List Co} {c : Co} (h : c ∈ us) : heft c ≤ heftL us := by
  induction us with
  | nil => cases h
  | cons a us ih =>
    rw [heftL]
    rcases List.mem_cons.1 h with rfl | h
    · omega
    · have := ih h; omega
/-- What weigh tells. -/
def WeighP (t : Co) (n : Int) (w : World) (e : Ending) (w' : World) : Prop :=
  (∃ r : Int, e = .returned (.int .i64 r) ∧ (r = -1 ∨ (0 ≤ r ∧ r ≤ 100000 ∧ n + heft t ≤ r))) ∧ Below w.heap.size w w'
set_option maxHeartbeats 4000000 in
set_option maxRecDepth 100000 in
theorem weigh_node (k x y m : Int) (b : Bool) (T A : Option Addr) (tl tc : Nat) (us : List Co) (n : Int) (c d : Nat) (S : Nat → Prop) (w : World) (hn0 : 0 ≤ n) (hn : n ≤ 100000) (hd : d ≤ 1201) (hm : us.length ≤ 17592186044416) (ht : tl ≤ 17592186044416) (hrow : CRow w S us A 0)
    (ih : ∀ t ∈ us, ∀ (d : Nat) (x n : Int) (v : Value) (S : Nat → Prop) (w : World), x = d → 0 ≤ n → n ≤ 100000 → d ≤ 1201 → CAt w S t v → Calls Try.prog 35 #[v, .int .i64 x, .int .i64 n] w (WeighP t n w)) (ts : List Int) (htl : ts.length = tl) :
    Calls Try.prog 35 #[.agg #[.int .i64 k, .int .i64 x, .int .i64 y, .int .i64 m, .bool b, .slice T tl tc, .slice A us.length c], .int .i64 d, .int .i64 n] w (WeighP (.mk k x y m b ts us) n w) := by
  have hL : us.length ≤ 281474976710656 := by omega
  have hT : tl ≤ 281474976710656 := by omega
  obtain ⟨l, hl⟩ : ∃ l : Int, l = (us.length : Int) + tl := ⟨_, rfl⟩
  have q0 : IntKind.i64.wrap ((us.length : Int) + tl) = l := by rw [hl]; exact IntWalk.i64_in _ (by omega)
  have hl0 : 0 ≤ l ∧ l ≤ 1000000000000000 := by omega
  have q1 : l.tdiv 10 = l / 10 := Int.tdiv_eq_ediv_of_nonneg hl0.1
  have q2 : IntKind.i64.wrap (l / 10) = l / 10 := IntWalk.i64_in _ (by omega)
  have q3 : IntKind.i64.wrap (1 + l / 10) = 1 + l / 10 := IntWalk.i64_in _ (by omega)
  have q4 : IntKind.i64.wrap (n + (1 + l / 10)) = n + (1 + l / 10) := IntWalk.i64_in _ (by omega)
  have H := hid (And.intro hm (And.intro hrow (And.intro ih hn0)))
  have HL0 := hid hl0
  have HTL := hid (show (tl : Int) ≤ l ∧ ts.length = tl from ⟨by omega, htl⟩)
  clear hm hrow ih hn0 hl ht hl0 htl
  by_cases hbig : n + (1 + l / 10) > 100000
  · go_enter Try.func35, Try.ntmps35
    go_wp2
    go_ret
    exact ⟨⟨-1, rfl, .inl rfl⟩, (Below.refl _ _).alloc (Nat.le_refl _) _⟩
  · by_cases hdp : (d : Int) > 1200
    · go_enter Try.func35, Try.ntmps35
      go_wp2
      go_ret
      exact ⟨⟨-1, rfl, .inl rfl⟩, (Below.refl _ _).alloc (Nat.le_refl _) _⟩
    · have q5 : IntKind.i64.wrap ((d : Int) + 1) = d + 1 := IntWalk.i64_in _ (by omega)
      go_enter Try.func35, Try.ntmps35
      go_wp2
      go_loopg [2, 7] us.length (fun g nv z wr => ∃ (i : Nat) (m9 : Int), i + g = us.length ∧ z = .int .i64 i ∧ nv = .int .i64 m9 ∧ Hid (m9 = -1 ∨ (0 ≤ m9 ∧ m9 ≤ 100000 ∧ n + 1 + ts.length / 10 + heftL (us.take i) ≤ m9)) ∧ Hid (Blk wr w.heap.size 25 #[.int .i64 k, .int .i64 x, .int .i64 y, .int .i64 m, .bool b, .slice T tl tc, .slice A us.length c]) ∧ Hid (Below w.heap.size w wr))
      case atStart => exact ⟨0, _, by omega, rfl, rfl, hid (.inr ⟨by have := H.out.2.2.2; have := HL0.out; omega, by omega, by simp [heftL]; have := HL0.out; have := HTL.out; omega⟩), hid (Blk.new _ _ _), hid ((Below.refl _ _).alloc (Nat.le_refl _) _)⟩
      case round =>
        obtain ⟨i, m9, hi, rfl, rfl, hm, hb, hbl⟩ := hrel
        have Hi := hid hi
        have x6 : wr.cell? ⟨w.heap.size, 6, none⟩ = some (.slice A us.length c) := hb.out.cell 6
        by_cases hlt : i < us.length
        · have hlt' : (i : Int) < us.length := by omega
          rcases hm.out with rfl | ⟨m0, m1, m2⟩
          · clear hi
            go_wp2
            go_ret
            exact ⟨⟨-1, rfl, .inl rfl⟩, hbl.out⟩
          · obtain ⟨ad, k2, x2, y2, n2, i2, T2, tl2, tc2, A2, m2', c2, rfl, hSb, hab, ⟨y0, y1, y2', y3, y4, y5, y6⟩, hel⟩ := (H.out.2.1.up hbl.out).elem hlt
            have Q := hid (And.intro hel (And.intro (List.getElem_mem hlt) (And.intro m2 (heftL_take hlt))))
            clear hi hm hel hSb hab
            generalize us[i] = t at Q
            go_wp2_with (go_at_call 35; go_must (refine (H.out.2.2.1 t Q.out.2.1 (d + 1) _ _ _ _ _ (by omega) m0 m1 (by omega) Q.out.1).mono ?_); rintro e w1 ⟨⟨r, rfl, hr⟩, b1⟩)
            have hgk := Hi.out
            have hbm := hb.out.lt
            go_roundg (gk - 1)
            case rel => exact ⟨i + 1, r, by omega, by go_num, rfl, hid (by have h3 := Q.out.2.2.1; have h4 := Q.out.2.2.2; rw [h4]; rcases hr with hr | hr; exact .inl hr; right; omega), hid (hb.out.below b1 hbm), hid (below_hop b1 hbl.out)⟩
            case measure => omega
        · obtain rfl : i = us.length := by omega
          clear hi
          go_wp2
          go_ret
          refine ⟨⟨m9, rfl, ?_⟩, hbl.out⟩
          have h1 := hm.out
          rw [List.take_length] at h1
          rw [heft]
          rcases h1 with h1 | h1
          · exact .inl h1
          · right; omega
theorem law20_weigh : ∀ (N : Nat) (t : Co), SizeOf.sizeOf t ≤ N → ∀ (d : Nat) (x n : Int) (v : Value) (S : Nat → Prop) (w : World), x = d → 0 ≤ n → n ≤ 100000 → d ≤ 1201 → CAt w S t v → Calls Try.prog 35 #[v, .int .i64 x, .int .i64 n] w (WeighP t n w) := by
  intro N
  induction N with
  | zero => intro t ht; cases t; simp at ht
  | succ N ih =>
  intro t ht d x n v S w hx h0 h1 h2 hv
  subst hx
  obtain ⟨k, x, y, m, i, ts, us⟩ := t
  obtain ⟨T, tc, A, c, rfl, hI, hc, hrow, _⟩ := hv.parts
  exact weigh_node k x y m i T A ts.length tc us n c d S w h0 h1 h2 hc.2.2.2 hI.1.2.2.2 hrow (fun t hm d x9 n9 v S w => ih t (by have := co_lt (k := k) (x := x) (y := y) (n := m) (i := i) (ts := ts) hm; omega) d x9 n9 v S w) ts rfl
theorem law20_LargeCore (t : Co) (v : Value) (S : Nat → Prop) (w : World) (hv : CAt w S t v) :
    Calls Try.prog 22 #[v] w fun e w' => (∃ b : Bool, e = .returned (.bool b) ∧ (b = false → heft t ≤ 100000)) ∧ Below w.heap.size w w' := by
  have hv0 := hv
  obtain ⟨k, x, y, m, i, ts, us⟩ := t
  obtain ⟨T, tc, A, c, rfl, _⟩ := hv.parts
  go_enter Try.func22, Try.ntmps22
  go_wp2_with (go_at_call 35; go_must (refine (law20_weigh _ _ (Nat.le_refl _) 0 _ _ _ S _ rfl (by omega) (by omega) (by omega) (hv0.up (by go_grown : Below w.heap.size w _))).mono ?_); rintro e w1 ⟨⟨r, rfl, hr⟩, b1⟩)
  all_goals
    go_ret
    refine ⟨⟨_, rfl, fun h => ?_⟩, below_hop b1 ((Below.refl _ _).alloc (Nat.le_refl _) _)⟩
    simp at h
    omega
/-- What size tells: nodes, up to one more than there may be. -/
def SizeP (t : Co) (n : Int) (w : World) (e : Ending) (w' : World) : Prop :=
  (∃ r : Int, e = .returned (.int .i64 r) ∧ ((n + nodes t ≤ 65536 → r = n + nodes t) ∧ (65536 < n + nodes t → 65536 < r ∧ r ≤ n + nodes t))) ∧ Below w.heap.size w w'
set_option maxHeartbeats 4000000 in
set_option maxRecDepth 100000 in
theorem size_node (k x y m : Int) (b : Bool) (T A : Option Addr) (tl tc : Nat) (us : List Co) (n : Int) (c : Nat) (S : Nat → Prop) (w : World) (hn0 : 0 ≤ n) (hn : n ≤ 65536) (hm : us.length ≤ 17592186044416) (hrow : CRow w S us A 0) (hb : nodesL us ≤ 200000)
    (ih : ∀ t ∈ us, ∀ (n : Int) (v : Value) (S : Nat → Prop) (w : World), 0 ≤ n → n ≤ 65536 → nodes t ≤ 200000 → CAt w S t v → Calls Try.prog 29 #[v, .int .i64 n] w (SizeP t n w)) (ts : List Int) :
    Calls Try.prog 29 #[.agg #[.int .i64 k, .int .i64 x, .int .i64 y, .int .i64 m, .bool b, .slice T tl tc, .slice A us.length c], .int .i64 n] w (SizeP (.mk k x y m b ts us) n w) := by
  have hL : us.length ≤ 281474976710656 := by omega
  have q4 : IntKind.i64.wrap (n + 1) = n + 1 := IntWalk.i64_in _ (by omega)
  have H := hid (And.intro hm (And.intro hrow (And.intro ih (And.intro hn0 hb))))
  clear hm hrow ih hn0 hb
  go_enter Try.func29, Try.ntmps29
  go_wp2
  go_loopg [1, 5] us.length (fun g nv z wr => ∃ (i : Nat) (m9 : Int), i + g = us.length ∧ z = .int .i64 i ∧ nv = .int .i64 m9 ∧ 0 ≤ m9 ∧ Hid ((n + 1 + nodesL (us.take i) ≤ 65536 → m9 = n + 1 + nodesL (us.take i)) ∧ (65536 < n + 1 + nodesL (us.take i) → 65536 < m9 ∧ m9 ≤ n + 1 + nodesL (us.take i))) ∧ Hid (Blk wr w.heap.size 25 #[.int .i64 k, .int .i64 x, .int .i64 y, .int .i64 m, .bool b, .slice T tl tc, .slice A us.length c]) ∧ Hid (Below w.heap.size w wr))
  case atStart => exact ⟨0, _, by omega, rfl, rfl, by have := H.out.2.2.2.1; omega, hid (by simp [nodesL]), hid (Blk.new _ _ _), hid ((Below.refl _ _).alloc (Nat.le_refl _) _)⟩
  case round =>
    obtain ⟨i, m9, hi, rfl, rfl, hm0, hm, hb, hbl⟩ := hrel
    have Hi := hid hi
    have HM0 := hid hm0
    have x6 : wr.cell? ⟨w.heap.size, 6, none⟩ = some (.slice A us.length c) := hb.out.cell 6
    by_cases hlt : i < us.length
    · have hlt' : (i : Int) < us.length := by omega
      have hnt := nodesL_take hlt
      have hnb : nodesL (us.take i) + nodes us[i] ≤ nodesL us := by
        rw [← hnt]
        have h9 : ∀ (l : List Co) (j : Nat), nodesL (l.take j) ≤ nodesL l := by
          intro l
          induction l with
          | nil => intro j; simp
          | cons a l ih => intro j; cases j with
            | zero => simp [nodesL]
            | succ j => simp only [List.take_succ_cons, nodesL]; have := ih j; omega
        exact h9 us (i + 1)
      have HNT := hid (And.intro hnt hnb)
      by_cases hbig : m9 ≤ 65536
      · obtain ⟨ad, k2, x2, y2, n2, i2, T2, tl2, tc2, A2, m2', c2, rfl, hSb, hab, ⟨y0, y1, y2', y3, y4, y5, y6⟩, hel⟩ := (H.out.2.1.up hbl.out).elem hlt
        have Q := hid (And.intro hel (And.intro (List.getElem_mem hlt) HNT.out))
        clear hi hel hSb hab hm0 hnt hnb
        generalize us[i] = t at Q
        go_wp2_with (go_at_call 29; go_must (refine (H.out.2.2.1 t Q.out.2.1 _ _ _ _ HM0.out hbig (by have := H.out.2.2.2.2; have := Q.out.2.2.2; omega) Q.out.1).mono ?_); rintro e w1 ⟨⟨r, rfl, hr⟩, b1⟩)
        have hgk := Hi.out
        have hbm := hb.out.lt
        have hm0 := HM0.out
        have hm9 := hm.out
        have h4 := Q.out.2.2.1
        go_roundg (gk - 1)
        case rel => exact ⟨i + 1, r, by omega, by go_num, rfl, by omega, hid (by rw [h4]; omega), hid (hb.out.below b1 hbm), hid (below_hop b1 hbl.out)⟩
        case measure => omega
      · clear hi
        go_wp2
        go_ret
        refine ⟨⟨m9, rfl, ?_⟩, hbl.out⟩
        have h1 := hm.out
        have h2 := HNT.out
        have h3 := H.out.2.2.2.2
        rw [nodes]
        have h9 := Ev.nodes_pos us[i]
        by_cases hq : n + 1 + nodesL (us.take i) ≤ 65536
        · have := h1.1 hq; omega
        · have := h1.2 (by omega); omega
    · obtain rfl : i = us.length := by omega
      clear hi
      have h1 := hm.out
      rw [List.take_length] at h1
      have H1 := hid h1
      clear h1
      go_wp2
      all_goals
        go_ret
        refine ⟨⟨m9, rfl, ?_⟩, hbl.out⟩
        have h1 := H1.out
        rw [nodes]
        omega
theorem ref20_size : ∀ (N : Nat) (t : Co), SizeOf.sizeOf t ≤ N → ∀ (n : Int) (v : Value) (S : Nat → Prop) (w : World), 0 ≤ n → n ≤ 65536 → nodes t ≤ 200000 → CAt w S t v → Calls Try.prog 29 #[v, .int .i64 n] w (SizeP t n w) := by
  intro N
  induction N with
  | zero => intro t ht; cases t; simp at ht
  | succ N ih =>
  intro t ht n v S w h0 h1 hb hv
  obtain ⟨k, x, y, m, i, ts, us⟩ := t
  obtain ⟨T, tc, A, c, rfl, hI, hc, hrow, _⟩ := hv.parts
  rw [nodes] at hb
  exact size_node k x y m i T A ts.length tc us n c S w h0 h1 hc.2.2.2 hrow (by omega) (fun t hm n9 v S w => ih t (by have := co_lt (k := k) (x := x) (y := y) (n := m) (i := i) (ts := ts) hm; omega) n9 v S w) ts
/-- How many nodes, at most one more than there may be. -/
def sizeT (t : Co) : Int := if nodes t ≤ 65536 then nodes t else 65537
theorem ref20_Size (t : Co) (v : Value) (S : Nat → Prop) (w : World) (hb : nodes t ≤ 200000) (hv : CAt w S t v) : Calls Try.prog 15 #[v] w fun e w' => e = .returned (.int .i64 (sizeT t)) ∧ Below w.heap.size w w' := by
  have hv0 := hv
  obtain ⟨k, x, y, m, i, T, tl, tc, A, l, c, rfl⟩ := hv.agg
  go_enter Try.func15, Try.ntmps15
  go_wp2_with (go_at_call 29; go_must (refine (ref20_size _ t (Nat.le_refl _) _ _ S _ (by omega) (by omega) hb (hv0.up (by go_grown : Below w.heap.size w _))).mono ?_); rintro e w1 ⟨⟨r, rfl, hr⟩, b1⟩)
  all_goals
    go_ret
    refine ⟨ret_int ?_, below_hop b1 ((Below.refl _ _).alloc (Nat.le_refl _) _)⟩
    unfold sizeT
    split <;> omega
/-- Some integer. -/
def SomeI (w : World) (e : Ending) (w' : World) : Prop := (∃ r : Int, e = .returned (.int .i64 r)) ∧ Below w.heap.size w w'
set_option maxHeartbeats 4000000 in
set_option maxRecDepth 100000 in
theorem deep_node (k x y m : Int) (b : Bool) (T A : Option Addr) (tl tc : Nat) (us : List Co) (c : Nat) (S : Nat → Prop) (w : World) (hm : us.length ≤ 17592186044416) (hrow : CRow w S us A 0)
    (ih : ∀ t ∈ us, ∀ (v : Value) (S : Nat → Prop) (w : World), CAt w S t v → Calls Try.prog 23 #[v] w (SomeI w)) :
    Calls Try.prog 23 #[.agg #[.int .i64 k, .int .i64 x, .int .i64 y, .int .i64 m, .bool b, .slice T tl tc, .slice A us.length c]] w (SomeI w) := by
  have hL : us.length ≤ 281474976710656 := by omega
  have H := hid (And.intro hm (And.intro hrow ih))
  clear hm hrow ih
  go_enter Try.func23, Try.ntmps23
  go_wp2
  go_loopg [3, 4] us.length (fun g nv z wr => ∃ (i : Nat) (m9 : Int), i + g = us.length ∧ z = .int .i64 i ∧ nv = .int .i64 m9 ∧ Hid (Blk wr w.heap.size 25 #[.int .i64 k, .int .i64 x, .int .i64 y, .int .i64 m, .bool b, .slice T tl tc, .slice A us.length c]) ∧ Hid (Below w.heap.size w wr))
  case atStart => exact ⟨0, _, by omega, rfl, rfl, hid (Blk.new _ _ _), hid ((Below.refl _ _).alloc (Nat.le_refl _) _)⟩
  case round =>
    obtain ⟨i, m9, hi, rfl, rfl, hb, hbl⟩ := hrel
    have Hi := hid hi
    have x6 : wr.cell? ⟨w.heap.size, 6, none⟩ = some (.slice A us.length c) := hb.out.cell 6
    by_cases hlt : i < us.length
    · have hlt' : (i : Int) < us.length := by omega
      obtain ⟨ad, k2, x2, y2, n2, i2, T2, tl2, tc2, A2, m2', c2, rfl, hSb, hab, ⟨y0, y1, y2', y3, y4, y5, y6⟩, hel⟩ := (H.out.2.1.up hbl.out).elem hlt
      have Q := hid (And.intro hel (List.getElem_mem hlt))
      clear hi hel hSb hab
      generalize us[i] = t at Q
      go_wp2_with (go_at_call 23; go_must (refine (H.out.2.2 t Q.out.2 _ _ _ Q.out.1).mono ?_); rintro e w1 ⟨⟨r, rfl⟩, b1⟩)
      all_goals
        have hgk := Hi.out
        have hbm := hb.out.lt
        go_roundg (gk - 1)
        case rel => exact ⟨i + 1, _, by omega, by go_num, rfl, hid (hb.out.below b1 hbm), hid (below_hop b1 hbl.out)⟩
        case measure => omega
    · obtain rfl : i = us.length := by omega
      clear hi
      go_wp2
      go_ret
      exact ⟨⟨_, rfl⟩, hbl.out⟩
theorem law21_deep : ∀ (N : Nat) (t : Co), SizeOf.sizeOf t ≤ N → ∀ (v : Value) (S : Nat → Prop) (w : World), CAt w S t v → Calls Try.prog 23 #[v] w (SomeI w) := by
  intro N
  induction N with
  | zero => intro t ht; cases t; simp at ht
  | succ N ih =>
  intro t ht v S w hv
  obtain ⟨k, x, y, m, i, ts, us⟩ := t
  obtain ⟨T, tc, A, c, rfl, hI, hc, hrow, _⟩ := hv.parts
  exact deep_node k x y m i T A ts.length tc us c S w hc.2.2.2 hrow (fun t hm v S w => ih t (by have := co_lt (k := k) (x := x) (y := y) (n := m) (i := i) (ts := ts) hm; omega) v S w)
def SomeB (w : World) (e : Ending) (w' : World) : Prop := (∃ b : Bool, e = .returned (.bool b)) ∧ Below w.heap.size w w'
set_option maxHeartbeats 4000000 in
set_option maxRecDepth 100000 in
theorem law21_Steep (t : Co) (v : Value) (S : Nat → Prop) (f : Int) (w : World) (hv : CAt w S t v) : Calls Try.prog 8 #[v, .int .i64 f] w (SomeB w) := by
  have hv0 := hv
  obtain ⟨k, x, y, m, i, T, tl, tc, A, l, c, rfl⟩ := hv.agg
  have HV := hid hv0
  clear hv hv0
  by_cases h1 : 0 < f
  · by_cases h2 : f ≤ 3000
    · have h3 : (f == 0) = false := by simp; omega
      have h4 : ¬ f = 0 := by omega
      have HB := hid (al1 w (.cells #[.int .i64 k, .int .i64 x, .int .i64 y, .int .i64 m, .bool i, .slice T tl tc, .slice A l c] 25))
      obtain ⟨x0, x1, x2, x3, x4, x5, x6⟩ := (Blk.new w 25 #[.int .i64 k, .int .i64 x, .int .i64 y, .int .i64 m, .bool i, .slice T tl tc, .slice A l c]).seven
      go_enter Try.func8, Try.ntmps8
      go_wp2
      go_region_held3 (fun w' => (w').cell? ⟨w.heap.size, 0, none⟩ = some (.int .i64 k) ∧ (w').cell? ⟨w.heap.size, 1, none⟩ = some (.int .i64 x) ∧ (w').cell? ⟨w.heap.size, 2, none⟩ = some (.int .i64 y) ∧ (w').cell? ⟨w.heap.size, 3, none⟩ = some (.int .i64 m) ∧ (w').cell? ⟨w.heap.size, 4, none⟩ = some (.bool i) ∧ (w').cell? ⟨w.heap.size, 5, none⟩ = some (.slice T tl tc) ∧ (w').cell? ⟨w.heap.size, 6, none⟩ = some (.slice A l c)) (first | with_reducible exact ⟨x0, x1, x2, x3, x4, x5, x6⟩ | go_keep) (first | (go_at_call 23; (refine (law21_deep _ t (Nat.le_refl _) _ S _ (HV.out.up (HB.out.drew))).mono ?_); rintro e w1 ⟨⟨r, rfl⟩, b1⟩; have B1 := hid (below_hop b1 HB.out.drew); have BK := hid ((Blk.new w 25 #[.int .i64 k, .int .i64 x, .int .i64 y, .int .i64 m, .bool i, .slice T tl tc, .slice A l c]).drew.below b1 (by simp)); clear x0 x1 x2 x3 x4 x5 x6 b1; obtain ⟨x0, x1, x2, x3, x4, x5, x6⟩ := BK.out.seven))
      all_goals
        go_wp2
        go_ret
        exact ⟨⟨_, rfl⟩, B1.out⟩
    · have d1 : decide (0 < f) = true := by simpa using h1
      have d2 : decide (f ≤ 3000) = false := by simpa using h2
      go_enter Try.func8, Try.ntmps8
      go_wp2
      go_quiet (fail)
      go_wp2
      go_ret
      exact ⟨⟨_, rfl⟩, below_drewN (al1 w _) _⟩
  · have d1 : decide (0 < f) = false := by simpa using h1
    go_enter Try.func8, Try.ntmps8
    go_wp2
    go_quiet (fail)
    go_wp2
    go_ret
    exact ⟨⟨_, rfl⟩, below_drewN (al1 w _) _⟩
theorem large_lt {t : Co} (h : sizeT t ≤ 2000) : nodes t ≤ 2000 := by
  unfold sizeT at h
  split at h <;> omega
/-- Large: what is not too large has few nodes. -/
theorem law21_Large (t : Co) (v : Value) (S : Nat → Prop) (w : World) (hv : CAt w S t v) : Calls Try.prog 7 #[v] w fun e w' => (∃ b : Bool, e = .returned (.bool b) ∧ (b = false → nodes t ≤ 2000 ∧ heft t ≤ 100000)) ∧ Below w.heap.size w w' := by
  have hv0 := hv
  obtain ⟨k, x, y, m, i, T, tl, tc, A, l, c, rfl⟩ := hv.agg
  have HV := hid hv0
  have BK0 := hid (Blk.new w 25 #[.int .i64 k, .int .i64 x, .int .i64 y, .int .i64 m, .bool i, .slice T tl tc, .slice A l c])
  obtain ⟨x0, x1, x2, x3, x4, x5, x6⟩ := BK0.out.seven
  clear hv hv0
  go_enter Try.func7, Try.ntmps7
  go_wp2_with (first
    | (go_at_call 22; go_must (refine (law20_LargeCore t _ S _ (HV.out.up (al1 w _))).mono ?_); rintro e w1 ⟨⟨b, rfl, hb⟩, b1⟩; go_must (have HB1 := hid (below_hop b1 (al1 w _)); have HL := hid hb; have BK := hid (BK0.out.below b1 (by simp)); clear hb b1 x0 x1 x2 x3 x4 x5 x6; obtain ⟨x0, x1, x2, x3, x4, x5, x6⟩ := BK.out.seven))
    | (go_at_call 15; go_must (refine (ref20_Size t _ S _ (Nat.le_trans (Nat.le_trans (nodes_heft t) (HL.out (by cases b <;> simp_all))) (by omega)) (HV.out.up HB1.out)).mono ?_); rintro e w2 ⟨rfl, b2⟩; go_must (have HB2 := hid (below_hop b2 HB1.out))))
  all_goals
    go_ret
  · first
      | exact ⟨⟨true, rfl, fun h => by cases h⟩, HB1.out⟩
      | exact ⟨⟨b, rfl, fun h => by simp_all⟩, HB1.out⟩
  all_goals exact ⟨⟨_, rfl, fun h => ⟨large_lt (by simpa using h), HL.out (by cases b <;> simp_all)⟩⟩, HB2.out⟩
end Go.Proofs.Ytohdaclbgedeiaa
