/-
  THE WALKS OF core.sized, Size AND tagged.
-/
import Derived.Test.YtohdaclbgedeiaaEMap
import Derived.Test.YtohdaclbgedeiaaEGoodP
import Derived.Test.YtohdaclbgedeiaaEInts
import Derived.WalkSpells
namespace Go.Proofs.Ytohdaclbgedeiaa
set_option linter.all false
open Go.ChangeShapes Go.WideShapes Go.ChangeAt Go.RowKit
open Ev (Co nodes nodesL cnt taggedB tagsB tagIn)

theorem nodesL_part {us : List Co} {i : Nat} (hi : i < us.length) : nodesL (us.take i) + nodes us[i] ≤ nodesL us := by
  rw [← nodesL_take hi]
  have h9 : ∀ (l : List Co) (j : Nat), nodesL (l.take j) ≤ nodesL l := by
    intro l
    induction l with
    | nil => intro j; simp
    | cons a l ih => intro j; cases j with
      | zero => simp [nodesL]
      | succ j => simp only [List.take_succ_cons, nodesL]; have := ih j; omega
  exact h9 us (i + 1)
def SizedP (t : Co) (n : Int) (w : World) (e : Ending) (w' : World) : Prop := (∃ r : Int, e = .returned (.int .i64 r) ∧ (nodes t ≤ n → r = n - nodes t) ∧ (n < nodes t → r = -1)) ∧ Below w.heap.size w w'
set_option maxHeartbeats 4000000 in
set_option maxRecDepth 100000 in
theorem sized_node (k x y m : Int) (b : Bool) (T A : Option Addr) (tl tc : Nat) (us : List Co) (n : Int) (c : Nat) (S : Nat → Prop) (w : World) (hn0 : 0 ≤ n) (hn : n ≤ 65536) (hm : us.length ≤ 17592186044416) (hrow : CRow w S us A 0)
    (ih : ∀ t ∈ us, ∀ (n : Int) (v : Value) (S : Nat → Prop) (w : World), 0 ≤ n → n ≤ 65536 → CAt w S t v → Calls Try.prog 56 #[v, .int .i64 n] w (SizedP t n w)) (ts : List Int) :
    Calls Try.prog 56 #[.agg #[.int .i64 k, .int .i64 x, .int .i64 y, .int .i64 m, .bool b, .slice T tl tc, .slice A us.length c], .int .i64 n] w (SizedP (.mk k x y m b ts us) n w) := by
  have hL : us.length ≤ 281474976710656 := by omega
  have q4 : IntKind.i64.wrap (n - 1) = n - 1 := IntWalk.i64_in _ (by omega)
  have H := hid (And.intro hm (And.intro hrow (And.intro ih hn0)))
  clear hm hrow ih hn0
  go_enter Try.func56, Try.ntmps56
  go_wp2
  go_loopg [1, 5] us.length (fun g nv z wr => ∃ (i : Nat) (m9 : Int), i + g = us.length ∧ z = .int .i64 i ∧ nv = .int .i64 m9 ∧ m9 ≤ 65536 ∧ Hid ((1 + (nodesL (us.take i) : Int) ≤ n → m9 = n - 1 - nodesL (us.take i)) ∧ (n < 1 + (nodesL (us.take i) : Int) → m9 = -1)) ∧ Hid (Blk wr w.heap.size 25 #[.int .i64 k, .int .i64 x, .int .i64 y, .int .i64 m, .bool b, .slice T tl tc, .slice A us.length c]) ∧ Hid (Below w.heap.size w wr))
  case atStart => exact ⟨0, _, by omega, rfl, rfl, by omega, hid (by have := H.out.2.2.2; simp [nodesL]; omega), hid (Blk.new _ _ _), hid ((Below.refl _ _).alloc (Nat.le_refl _) _)⟩
  case round =>
    obtain ⟨i, m9, hi, rfl, rfl, hm0, hm, hb, hbl⟩ := hrel
    have Hi := hid hi
    have HM0 := hid hm0
    have x6 : wr.cell? ⟨w.heap.size, 6, none⟩ = some (.slice A us.length c) := hb.out.cell 6
    by_cases hlt : i < us.length
    · have hlt' : (i : Int) < us.length := by omega
      have HNT := hid (And.intro (nodesL_take hlt) (nodesL_part hlt))
      by_cases hbig : 0 ≤ m9
      · obtain ⟨ad, k2, x2, y2, n2, i2, T2, tl2, tc2, A2, m2', c2, rfl, hSb, hab, ⟨y0, y1, y2', y3, y4, y5, y6⟩, hel⟩ := (H.out.2.1.up hbl.out).elem hlt
        have Q := hid (And.intro hel (And.intro (List.getElem_mem hlt) HNT.out))
        clear hi hel hSb hab hm0
        generalize us[i] = t at Q
        go_wp2_with (go_at_call 56; go_must (refine (H.out.2.2.1 t Q.out.2.1 _ _ _ _ hbig HM0.out Q.out.1).mono ?_); rintro e w1 ⟨⟨r, rfl, hr⟩, b1⟩)
        have hgk := Hi.out
        have hbm := hb.out.lt
        have hm0 := HM0.out
        have hm9 := hm.out
        have h4 := Q.out.2.2.1
        go_roundg (gk - 1)
        case rel => exact ⟨i + 1, r, by omega, by go_num, rfl, by omega, hid (by rw [h4]; omega), hid (hb.out.below b1 hbm), hid (below_hop b1 hbl.out)⟩
        case measure => omega
      · clear hi
        go_wp2
        go_ret
        refine ⟨⟨m9, rfl, ?_⟩, hbl.out⟩
        have h1 := hm.out
        have h2 := HNT.out
        rw [nodes]
        have h9 := Ev.nodes_pos us[i]
        omega
    · obtain rfl : i = us.length := by omega
      clear hi
      have h1 := hm.out
      rw [List.take_length] at h1
      have H1 := hid h1
      clear h1
      go_wp2
      all_goals
        go_ret
        refine ⟨⟨m9, rfl, ?_⟩, hbl.out⟩
        have h1 := H1.out
        rw [nodes]
        omega
theorem core_sized : ∀ (N : Nat) (t : Co), SizeOf.sizeOf t ≤ N → ∀ (n : Int) (v : Value) (S : Nat → Prop) (w : World), 0 ≤ n → n ≤ 65536 → CAt w S t v → Calls Try.prog 56 #[v, .int .i64 n] w (SizedP t n w) := by
  intro N
  induction N with
  | zero => intro t ht; cases t; simp at ht
  | succ N ih =>
  intro t ht n v S w h0 h1 hv
  obtain ⟨k, x, y, m, i, ts, us⟩ := t
  obtain ⟨T, tc, A, c, rfl, hI, hc, hrow, _⟩ := hv.parts
  exact sized_node k x y m i T A ts.length tc us n c S w h0 h1 hc.2.2.2 hrow (fun t hm n9 v S w => ih t (by have := co_lt (k := k) (x := x) (y := y) (n := m) (i := i) (ts := ts) hm; omega) n9 v S w) ts
theorem core_Size (t : Co) (v : Value) (S : Nat → Prop) (w : World) (hv : CAt w S t v) : Calls Try.prog 43 #[v] w fun e w' => e = .returned (.int .i64 (sizeT t)) ∧ Below w.heap.size w w' := by
  have hv0 := hv
  obtain ⟨k, x, y, m, i, T, tl, tc, A, l, c, rfl⟩ := hv.agg
  go_enter Try.func43, Try.ntmps43
  go_wp2_with (go_at_call 56; go_must (refine (core_sized _ t (Nat.le_refl _) _ _ S _ (by omega) (by omega) (hv0.up (by go_grown : Below w.heap.size w _))).mono ?_); rintro e w1 ⟨⟨r, rfl, hr⟩, b1⟩; have hr2 : -1 ≤ r ∧ r ≤ 65536 := (by omega); have q4 : IntKind.i64.wrap (65536 - r) = 65536 - r := IntWalk.i64_in _ (by omega); have HR := hid hr; clear hr)
  all_goals
    go_ret
    refine ⟨ret_int ?_, below_hop b1 ((Below.refl _ _).alloc (Nat.le_refl _) _)⟩
    have h := HR.out
    unfold sizeT
    split <;> omega
end Go.Proofs.Ytohdaclbgedeiaa
