/-
  THE WALK OF athanorref27.may: the same as cells.may.
-/
import Derived.Test.YtgakmfcnddholaaCWeigh
namespace Go.Proofs.Ytgakmfcnddholaa
open Go.ChangeShapes Go.WideShapes Go.ChangeAt Go.RowKit

set_option maxRecDepth 100000 in
theorem rmay_deep (b : Bool) (n : Int) (A : Option Addr) (m c : Nat) (w : World) :
    Calls Try.prog 33 #[.agg #[.bool b, .int .i64 n, .slice A m c], .int .i64 0] w fun e w' => e = .returned (.bool false) ∧ Below w.heap.size w w' := by
  go_enter Try.func33, Try.ntmps33
  go_wp2
  go_ret
  exact ⟨rfl, (Below.refl _ _).alloc (Nat.le_refl _) _⟩
set_option maxRecDepth 100000 in
theorem rmay_int (n : Int) (A : Option Addr) (m c : Nat) (l : Int) (w : World) (hl : (l == 0) = false) :
    Calls Try.prog 33 #[.agg #[.bool true, .int .i64 n, .slice A m c], .int .i64 l] w fun e w' => e = .returned (.bool (in31 n && decide (m = 0))) ∧ Below w.heap.size w w' := by
  cases hin : in31 n
  all_goals
    go_enter Try.func33, Try.ntmps33
    go_wp2_with (go_at_call 44; go_must (refine (ref10_In _ _).mono ?_); rw [hin]; rintro e w' ⟨rfl, rfl⟩)
    all_goals
      go_ret
      refine ⟨?_, (Below.refl _ _).alloc (Nat.le_refl _) _⟩
      first | rfl | (refine ret_bool ?_; simp; done) | (refine ret_bool ?_; rw [Bool.eq_iff_iff]; simp; try omega)
set_option maxRecDepth 100000 in
theorem rmay_bad (n : Int) (A : Option Addr) (m c : Nat) (l : Int) (w : World) (hl : (l == 0) = false) (h : n < 0 ∨ ¬ n < 0 ∧ n > 31 ∨ ¬ n < 0 ∧ ¬ n > 31 ∧ ((m : Nat) : Int) > 8) :
    Calls Try.prog 33 #[.agg #[.bool false, .int .i64 n, .slice A m c], .int .i64 l] w fun e w' => e = .returned (.bool false) ∧ Below w.heap.size w w' := by
  rcases h with h | ⟨h, h1⟩ | ⟨h, h1, h2⟩
  all_goals
    go_enter Try.func33, Try.ntmps33
    go_wp2
    go_ret
    exact ⟨rfl, (Below.refl _ _).alloc (Nat.le_refl _) _⟩
set_option maxHeartbeats 4000000 in
set_option maxRecDepth 100000 in
theorem rmay_node (n : Int) (A : Option Addr) (us : List Tr) (c B d : Nat) (l : Int) (w : World) (_hl : (l == 0) = false) (hld : l = 257 - d) (hd : d ≤ 256) (h0 : ¬ n < 0) (h32 : ¬ n > 31) (h8 : ¬ ((us.length : Nat) : Int) > 8) (hB : B ≤ w.heap.size) (hrow : RowV w B us A 0)
    (ih : ∀ t ∈ us, ∀ (d : Nat) (l : Int) (v : Value) (w : World), l = 257 - d → d ≤ 257 → B ≤ w.heap.size → VAt w B t v → Calls Try.prog 33 #[v, .int .i64 l] w fun e w' => e = .returned (.bool (mayB t d)) ∧ Below w.heap.size w w') :
    Calls Try.prog 33 #[.agg #[.bool false, .int .i64 n, .slice A us.length c], .int .i64 l] w fun e w' => e = .returned (.bool (mayL us (d + 1))) ∧ Below w.heap.size w w' := by
  have q5 : IntKind.i64.wrap (l - 1) = l - 1 := IntWalk.i64_in _ (by omega)
  have H := hid (And.intro hrow (And.intro ih (And.intro hB h8)))
  have hnot : ∀ (x : Bool) (w : World), (Op.unary .not (.bool x)).run Try.prog w = .ok (.bool (!x)) w := fun _ _ => rfl
  clear hrow ih hB
  go_enter Try.func33, Try.ntmps33
  go_wp2
  go_loopg [5] us.length (fun g x wr => ∃ i : Nat, i + g = us.length ∧ x = .int .i64 i ∧ Hid (mayL (us.drop i) (d + 1) = mayL us (d + 1)) ∧ Hid (Blk wr w.heap.size 33 #[.bool false, .int .i64 n, .slice A us.length c]) ∧ Hid (Below w.heap.size w wr))
  case atStart => exact ⟨0, by omega, rfl, hid rfl, hid (Blk.new _ _ _), hid ((Below.refl _ _).alloc (Nat.le_refl _) _)⟩
  case round =>
    obtain ⟨i, hi, rfl, hm, hb, hbl⟩ := hrel
    have Hi := hid hi
    have x2 : wr.cell? ⟨w.heap.size, 2, none⟩ = some (.slice A us.length c) := hb.out.cell 2
    by_cases hlt : i < us.length
    · have hlt' : (i : Int) < us.length := by omega
      obtain ⟨ad, v0, v1, v2, rfl, p0, p1, p2, p3, p4⟩ := H.out.1.get hlt
      have e := fun (a : Addr) (ha : a.block < B) => (hbl.out.mono H.out.2.2.1).cell (p := a) ha
      rw [Nat.zero_add] at p1 p2 p3
      have eb := add_block ad (i * 3)
      have y1 := (e _ (by rw [eb]; exact p0)).trans p1
      have y2 := (e _ (by dsimp only; rw [eb]; exact p0)).trans p2
      have y3 := (e _ (by dsimp only; rw [eb]; exact p0)).trans p3
      obtain ⟨b', n', A', m', c', rfl, rfl, rfl⟩ := p4.agg
      have Q := hid (And.intro (p4.keep (fun j hj => hbl.out.block j (Nat.lt_of_lt_of_le hj H.out.2.2.1))) (And.intro (List.getElem_mem hlt) (show mayL (us.drop i) (d + 1) = (mayB us[i] (d + 1) && mayL (us.drop (i + 1)) (d + 1)) from by rw [List.drop_eq_getElem_cons hlt, mayL])))
      have hbw := Nat.le_trans H.out.2.2.1 hbl.out.size
      have HBw := hid hbw
      clear hi e p0 p1 p2 p3 p4 eb hbw
      generalize us[i] = t at Q
      cases hmt : mayB t (d + 1) with
      | true =>
        have HT := hid hmt
        clear hmt
        go_wp2_with (go_at_call 33; go_must (refine (H.out.2.1 t Q.out.2.1 (d + 1) _ _ _ (by omega) (by omega) HBw.out Q.out.1).mono ?_); rw [HT.out]; rintro e w1 ⟨rfl, b1⟩)
        have hgk := Hi.out
        have hbm := hb.out.lt
        go_roundg (gk - 1)
        case rel => exact ⟨i + 1, by omega, rfl, hid (by have h1 := hm.out; rw [Q.out.2.2, HT.out, Bool.true_and] at h1; exact h1), hid (hb.out.below b1 hbm), hid (below_hop b1 hbl.out)⟩
        case measure => omega
      | false =>
        have HT := hid hmt
        clear hmt
        go_wp2_with (go_at_call 33; go_must (refine (H.out.2.1 t Q.out.2.1 (d + 1) _ _ _ (by omega) (by omega) HBw.out Q.out.1).mono ?_); rw [HT.out]; rintro e w1 ⟨rfl, b1⟩)
        go_ret
        refine ⟨ret_bool ?_, below_hop b1 hbl.out⟩
        have h1 := hm.out
        rw [Q.out.2.2, HT.out, Bool.false_and] at h1
        exact h1
    · clear hi
      go_wp2
      go_ret
      refine ⟨ret_bool ?_, hbl.out⟩
      have : us.drop i = [] := List.drop_eq_nil_of_le (by omega)
      have hm := hm.out
      rw [this, mayL] at hm
      exact hm
theorem ref27_may : ∀ (N : Nat) (t : Tr), SizeOf.sizeOf t ≤ N → ∀ (B d : Nat) (l : Int) (v : Value) (w : World), l = 257 - d → d ≤ 257 → B ≤ w.heap.size → VAt w B t v →
    Calls Try.prog 33 #[v, .int .i64 l] w fun e w' => e = .returned (.bool (mayB t d)) ∧ Below w.heap.size w w' := by
  intro N
  induction N with
  | zero => intro t ht; cases t; simp at ht
  | succ N ih =>
  intro t ht B d l v w hl hd hB hv
  obtain ⟨b, n, us⟩ := t
  obtain ⟨A, c, rfl, hc, hcm, hnil, hrow, hwf⟩ := hv.parts
  by_cases hd6 : d ≤ 256
  · have hq : (l == 0) = false := by simp; omega
    cases b with
    | true =>
      rw [mayB_int, show (decide (d ≤ 256) && (in31 n && us.isEmpty)) = (in31 n && decide (us.length = 0)) from by cases us <;> simp [hd6]]
      exact rmay_int n A us.length c l w hq
    | false =>
      rw [mayB_node]
      by_cases h : 0 ≤ n ∧ n < 32 ∧ us.length ≤ 8
      · rw [show (decide (d ≤ 256) && (decide (0 ≤ n ∧ n < 32 ∧ us.length ≤ 8) && mayL us (d + 1))) = mayL us (d + 1) from by simp [hd6, h]]
        exact rmay_node n A us c B d l w hq hl hd6 (by omega) (by omega) (by omega) hB hrow (fun t hm d l v w hl hd hB hv => ih t (by have := tr_lt (b := false) (n := n) hm; omega) B d l v w hl hd hB hv)
      · rw [show (decide (d ≤ 256) && (decide (0 ≤ n ∧ n < 32 ∧ us.length ≤ 8) && mayL us (d + 1))) = false from by simp [h]]
        exact rmay_bad n A us.length c l w hq (by omega)
  · rw [show mayB (.mk b n us) d = false from by rw [mayB]; simp [hd6]]
    obtain rfl : l = 0 := by omega
    exact rmay_deep b n A us.length c w
end Go.Proofs.Ytgakmfcnddholaa
