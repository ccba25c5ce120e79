/-
  THE WALKS OF typ.Same: are two types alike?
-/
import Derived.Test.YtnlifgcnmhakiaaDoorTSame
import Derived.Deep.LoopGhost
namespace Go.Proofs.YtnlifgcnmhakiaaDoor
open Go.ChangeShapes Go.WideShapes Go.ChangeAt Go.RowKit

def SameC (t : Ty) : Prop := ∀ (u : Ty) (v v' : Value) (S S' : Nat → Prop) (w : World), TAt w S t v → TAt w S' u v' → Calls Tryd.prog 11 #[v, v'] w (SameP t u w)
def SamesQ (r : Bool) (w : World) (e : Ending) (w' : World) : Prop := e = .returned (.bool r) ∧ Below w.heap.size w w'
set_option maxHeartbeats 4000000 in
set_option maxRecDepth 100000 in
theorem same_equal (us vs : List Ty) (A1 A2 : Option Addr) (c1 c2 : Nat) (S1 S2 : Nat → Prop) (w : World) (r1 : TRow w S1 us A1 0) (r2 : TRow w S2 vs A2 0) (hc1 : us.length ≤ c1) (hcm : c1 ≤ maxLen) (hc2 : vs.length ≤ c2) (hcm2 : c2 ≤ maxLen)
    (ih : ∀ t ∈ us, SameC t) :
    Calls Tryd.prog 29 #[.slice A1 us.length c1, .slice A2 vs.length c2, .func (.func 11) #[] #[]] w (SamesQ (sameL us vs) w) := by
  have hL : us.length ≤ 9223372036854775807 := by unfold maxLen at hcm; omega
  have hL2 : vs.length ≤ 9223372036854775807 := by unfold maxLen at hcm2; omega
  by_cases hlen : us.length = vs.length
  case neg =>
    rw [sameL_len hlen]
    clear ih r1 r2
    have hne : (((us.length : Nat) : Int) != (vs.length : Nat)) = true := by simp; omega
    have hne2 : (!us.length == vs.length) = true := by simp; omega
    go_enter Tryd.func29, Tryd.ntmps29
    go_wp2
    go_ret
    exact ⟨rfl, Below.refl _ _⟩
  have H := hid (And.intro r1 (And.intro r2 (And.intro ih hlen)))
  have g1 : (((us.length : Nat) : Int) != (vs.length : Nat)) = false := by simp; omega
  have g2 : (!us.length == vs.length) = false := by simp; omega
  clear r1 r2 ih hlen
  go_enter Tryd.func29, Tryd.ntmps29
  go_wp2
  go_loopg [17] us.length (fun g x wr => ∃ i : Nat, i + g = us.length ∧ x = .int .i64 i ∧ Hid (Below w.heap.size w wr) ∧ Hid (sameL us vs = sameL (us.drop i) (vs.drop i)))
  case atStart => exact ⟨0, by omega, rfl, hid (Below.refl _ _), hid rfl⟩
  case round =>
    obtain ⟨i, hi, rfl, hb, hs⟩ := hrel
    have Hi := hid hi
    by_cases hlt : i < us.length
    · have hlt' : (i : Int) < us.length := by omega
      have hlt2 : i < vs.length := by have := H.out.2.2.2; omega
      have hlt2' : (i : Int) < vs.length := by omega
      have hi0 : (0 : Int) ≤ (i : Int) := by omega
      obtain ⟨ad, q, s, n, A3, m, c3, rfl, hSb, hab, y0, y1, y2, y3, hel⟩ := (H.out.1.up hb.out).elem hlt
      obtain ⟨ad', q', s', n', A4, m', c4, rfl, hSb', hab', z0, z1, z2, z3, hel'⟩ := (H.out.2.1.up hb.out).elem hlt2
      have hs1 := sameL_drop hlt hlt2
      have hmem := H.out.2.2.1 _ (List.getElem_mem hlt)
      generalize us[i] = t at hel hs1 hmem
      generalize vs[i] = u at hel' hs1
      have Q := hid (And.intro hel (And.intro hel' (And.intro hmem (hs.out.trans hs1))))
      have zz0 : ∀ o, (wr.alloc o).cell? (ad'.add (i * 4)) = some (.int .i64 q') := fun o => (World.cell?_of_block (Below.heap_alloc _ _ _ (cell_lt z0))).trans z0
      have zz1 : ∀ o, (wr.alloc o).cell? ⟨(ad'.add (i * 4)).block, (ad'.add (i * 4)).off + 1, none⟩ = some (.string s') := fun o => (World.cell?_of_block (Below.heap_alloc _ _ _ (cell_lt z1))).trans z1
      have zz2 : ∀ o, (wr.alloc o).cell? ⟨(ad'.add (i * 4)).block, (ad'.add (i * 4)).off + 2, none⟩ = some (.int .i64 n') := fun o => (World.cell?_of_block (Below.heap_alloc _ _ _ (cell_lt z2))).trans z2
      have zz3 : ∀ o, (wr.alloc o).cell? ⟨(ad'.add (i * 4)).block, (ad'.add (i * 4)).off + 3, none⟩ = some (.slice A4 m' c4) := fun o => (World.cell?_of_block (Below.heap_alloc _ _ _ (cell_lt z3))).trans z3
      clear hi hlt2 hSb hab hel hSb' hab' hel' hmem hs1 hs
      cases hst : sameT t u with
      | false =>
        have C := hid (fun (w1 : World) (hb1 : Below wr.heap.size wr w1) => Q.out.2.2.1 u _ _ S1 S2 w1 (Q.out.1.up hb1) (Q.out.2.1.up hb1))
        unfold SameP at C
        rw [hst] at C
        have Hs := hid hst
        clear hst
        go_wp2_with (go_at_call 11; go_must (refine (C.out _ (by go_grown : Below wr.heap.size wr _)).mono ?_); rintro e w1 ⟨rfl, b1⟩; go_must (have b2 := hid (below_then (B := wr.heap.size) b1 (by go_grown : Below wr.heap.size wr _) (by simp; omega)); clear b1))
        go_ret
        exact ⟨ret_bool (by rw [Q.out.2.2.2, Hs.out]; rfl), below_hop b2.out hb.out⟩
      | true =>
        have C := hid (fun (w1 : World) (hb1 : Below wr.heap.size wr w1) => Q.out.2.2.1 u _ _ S1 S2 w1 (Q.out.1.up hb1) (Q.out.2.1.up hb1))
        unfold SameP at C
        rw [hst] at C
        have Hs := hid hst
        clear hst
        go_wp2_with (go_at_call 11; go_must (refine (C.out _ (by go_grown : Below wr.heap.size wr _)).mono ?_); rintro e w1 ⟨rfl, b1⟩; go_must (have b2 := hid (below_then (B := wr.heap.size) b1 (by go_grown : Below wr.heap.size wr _) (by simp; omega)); clear b1))
        have hgk := Hi.out
        go_roundg (gk - 1)
        case rel => exact ⟨i + 1, by omega, rfl, hid (below_hop b2.out hb.out), hid (by rw [Q.out.2.2.2, Hs.out]; rfl)⟩
        case measure => omega
    · obtain rfl : i = us.length := by omega
      clear hi
      go_wp2
      go_ret
      refine ⟨ret_bool ?_, hb.out⟩
      rw [hs.out, List.drop_length, List.drop_of_length_le (by have := H.out.2.2.2; omega), sameL]
set_option maxHeartbeats 4000000 in
set_option maxRecDepth 100000 in
theorem same_node (q : Int) (s : ByteArray) (n : Int) (us : List Ty) (ih : ∀ t ∈ us, SameC t) : SameC (.mk q s n us) := by
  intro u v v' S S' w hv hv'
  obtain ⟨q', s', n', vs⟩ := u
  obtain ⟨A1, c1, rfl, i1, i2, i3, i4, _⟩ := hv.parts
  obtain ⟨A2, c2, rfl, j1, j2, j3, j4, _⟩ := hv'.parts
  have H := hid (And.intro i1 (And.intro i2 (And.intro i4 (And.intro j1 (And.intro j2 (And.intro j4 ih))))))
  clear hv hv' i1 i2 i3 i4 j1 j2 j3 j4 ih
  have hB := hid (below_2 (Below.refl w.heap.size w) (.cells #[.int .i64 q, .string s, .int .i64 n, .slice A1 us.length c1] 24) (.cells #[.int .i64 q', .string s', .int .i64 n', .slice A2 vs.length c2] 24))
  unfold SameP
  rw [sameT]
  by_cases h1 : q = q'
  case neg =>
    have g1 : (q == q') = false := by simpa using h1
    rw [decide_eq_false h1]
    go_enter Tryd.func11, Tryd.ntmps11
    go_wp2
    go_ret
    exact ⟨rfl, hB.out⟩
  subst h1
  by_cases h2 : s = s'
  case neg =>
    have g1 := str_ne (decide_eq_false h2)
    rw [decide_eq_false h2]
    go_enter Tryd.func11, Tryd.ntmps11
    go_wp2
    go_ret
    exact ⟨ret_bool (by simp), hB.out⟩
  subst h2
  by_cases h3 : n = n'
  case neg =>
    have g1 : (n == n') = false := by simpa using h3
    rw [decide_eq_false h3]
    go_enter Tryd.func11, Tryd.ntmps11
    go_wp2
    go_ret
    exact ⟨ret_bool (by simp), hB.out⟩
  subst h3
  have C := hid (fun (w1 : World) (hb1 : Below w.heap.size w w1) => same_equal us vs A1 A2 c1 c2 S S' w1 (H.out.2.2.1.up hb1) (H.out.2.2.2.2.2.1.up hb1) H.out.1 H.out.2.1 H.out.2.2.2.1 H.out.2.2.2.2.1 H.out.2.2.2.2.2.2)
  generalize sameL us vs = r at C
  have e9 : (decide (q = q) && decide (s = s) && decide (n = n) && r) = r := by simp
  rw [e9]
  clear e9
  go_enter Tryd.func11, Tryd.ntmps11
  go_wp2_with (go_at_call 29; go_must (refine (C.out _ (by go_grown : Below w.heap.size w _)).mono ?_); rintro e w1 ⟨rfl, b1⟩; go_must (have b2 := hid (below_then (B := w.heap.size) b1 (by go_grown : Below w.heap.size w _) (by simp; omega)); clear b1))
  go_ret
  exact ⟨rfl, b2.out⟩
theorem typ_Same : ∀ (N : Nat) (t : Ty), SizeOf.sizeOf t ≤ N → SameC t := by
  intro N
  induction N with
  | zero => intro t ht; cases t; simp at ht
  | succ N ih =>
  intro t ht
  obtain ⟨q, s, k, us⟩ := t
  exact same_node q s k us (fun t hm => ih t (by have := ty_lt (k := q) (n := k) (s := s) hm; omega))
theorem typ_same_ (t u : Ty) (v v' : Value) (S S' : Nat → Prop) (w : World) (hv : TAt w S t v) (hv' : TAt w S' u v') : Calls Tryd.prog 11 #[v, v'] w (SameP t u w) := typ_Same _ t (Nat.le_refl _) u v v' S S' w hv hv'
end Go.Proofs.YtnlifgcnmhakiaaDoor
