/-
  THE WALKS OF athanorref12.SameType: are two types alike?
-/
import Derived.Test.YtnlifgcnmhakiaaDoorTRow
import Derived.Deep.RegionLaw
import Derived.BigQuiet
namespace Go.Proofs.YtnlifgcnmhakiaaDoor
open Go.ChangeShapes Go.WideShapes Go.ChangeAt Go.RowKit

mutual
def sameT : Ty → Ty → Bool
  | .mk k s n us, .mk k' s' n' vs => decide (k = k') && decide (s = s') && decide (n = n') && sameL us vs
def sameL : List Ty → List Ty → Bool
  | [], [] => true
  | t :: ts, u :: us => sameT t u && sameL ts us
  | _, _ => false
end
mutual
theorem sameT_iff : ∀ (t u : Ty), sameT t u = true ↔ t = u
  | .mk k s n us, .mk k' s' n' vs => by
    rw [sameT]
    simp only [Bool.and_eq_true, decide_eq_true_eq, sameL_iff us vs, Ty.mk.injEq]
    constructor
    · rintro ⟨⟨⟨h1, h2⟩, h3⟩, h4⟩; exact ⟨h1, h2, h3, h4⟩
    · rintro ⟨h1, h2, h3, h4⟩; exact ⟨⟨⟨h1, h2⟩, h3⟩, h4⟩
theorem sameL_iff : ∀ (ts us : List Ty), sameL ts us = true ↔ ts = us
  | [], [] => by simp [sameL]
  | [], u :: us => by simp [sameL]
  | t :: ts, [] => by simp [sameL]
  | t :: ts, u :: us => by rw [sameL, Bool.and_eq_true, sameT_iff t u, sameL_iff ts us, List.cons.injEq]
end
theorem sameL_len {ts us : List Ty} (h : ts.length ≠ us.length) : sameL ts us = false := by
  cases h2 : sameL ts us with
  | false => rfl
  | true => exact absurd (congrArg List.length ((sameL_iff ts us).1 h2)) h
theorem sameL_drop {ts us : List Ty} {i : Nat} (h1 : i < ts.length) (h2 : i < us.length) : sameL (ts.drop i) (us.drop i) = (sameT ts[i] us[i] && sameL (ts.drop (i + 1)) (us.drop (i + 1))) := by
  rw [List.drop_eq_getElem_cons h1, List.drop_eq_getElem_cons h2, sameL]
theorem str_ne {s s' : ByteArray} (h : decide (s = s') = false) : (s.toList == s'.toList) = false := by
  rw [beq_eq_false_iff_ne]
  intro e
  rw [ByteArray.toList_eq, ByteArray.toList_eq] at e
  have : s = s' := by
    cases s; cases s'
    simp only at e
    rw [Array.ext' e]
  simp [this] at h
theorem int_ne {a b : Int} (h : decide (a = b) = false) : (a != b) = true := by simpa using h
/-- What the comparison tells. -/
def SamesP (r : Bool) (w : World) (e : Ending) (w' : World) : Prop := e = .returned (.bool r) ∧ ∃ m, w' = w.drewN m
theorem drewN_hop {w w1 w2 : World} (h : ∃ m, w1 = w.drewN m) (k : ∃ m, w2 = w1.drewN m) : ∃ m, w2 = w.drewN m := by
  obtain ⟨m, rfl⟩ := h
  obtain ⟨k, rfl⟩ := k
  exact ⟨m + k, by rw [World.drewN_drewN]⟩
theorem TRow.drewN {w w' : World} {S : Nat → Prop} {ts : List Ty} {A : Option Addr} {i : Nat} (h : TRow w S ts A i) (hb : ∃ m, w' = w.drewN m) : TRow w' S ts A i := by
  obtain ⟨m, rfl⟩ := hb
  exact TRow.keep (w := w) (w' := w.drewN m) (fun k hk hl => ⟨rfl, hk⟩) ts A i h
set_option maxHeartbeats 8000000 in
set_option maxRecDepth 100000 in
theorem same_row (us vs : List Ty) (A1 A2 : Option Addr) (c1 c2 : Nat) (S1 S2 : Nat → Prop) (w : World) (r1 : TRow w S1 us A1 0) (r2 : TRow w S2 vs A2 0) (hc1 : us.length ≤ c1) (hcm : c1 ≤ maxLen) (hc2 : vs.length ≤ c2) (hcm2 : c2 ≤ maxLen)
    (ih : ∀ k s n ts, Ty.mk k s n ts ∈ us → ∀ (rs : List Ty) (A1 A2 : Option Addr) (c1 c2 : Nat) (S1 S2 : Nat → Prop) (w : World), TRow w S1 ts A1 0 → TRow w S2 rs A2 0 → ts.length ≤ c1 → c1 ≤ maxLen → rs.length ≤ c2 → c2 ≤ maxLen →
      Calls Tryd.prog 42 #[.slice A1 ts.length c1, .slice A2 rs.length c2] w (SamesP (sameL ts rs) w)) :
    Calls Tryd.prog 42 #[.slice A1 us.length c1, .slice A2 vs.length c2] w (SamesP (sameL us vs) w) := by
  have hL : us.length ≤ 9223372036854775807 := by unfold maxLen at hcm; omega
  have hL2 : vs.length ≤ 9223372036854775807 := by unfold maxLen at hcm2; omega
  by_cases hlen : us.length = vs.length
  case neg =>
    rw [sameL_len hlen]
    clear ih r1 r2
    have hne : ((us.length : Nat) : Int) ≠ (vs.length : Nat) := by omega
    go_enter Tryd.func42, Tryd.ntmps42
    go_wp2
    go_ret
    exact ⟨rfl, 0, rfl⟩
  have H := hid (And.intro r1 (And.intro r2 (And.intro ih hlen)))
  rw [← hlen]
  clear r1 r2 ih hlen
  go_enter Tryd.func42, Tryd.ntmps42
  go_wp2
  go_loopg [5] us.length (fun g x wr => ∃ i : Nat, i + g = us.length ∧ x = .int .i64 i ∧ Hid (∃ m, wr = w.drewN m) ∧ Hid (sameL us vs = sameL (us.drop i) (vs.drop i)))
  case atStart => exact ⟨0, by omega, rfl, hid ⟨0, rfl⟩, hid rfl⟩
  case round =>
    obtain ⟨i, hi, rfl, hb, hs⟩ := hrel
    have Hi := hid hi
    by_cases hlt : i < us.length
    · have hlt' : (i : Int) < us.length := by omega
      have hlt2 : i < vs.length := by have := H.out.2.2.2; omega
      obtain ⟨ad, q, s, n, A3, m, c3, rfl, hSb, hab, y0, y1, y2, y3, hel⟩ := (H.out.1.drewN hb.out).elem hlt
      obtain ⟨ad', q', s', n', A4, m', c4, rfl, hSb', hab', z0, z1, z2, z3, hel'⟩ := (H.out.2.1.drewN hb.out).elem hlt2
      have hs1 := sameL_drop hlt hlt2
      have hmem := List.getElem_mem hlt
      generalize us[i] = t at hel hs1 hmem
      generalize vs[i] = u at hel' hs1
      obtain ⟨a1, a2, a3, ts⟩ := t
      obtain ⟨b1, b2, b3, rs⟩ := u
      obtain ⟨A5, c5, e5, k1, k2, k3, k4, k5, k6⟩ := hel.parts
      simp only [Value.agg.injEq, Array.mk.injEq, List.cons.injEq, and_true, Value.int.injEq, Value.string.injEq, Value.slice.injEq, true_and] at e5
      obtain ⟨rfl, rfl, rfl, rfl, rfl, rfl⟩ := e5
      obtain ⟨A6, c6, e6, l1, l2, l3, l4, l5, l6⟩ := hel'.parts
      simp only [Value.agg.injEq, Array.mk.injEq, List.cons.injEq, and_true, Value.int.injEq, Value.string.injEq, Value.slice.injEq, true_and] at e6
      obtain ⟨rfl, rfl, rfl, rfl, rfl, rfl⟩ := e6
      have eqs : sameT (.mk q s n ts) (.mk q' s' n' rs) = (decide (q = q') && decide (s = s') && decide (n = n') && sameL ts rs) := by rw [sameT]
      have hf := hid (hs.out.trans (hs1.trans (by rw [eqs])))
      have C := hid (fun k : Nat => H.out.2.2.1 q s n ts hmem rs A3 A4 c3 c4 S1 S2 (wr.drewN k) (k4.drewN ⟨k, rfl⟩) (l4.drewN ⟨k, rfl⟩) k1 k2 l1 l2)
      clear hi hlt2 hSb hab hel hSb' hab' hel' hmem hs1 k1 k2 k3 k4 k5 k6 l1 l2 l3 l4 l5 l6 eqs hs
      cases h1 : decide (q = q') with
      | false =>
        rw [h1] at hf
        have g1 := int_ne h1
        go_wp2
        go_quiet (fail)
        go_wp2
        go_ret
        exact ⟨ret_bool hf.out.symm, drewN_hop hb.out ⟨_, rfl⟩⟩
      | true =>
      cases h2 : decide (s = s') with
      | false =>
        rw [h1, h2] at hf
        obtain rfl : q = q' := by simpa using h1
        clear h1
        have g1 := str_ne h2
        go_wp2
        go_quiet (fail)
        go_wp2
        go_ret
        exact ⟨ret_bool hf.out.symm, drewN_hop hb.out ⟨_, rfl⟩⟩
      | true =>
      cases h3 : decide (n = n') with
      | false =>
        rw [h1, h2, h3] at hf
        obtain rfl : q = q' := by simpa using h1
        obtain rfl : s = s' := by simpa using h2
        clear h1 h2
        have g1 := int_ne h3
        go_wp2
        go_quiet (fail)
        go_wp2
        go_ret
        exact ⟨ret_bool hf.out.symm, drewN_hop hb.out ⟨_, rfl⟩⟩
      | true =>
        rw [h1, h2, h3] at hf
        obtain rfl : q = q' := by simpa using h1
        obtain rfl : s = s' := by simpa using h2
        obtain rfl : n = n' := by simpa using h3
        clear h1 h2 h3
        generalize sameL ts rs = r at C hf
        go_wp2
        go_quiet (first | (go_at_call 42; exact Calls.quiet_of (C.out _)))
        cases r with
        | false =>
          go_wp2
          go_ret
          exact ⟨ret_bool hf.out.symm, drewN_hop hb.out ⟨_, rfl⟩⟩
        | true =>
          go_wp2
          have hgk := Hi.out
          go_roundg (gk - 1)
          case rel => exact ⟨i + 1, by omega, rfl, hid (drewN_hop hb.out ⟨_, rfl⟩), hid (hf.out.trans (by simp))⟩
          case measure => omega
    · obtain rfl : i = us.length := by omega
      clear hi
      go_wp2
      go_ret
      refine ⟨ret_bool ?_, hb.out⟩
      rw [hs.out, List.drop_of_length_le (Nat.le_refl _), List.drop_of_length_le (by rw [← H.out.2.2.2]; omega)]
      rfl
/-- sameTypes, of whatever rows. -/
theorem ref12_sameTypes : ∀ (N : Nat) (us : List Ty), nodesL us ≤ N → ∀ (vs : List Ty) (A1 A2 : Option Addr) (c1 c2 : Nat) (S1 S2 : Nat → Prop) (w : World), TRow w S1 us A1 0 → TRow w S2 vs A2 0 → us.length ≤ c1 → c1 ≤ maxLen → vs.length ≤ c2 → c2 ≤ maxLen →
    Calls Tryd.prog 42 #[.slice A1 us.length c1, .slice A2 vs.length c2] w (SamesP (sameL us vs) w) := by
  intro N
  induction N with
  | zero =>
    intro us hu vs A1 A2 c1 c2 S1 S2 w r1 r2 h1 h2 h3 h4
    exact same_row us vs A1 A2 c1 c2 S1 S2 w r1 r2 h1 h2 h3 h4 (fun k s n ts hm => by have := nodes_mem hm; rw [nodes] at this; omega)
  | succ N ih =>
    intro us hu vs A1 A2 c1 c2 S1 S2 w r1 r2 h1 h2 h3 h4
    exact same_row us vs A1 A2 c1 c2 S1 S2 w r1 r2 h1 h2 h3 h4 (fun k s n ts hm rs => ih ts (by have := nodes_mem hm; rw [nodes] at this; omega) rs)
theorem below_drew_of {w w' : World} (h : ∃ m, w' = w.drewN m) : Below w.heap.size w w' := by
  obtain ⟨m, rfl⟩ := h
  exact below_drewN (Below.refl _ _) m
/-- What SameType tells. -/
def SameP (t u : Ty) (w : World) (e : Ending) (w' : World) : Prop := e = .returned (.bool (sameT t u)) ∧ Below w.heap.size w w'
set_option maxHeartbeats 4000000 in
set_option maxRecDepth 100000 in
theorem ref12_SameType (t u : Ty) (v v' : Value) (S S' : Nat → Prop) (w : World) (hv : TAt w S t v) (hv' : TAt w S' u v') : Calls Tryd.prog 28 #[v, v'] w (SameP t u w) := by
  have HV := hid hv
  have HV' := hid hv'
  obtain ⟨q, s, k, A, m, c, rfl⟩ := hv.agg
  obtain ⟨q', s', k', A', m', c', rfl⟩ := hv'.agg
  clear hv hv'
  go_enter Tryd.func28, Tryd.ntmps28
  go_wp2_with (go_at_call 42; go_must (refine (ref12_sameTypes _ [t] (Nat.le_refl _) [u] _ _ _ _ (fun _ => True) (fun _ => True) _ (Blk.row1 (t := t) ((Blk.new' (by simp) _ _).alloc _) trivial (HV.out.all.up (by go_grown : Below w.heap.size w _))) (Blk.row1 (t := u) (Blk.new' (by simp) _ _) trivial (HV'.out.all.up (by go_grown : Below w.heap.size w _))) (by simp) (by unfold maxLen; simp) (by simp) (by unfold maxLen; simp)).mono ?_); rintro e w1 ⟨rfl, b1⟩; go_must (have b2 := hid (below_then (B := w.heap.size) (below_drew_of b1) (by go_grown : Below w.heap.size w _) (by simp; omega)); clear b1))
  go_ret
  refine ⟨ret_bool ?_, b2.out⟩
  rw [sameL, sameL, Bool.and_true]
set_option maxHeartbeats 4000000 in
set_option maxRecDepth 100000 in
theorem ref15_Same (t u : Ty) (v v' : Value) (S S' : Nat → Prop) (w : World) (hv : TAt w S t v) (hv' : TAt w S' u v') : Calls Tryd.prog 10 #[v, v'] w (SameP t u w) := by
  have HV := hid hv
  have HV' := hid hv'
  obtain ⟨q, s, k, A, m, c, rfl⟩ := hv.agg
  obtain ⟨q', s', k', A', m', c', rfl⟩ := hv'.agg
  clear hv hv'
  go_enter Tryd.func10, Tryd.ntmps10
  go_wp2_with (go_at_call 28; go_must (refine (ref12_SameType t u _ _ (fun _ => True) (fun _ => True) _ (HV.out.all.up (by go_grown : Below w.heap.size w _)) (HV'.out.all.up (by go_grown : Below w.heap.size w _))).mono ?_); rintro e w1 ⟨rfl, b1⟩; go_must (have b2 := hid (below_then (B := w.heap.size) b1 (by go_grown : Below w.heap.size w _) (by simp; omega)); clear b1))
  go_ret
  exact ⟨rfl, b2.out⟩
end Go.Proofs.YtnlifgcnmhakiaaDoor
