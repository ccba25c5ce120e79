/-
  THE WALK OF athanorref20.closed.
-/
import Derived.Test.YtohdaclbgedeiaaEGa
import Derived.Test.YtohdaclbgedeiaaEClosed
import Derived.Maps.AppendAt
import Derived.Test.YtohdaclbgedeiaaEWeigh
import Derived.Test.YtohdaclbgedeiaaEGoodA
import Derived.Test.YtohdaclbgedeiaaESimE
import Derived.Deep.RegionHeld2
namespace Go.Proofs.Ytohdaclbgedeiaa
set_option linter.all false
open Go.ChangeShapes Go.WideShapes Go.ChangeAt Go.RowKit
open Ev (Co nodes nodesL bindA upM closM closML)
theorem step_appI {w : World} {ops : Array Oper} {o : Oper} {a : Act} {K : Act → World → Prop} {Q : Exit → Act → World → Prop} {E : Prop} (hgd : o.guard = none) (s x : Operand)
    (ho : o.op = .call { callee := .builtin .append, args := #[s, x], argTypes := #[22, 22] })
    (B : Nat) {v : Value} {xs : List Int} (hs : a.eval s = v) (hown : OwnI w B v xs) {A : Option Addr} {n c Bi : Nat} {ys : List Int} (hx : a.eval x = .slice A n c) (hi : Ints w Bi A n c ys)
    (hlen : xs.length + n ≤ 1000000) (hB : B ≤ w.heap.size)
    (h : ∀ A' c' w', OwnI w' B (.slice A' (xs.length + n) c') (xs ++ ys) → w.grownBy w' v.ownBlock → (∀ B0 w0, B0 ≤ B → Below B0 w0 w → Below B0 w0 w') → K (a.put o.dst (.slice A' (xs.length + n) c')) w') : if Region.wanted o (yielded ops a.tmps) = true then Oper.wp Try.prog o a w K Q else E := by
  have hw : Region.wanted o (yielded ops a.tmps) = true := by simp [Region.wanted, hgd]
  rw [if_pos hw]
  obtain ⟨i, hi1, hz, hs1, hs2⟩ := info_int.parts
  have hwf : ∀ z ∈ xs ++ ys, (Lit.int .i64 z).wf = true := by
    intro z hz
    rcases List.mem_append.1 hz with hz | hz
    · exact hown.wf z hz
    · exact hi.wf z hz
  have hrow : w.ownsRow B 3 1 v xs.length (xs.map (.int .i64)) := by have := hown.own; unfold Own at this; rwa [List.length_map] at this
  cases A with
  | none =>
    obtain ⟨rfl, rfl⟩ := hi.nil rfl
    obtain rfl : ys = [] := List.length_eq_zero_iff.1 hi.len.symm
    obtain ⟨A', c', hv, _⟩ := hown.slice
    subst hv
    have hrun := run_append_owned_none (P := Try.prog) (w := w) B 22 o.type 3 i 1 Try.underlying22 hi1 _ xs.length _ hrow
    unfold Oper.wp
    simp [execOp, ho, resolve, invoke, builtin, hs, hx, hrun, Result.andThen]
    have := h A' c' w (by simpa using hown) ⟨rfl, rfl, rfl, Nat.le_refl _, fun _ _ _ => rfl⟩ (fun _ _ _ hb => hb)
    have h8 : K (a.put o.dst (.slice A' xs.length c')) w := by simpa using this
    exact h8
  | some ad =>
    obtain ⟨v', w', hr, h1, h2, _, _⟩ := run_append_own_at (P := Try.prog) w B 22 o.type 3 i (.int .i64 0) 1 8 Try.underlying22 hi1 hz hs1 hs2 rfl (by omega) v xs.length _ hrow ad n c (ys.map (.int .i64)) (by simp [hi.len]) (news_of_ints hi) (by simp [Value.oneCell']) (by unfold maxLen; omega) (by omega) hB
    have hO : OwnI w' B v' (xs ++ ys) := ⟨by unfold Own; have := h1; rwa [← List.map_append, show xs.length + n = ((xs ++ ys).map (Value.int .i64)).length from by simp [hi.len]] at this, hwf⟩
    unfold Oper.wp execOp
    simp only [ho, resolve, invoke, builtin, Sem.run_bind, Sem.run_pure, Result.andThen_ok, List.map_toArray, List.map_cons, List.map_nil, hs, hx, hr]
    obtain ⟨A', c', hv, _⟩ := hO.slice
    subst hv
    have e : (xs ++ ys).length = xs.length + n := by simp [hi.len]
    rw [e] at hO ⊢
    exact h A' c' w' hO h2 (fun B0 w0 hle hb => hb.grown h2 (Nat.le_trans hle hB) fun k hk => Nat.le_trans hle (hrow.lt k hk).1)
/-- Closed with these bound. -/
def ClosOk (t : Co) (L : List Int) : Prop := ∀ f : Int → Int, (∀ y, 0 ≤ f y) → (∀ y ∈ L, 0 < f y) → closM t f = true
theorem ClosOk.at_ {t : Co} {L M : List Int} (h : ClosOk t (L ++ M)) (f : Int → Int) (h1 : ∀ y, 0 ≤ f y) (h2 : ∀ y ∈ L, 0 < f y) : closM t (upM M f) = true := by
  refine h _ (fun y => ?_) (fun y hy => ?_)
  · rw [up_cnt]; have := h1 y; omega
  · rw [up_cnt]
    have h3 := h1 y
    rcases List.mem_append.1 hy with hy | hy
    · have := h2 y hy; omega
    · have := List.count_pos_iff.2 hy; omega
theorem closML_of {k x y : Int} {f : Int → Int} : ∀ {us : List Co} {j : Nat}, (∀ i, (hi : i < us.length) → closM us[i] (upM (bindA k x y (j + i)) f) = true) → closML k x y j us f = true
  | [], j, _ => by rw [closML]
  | c :: cs, j, h => by
    rw [closML, closML_of (us := cs) (j := j + 1) (fun i hi => by have := h (i + 1) (by simpa using hi); rw [show j + 1 + i = j + (i + 1) from by omega]; simpa using this)]
    have h0 := h 0 (by simp)
    simp at h0
    rw [h0]; rfl
theorem clos_node {k x y m : Int} {b : Bool} {ts : List Int} {us : List Co} {L : List Int} (h1 : k = 1 → x ∈ L) (h2 : ∀ i, (hi : i < us.length) → ClosOk us[i] (L ++ bindA k x y i)) : ClosOk (.mk k x y m b ts us) L := by
  intro f hf hL
  rw [closM, closML_of (fun i hi => by rw [Nat.zero_add]; exact (h2 i hi).at_ f hf hL)]
  by_cases hk : k = 1
  · have := hL x (h1 hk)
    have h0 : ¬ f x = 0 := by omega
    simp [h0]
  · simp [hk]
theorem ints_lit {W : World} {g : Nat} {xs : List Int} (h : Blk W g 3 (xs.map (fun x => Value.int .i64 x)).toArray) (hn : xs.length ≤ 2) (hx : ∀ x ∈ xs, (Lit.int .i64 x).wf = true) : Ints W (g + 1) (some ⟨g, 0, none⟩) xs.length xs.length xs :=
  ints_of_blk h (Nat.lt_succ_self g) (by omega) hx
theorem ints_lit1 {W : World} {g : Nat} {x : Int} (h : Blk W g 3 #[.int .i64 x]) (hx : (Lit.int .i64 x).wf = true) : Ints W (g + 1) (some ⟨g, 0, none⟩) 1 1 [x] := ints_lit (xs := [x]) h (by simp) (by simpa using hx)
theorem ints_lit2 {W : World} {g : Nat} {x y : Int} (h : Blk W g 3 #[.int .i64 x, .int .i64 y]) (hx : (Lit.int .i64 x).wf = true) (hy : (Lit.int .i64 y).wf = true) : Ints W (g + 1) (some ⟨g, 0, none⟩) 2 2 [x, y] := ints_lit (xs := [x, y]) h (by simp) (by simpa using And.intro hx hy)
def KX (k x : Int) (L : List Int) : Prop := k = 1 → x ∈ L
def ClosH (us : List Co) (L : List Int) : Prop := ∀ t ∈ us, ∀ (v : Value) (S S2 : Nat → Prop) (L2 : List Int) (T : Option Addr) (n tc : Nat) (w : World), CAt w S t v → IAt w S2 L2 T tc → n = L2.length → L2.length ≤ L.length + 2 → Calls Try.prog 39 #[v, .slice T n tc] w (OnlyP (ClosOk t L2) w)
set_option maxHeartbeats 8000000 in
set_option maxRecDepth 100000 in
theorem closed_k1 (x y m : Int) (b : Bool) (T A T2 : Option Addr) (tc tc2 : Nat) (ts : List Int) (us : List Co) (c : Nat) (L : List Int) (S S2 : Nat → Prop) (w : World) (hm : us.length ≤ 17592186044416) (hLl : L.length ≤ 900000) (hwf : Wf4 1 x y m) (hrow : CRow w S us A 0) (hI : IAt w S2 L T2 tc2)
    (H0 : ClosH us L) :
    Calls Try.prog 39 #[.agg #[.int .i64 1, .int .i64 x, .int .i64 y, .int .i64 m, .bool b, .slice T ts.length tc, .slice A us.length c], .slice T2 L.length tc2] w (OnlyP (ClosOk (.mk 1 x y m b ts us) L) w) := by
  have hL : us.length ≤ 281474976710656 := by omega
  have H := hid (And.intro hm (And.intro hrow H0))
  have HI := hid hI
  have WX := hid hwf.2.1
  have WY := hid hwf.2.2.1
  clear hm hrow H0 hI hwf
  go_enter Try.func39, Try.ntmps39
  go_wp2_with (go_at_call 54; (refine (ref20_in L T2 tc2 x S2 _ (HI.out.keep (fun b9 hb' hl => ⟨(al1 w _).block b9 hl, hb'⟩))).mono ?_); rintro e9 w1 ⟨⟨tb, rfl, htb⟩, b1⟩; have R1 := hid (And.intro htb (And.intro ((Blk.new w 25 #[.int .i64 1, .int .i64 x, .int .i64 y, .int .i64 m, .bool b, .slice T ts.length tc, .slice A us.length c]).below b1 (by simp)) (below_hop b1 (al1 w _)))); clear htb b1)
  all_goals (try (go_ret; exact no_of rfl R1.out.2.2))
  obtain rfl : tb = true := by simpa using (by assumption : (!tb) = false)
  have HX : Hid (KX 1 x L) := hid (fun _ => R1.out.1 rfl)
  go_loopg [5] us.length (fun g z wr => ∃ (i : Nat), i + g = us.length ∧ z = .int .i64 i ∧ Hid (∀ j, (hj : j < us.length) → j < i → ClosOk us[j] (L ++ bindA 1 x y j)) ∧ Hid (Blk wr w.heap.size 25 #[.int .i64 1, .int .i64 x, .int .i64 y, .int .i64 m, .bool b, .slice T ts.length tc, .slice A us.length c]) ∧ Hid (Below w.heap.size w wr))
  case atStart => first | exact ⟨0, by omega, rfl, hid (fun j hj h => by omega), hid R1.out.2.1, hid R1.out.2.2⟩ | exact ⟨0, by omega, rfl, hid (fun j hj h => by omega), hid (Blk.new _ _ _), hid (al1 _ _)⟩
  case round =>
    obtain ⟨i, hi, rfl, hall, hb, hbl⟩ := hrel
    have Hi := hid hi
    by_cases hlt : i < us.length
    case neg =>
      obtain rfl : i = us.length := by omega
      obtain ⟨x0, x1, x2, x3, x4, x5, x6⟩ := hb.out.seven
      clear hi
      go_wp2
      go_ret
      exact yes_of (fun _ => clos_node HX.out (fun j hj => hall.out j hj hj)) hbl.out
    have hlt' : (i : Int) < us.length := by omega
    obtain ⟨x0, x1, x2, x3, x4, x5, x6⟩ := hb.out.seven
    obtain ⟨ad, k2, q2, y2, n2, i2, T5, tl2, tc5, A2, m2', c2, rfl, hSb, hab, ⟨y0, y1, y2', y3, y4, y5, y6⟩, hel⟩ := (H.out.2.1.up hbl.out).elem hlt
    obtain ⟨t, ht⟩ : ∃ t, t = us[i] := ⟨_, rfl⟩
    rw [← ht] at hel
    have Q := hid (And.intro hel (And.intro (show t ∈ us by rw [ht]; exact List.getElem_mem hlt) ht))
    have HLT := hid hlt
    clear hi hel hSb hab ht
    go_wp2_with (go_at_call 39; go_must (refine (H.out.2.2 t Q.out.2.1 _ _ S2 L T2 L.length tc2 _ Q.out.1 (HI.out.keep (fun b9 hb' hl => ⟨hbl.out.block b9 hl, hb'⟩)) rfl (by omega)).mono ?_); rintro e w5 ⟨⟨rb, rfl, hr⟩, b5⟩; have R5 := hid (And.intro hr (And.intro (below_hop b5 hbl.out) (hb.out.below b5 hb.out.lt))); clear hr b5)
    all_goals try (go_ret; exact no_of rfl R5.out.2.1)
    have HA : Hid (bindA 1 x y i = []) := hid (by simp [bindA])
    have hgk := Hi.out
    have hlt9 := HLT.out
    go_roundg (gk - 1)
    case rel => exact ⟨i + 1, by omega, by go_num, hid (fun j hj hji => by
      by_cases e : j = i
      · subst e
        have h5 : ClosOk t (L) := R5.out.1 (by simpa using (by assumption : (!rb) = false))
        rw [Q.out.2.2] at h5
        have h6 : L ++ bindA 1 x y j = L := (by rw [HA.out]; simp)
        rw [h6]; exact h5
      · exact hall.out j hj (by omega)), hid R5.out.2.2, hid R5.out.2.1⟩
    case measure => omega
set_option maxHeartbeats 8000000 in
set_option maxRecDepth 100000 in
theorem closed_k0 (k : Int)(x y m : Int) (b : Bool) (T A T2 : Option Addr) (tc tc2 : Nat) (ts : List Int) (us : List Co) (c : Nat) (L : List Int) (S S2 : Nat → Prop) (w : World) (hm : us.length ≤ 17592186044416) (hLl : L.length ≤ 900000) (hwf : Wf4 k x y m) (hrow : CRow w S us A 0) (hI : IAt w S2 L T2 tc2)
    (H0 : ClosH us L)(h1 : (k == 1) = false) (h3 : (k == 3) = false) (h5 : (k == 5) = false) (h6 : (k == 6) = false) :
    Calls Try.prog 39 #[.agg #[.int .i64 k, .int .i64 x, .int .i64 y, .int .i64 m, .bool b, .slice T ts.length tc, .slice A us.length c], .slice T2 L.length tc2] w (OnlyP (ClosOk (.mk k x y m b ts us) L) w) := by
  have hL : us.length ≤ 281474976710656 := by omega
  have H := hid (And.intro hm (And.intro hrow H0))
  have HI := hid hI
  have WX := hid hwf.2.1
  have WY := hid hwf.2.2.1
  clear hm hrow H0 hI hwf
  go_enter Try.func39, Try.ntmps39
  go_wp2_with (go_at_call 54; (refine (ref20_in L T2 tc2 x S2 _ (HI.out.keep (fun b9 hb' hl => ⟨(al1 w _).block b9 hl, hb'⟩))).mono ?_); rintro e9 w1 ⟨⟨tb, rfl, htb⟩, b1⟩; have R1 := hid (And.intro htb (And.intro ((Blk.new w 25 #[.int .i64 k, .int .i64 x, .int .i64 y, .int .i64 m, .bool b, .slice T ts.length tc, .slice A us.length c]).below b1 (by simp)) (below_hop b1 (al1 w _)))); clear htb b1)
  all_goals (try (go_ret; exact no_of rfl R1.out.2.2))
  have HX : Hid (KX k x L) := hid ((fun h => by rw [h] at h1; exact absurd h1 (by decide)))
  go_loopg [5] us.length (fun g z wr => ∃ (i : Nat), i + g = us.length ∧ z = .int .i64 i ∧ Hid (∀ j, (hj : j < us.length) → j < i → ClosOk us[j] (L ++ bindA k x y j)) ∧ Hid (Blk wr w.heap.size 25 #[.int .i64 k, .int .i64 x, .int .i64 y, .int .i64 m, .bool b, .slice T ts.length tc, .slice A us.length c]) ∧ Hid (Below w.heap.size w wr))
  case atStart => first | exact ⟨0, by omega, rfl, hid (fun j hj h => by omega), hid R1.out.2.1, hid R1.out.2.2⟩ | exact ⟨0, by omega, rfl, hid (fun j hj h => by omega), hid (Blk.new _ _ _), hid (al1 _ _)⟩
  case round =>
    obtain ⟨i, hi, rfl, hall, hb, hbl⟩ := hrel
    have Hi := hid hi
    by_cases hlt : i < us.length
    case neg =>
      obtain rfl : i = us.length := by omega
      obtain ⟨x0, x1, x2, x3, x4, x5, x6⟩ := hb.out.seven
      clear hi
      go_wp2
      go_ret
      exact yes_of (fun _ => clos_node HX.out (fun j hj => hall.out j hj hj)) hbl.out
    have hlt' : (i : Int) < us.length := by omega
    obtain ⟨x0, x1, x2, x3, x4, x5, x6⟩ := hb.out.seven
    obtain ⟨ad, k2, q2, y2, n2, i2, T5, tl2, tc5, A2, m2', c2, rfl, hSb, hab, ⟨y0, y1, y2', y3, y4, y5, y6⟩, hel⟩ := (H.out.2.1.up hbl.out).elem hlt
    obtain ⟨t, ht⟩ : ∃ t, t = us[i] := ⟨_, rfl⟩
    rw [← ht] at hel
    have Q := hid (And.intro hel (And.intro (show t ∈ us by rw [ht]; exact List.getElem_mem hlt) ht))
    have HLT := hid hlt
    clear hi hel hSb hab ht
    go_wp2_with (go_at_call 39; go_must (refine (H.out.2.2 t Q.out.2.1 _ _ S2 L T2 L.length tc2 _ Q.out.1 (HI.out.keep (fun b9 hb' hl => ⟨hbl.out.block b9 hl, hb'⟩)) rfl (by omega)).mono ?_); rintro e w5 ⟨⟨rb, rfl, hr⟩, b5⟩; have R5 := hid (And.intro hr (And.intro (below_hop b5 hbl.out) (hb.out.below b5 hb.out.lt))); clear hr b5)
    all_goals try (go_ret; exact no_of rfl R5.out.2.1)
    have HA : Hid (bindA k x y i = []) := hid ((by simp at h3 h5 h6; simp [bindA, h3, h5, h6]))
    have hgk := Hi.out
    have hlt9 := HLT.out
    go_roundg (gk - 1)
    case rel => exact ⟨i + 1, by omega, by go_num, hid (fun j hj hji => by
      by_cases e : j = i
      · subst e
        have h5 : ClosOk t (L) := R5.out.1 (by simpa using (by assumption : (!rb) = false))
        rw [Q.out.2.2] at h5
        have h6 : L ++ bindA k x y j = L := (by rw [HA.out]; simp)
        rw [h6]; exact h5
      · exact hall.out j hj (by omega)), hid R5.out.2.2, hid R5.out.2.1⟩
    case measure => omega
set_option maxHeartbeats 8000000 in
set_option maxRecDepth 100000 in
theorem closed_k3 (x y m : Int) (b : Bool) (T A T2 : Option Addr) (tc tc2 : Nat) (ts : List Int) (us : List Co) (c : Nat) (L : List Int) (S S2 : Nat → Prop) (w : World) (hm : us.length ≤ 17592186044416) (hLl : L.length ≤ 900000) (hwf : Wf4 3 x y m) (hrow : CRow w S us A 0) (hI : IAt w S2 L T2 tc2)
    (H0 : ClosH us L) :
    Calls Try.prog 39 #[.agg #[.int .i64 3, .int .i64 x, .int .i64 y, .int .i64 m, .bool b, .slice T ts.length tc, .slice A us.length c], .slice T2 L.length tc2] w (OnlyP (ClosOk (.mk 3 x y m b ts us) L) w) := by
  have hL : us.length ≤ 281474976710656 := by omega
  have H := hid (And.intro hm (And.intro hrow H0))
  have HI := hid hI
  have WX := hid hwf.2.1
  have WY := hid hwf.2.2.1
  clear hm hrow H0 hI hwf
  go_enter Try.func39, Try.ntmps39
  go_wp2_with (go_at_call 54; (refine (ref20_in L T2 tc2 x S2 _ (HI.out.keep (fun b9 hb' hl => ⟨(al1 w _).block b9 hl, hb'⟩))).mono ?_); rintro e9 w1 ⟨⟨tb, rfl, htb⟩, b1⟩; have R1 := hid (And.intro htb (And.intro ((Blk.new w 25 #[.int .i64 3, .int .i64 x, .int .i64 y, .int .i64 m, .bool b, .slice T ts.length tc, .slice A us.length c]).below b1 (by simp)) (below_hop b1 (al1 w _)))); clear htb b1)
  all_goals (try (go_ret; exact no_of rfl R1.out.2.2))
  have HX : Hid (KX 3 x L) := hid (fun h => absurd h (by decide))
  go_loopg [5] us.length (fun g z wr => ∃ (i : Nat), i + g = us.length ∧ z = .int .i64 i ∧ Hid (∀ j, (hj : j < us.length) → j < i → ClosOk us[j] (L ++ bindA 3 x y j)) ∧ Hid (Blk wr w.heap.size 25 #[.int .i64 3, .int .i64 x, .int .i64 y, .int .i64 m, .bool b, .slice T ts.length tc, .slice A us.length c]) ∧ Hid (Below w.heap.size w wr))
  case atStart => first | exact ⟨0, by omega, rfl, hid (fun j hj h => by omega), hid R1.out.2.1, hid R1.out.2.2⟩ | exact ⟨0, by omega, rfl, hid (fun j hj h => by omega), hid (Blk.new _ _ _), hid (al1 _ _)⟩
  case round =>
    obtain ⟨i, hi, rfl, hall, hb, hbl⟩ := hrel
    have Hi := hid hi
    by_cases hlt : i < us.length
    case neg =>
      obtain rfl : i = us.length := by omega
      obtain ⟨x0, x1, x2, x3, x4, x5, x6⟩ := hb.out.seven
      clear hi
      go_wp2
      go_ret
      exact yes_of (fun _ => clos_node HX.out (fun j hj => hall.out j hj hj)) hbl.out
    have hlt' : (i : Int) < us.length := by omega
    obtain ⟨x0, x1, x2, x3, x4, x5, x6⟩ := hb.out.seven
    obtain ⟨ad, k2, q2, y2, n2, i2, T5, tl2, tc5, A2, m2', c2, rfl, hSb, hab, ⟨y0, y1, y2', y3, y4, y5, y6⟩, hel⟩ := (H.out.2.1.up hbl.out).elem hlt
    obtain ⟨t, ht⟩ : ∃ t, t = us[i] := ⟨_, rfl⟩
    rw [← ht] at hel
    have Q := hid (And.intro hel (And.intro (show t ∈ us by rw [ht]; exact List.getElem_mem hlt) ht))
    have HLT := hid hlt
    clear hi hel hSb hab ht
    cases e0 : ((i : Int) == 0)
    · have HE := hid e0
      go_wp2_with (go_at_call 39; go_must (refine (H.out.2.2 t Q.out.2.1 _ _ S2 L T2 L.length tc2 _ Q.out.1 (HI.out.keep (fun b9 hb' hl => ⟨hbl.out.block b9 hl, hb'⟩)) rfl (by omega)).mono ?_); rintro e w5 ⟨⟨rb, rfl, hr⟩, b5⟩; have R5 := hid (And.intro hr (And.intro (below_hop b5 hbl.out) (hb.out.below b5 hb.out.lt))); clear hr b5)
      all_goals try (go_ret; exact no_of rfl R5.out.2.1)
      have HA : Hid (bindA 3 x y i = []) := hid ((by have h9 := HE.out; simp at h9; simp [bindA, h9]))
      have hgk := Hi.out
      have hlt9 := HLT.out
      go_roundg (gk - 1)
      case rel => exact ⟨i + 1, by omega, by go_num, hid (fun j hj hji => by
        by_cases e : j = i
        · subst e
          have h5 : ClosOk t (L) := R5.out.1 (by simpa using (by assumption : (!rb) = false))
          rw [Q.out.2.2] at h5
          have h6 : L ++ bindA 3 x y j = L := (by rw [HA.out]; simp)
          rw [h6]; exact h5
        · exact hall.out j hj (by omega)), hid R5.out.2.2, hid R5.out.2.1⟩
      case measure => omega
    · have HE := hid e0
      have HA : Hid (bindA 3 x y i = [x]) := hid (by have h9 := HE.out; simp at h9; simp [bindA, h9])
      go_wp2
      go_region_held3 (fun w' => w'.cell? ⟨w.heap.size, 1, none⟩ = some (.int .i64 x)) (first | with_reducible exact x1 | with_reducible exact z1 | go_keep) (first | (first | (refine step_appI (by rfl) _ _ (by rfl) wr.heap.size (v := .slice (some ⟨wr.heap.size, 0, none⟩) 0 0) (xs := []) (by rfl) ?_ (A := T2) (n := L.length) (c := tc2) (Bi := w.heap.size) (ys := L) (by rfl) ?_ ?_ ?_ ?_; (· first | exact (OwnI.lit0 (by simp) (by simp)).drew | exact ((OwnI.lit0 (by simp) (by simp)).alloc _).drew); (· exact iat_ints (B := w.heap.size) (HI.out.keep (T := fun b => b < w.heap.size) (fun b hb' hl => ⟨(by have h7 := hbl.out; (first | exact (h7.alloc h7.size _).drew | exact ((h7.alloc h7.size _).alloc (by have := h7.size; simp; omega) _).drew) : Below w.heap.size w _).block b hl, hl⟩)) (fun b hb _ => hb)); (· first | (simp; done) | (simp; omega)); (· first | (simp; done) | (simp; omega)); intro A1 c1 w2 ho hg hbb; simp only [List.length_nil, Nat.zero_add, List.nil_append] at ho ⊢; have O1 := hid ho; have B1 := hid (hbb wr.heap.size wr (Nat.le_refl _) (by first | exact (al1 _ _).drew | exact (al2 _ _ _).drew)); have z1 : w2.cell? ⟨w.heap.size, 1, none⟩ = some (.int .i64 x) := (hb.out.below B1.out hb.out.lt).cell 1; have z2 : w2.cell? ⟨w.heap.size, 2, none⟩ = some (.int .i64 y) := (hb.out.below B1.out hb.out.lt).cell 2; first | have LX := hid ((Blk.new' (g := wr.heap.size + 1) (w := wr.alloc (.cells #[] 3)) (by simp) 3 #[.int .i64 x]).drew.grown hg (by simp [Value.ownBlock])) | have LX := hid (((Blk.new' (g := wr.heap.size) (w := wr) (by simp) 3 #[.int .i64 x]).alloc (.cells #[] 3)).drew.grown hg (by simp [Value.ownBlock])) | skip) | (refine step_appI (by rfl) _ _ (by rfl) wr.heap.size (v := .slice (some ⟨wr.heap.size + 1, 0, none⟩) 0 0) (xs := []) (by rfl) ?_ (A := T2) (n := L.length) (c := tc2) (Bi := w.heap.size) (ys := L) (by rfl) ?_ ?_ ?_ ?_; (· first | exact (OwnI.lit0 (by simp) (by simp)).drew | exact ((OwnI.lit0 (by simp) (by simp)).alloc _).drew); (· exact iat_ints (B := w.heap.size) (HI.out.keep (T := fun b => b < w.heap.size) (fun b hb' hl => ⟨(by have h7 := hbl.out; (first | exact (h7.alloc h7.size _).drew | exact ((h7.alloc h7.size _).alloc (by have := h7.size; simp; omega) _).drew) : Below w.heap.size w _).block b hl, hl⟩)) (fun b hb _ => hb)); (· first | (simp; done) | (simp; omega)); (· first | (simp; done) | (simp; omega)); intro A1 c1 w2 ho hg hbb; simp only [List.length_nil, Nat.zero_add, List.nil_append] at ho ⊢; have O1 := hid ho; have B1 := hid (hbb wr.heap.size wr (Nat.le_refl _) (by first | exact (al1 _ _).drew | exact (al2 _ _ _).drew)); have z1 : w2.cell? ⟨w.heap.size, 1, none⟩ = some (.int .i64 x) := (hb.out.below B1.out hb.out.lt).cell 1; have z2 : w2.cell? ⟨w.heap.size, 2, none⟩ = some (.int .i64 y) := (hb.out.below B1.out hb.out.lt).cell 2; first | have LX := hid ((Blk.new' (g := wr.heap.size + 1) (w := wr.alloc (.cells #[] 3)) (by simp) 3 #[.int .i64 x]).drew.grown hg (by simp [Value.ownBlock])) | have LX := hid (((Blk.new' (g := wr.heap.size) (w := wr) (by simp) 3 #[.int .i64 x]).alloc (.cells #[] 3)).drew.grown hg (by simp [Value.ownBlock])) | skip)) | (have _ := O1; first | (refine step_appI (by rfl) _ _ (by rfl) wr.heap.size (v := .slice A1 L.length c1) (xs := L) (by rfl) ?_ (A := some ⟨w2.heap.size, 0, none⟩) (n := 1) (c := 1) (Bi := w2.heap.size + 1) (ys := [x]) (by rfl) ?_ ?_ ?_ ?_; (· first | exact O1.out | exact O1.out.alloc _); (· (first | exact ints_lit1 LX.out WX.out | exact ints_lit1 (Blk.new' (by simp) _ _) WX.out)); (· omega); (· have h6 := B1.out.size; first | exact h6 | exact Nat.le_trans h6 (al1 _ _).size); intro A3 c3 w3 ho hg hbb; have O3 := hid ho; have B3 := hid (hbb wr.heap.size wr (Nat.le_refl _) (by have b1 := B1.out; first | exact b1 | exact b1.alloc b1.size _)); have z1 : w3.cell? ⟨w.heap.size, 1, none⟩ = some (.int .i64 x) := (hb.out.below B3.out hb.out.lt).cell 1; have z2 : w3.cell? ⟨w.heap.size, 2, none⟩ = some (.int .i64 y) := (hb.out.below B3.out hb.out.lt).cell 2) | (refine step_appI (by rfl) _ _ (by rfl) wr.heap.size (v := .slice A1 L.length c1) (xs := L) (by rfl) ?_ (A := some ⟨wr.heap.size + 1, 0, none⟩) (n := 1) (c := 1) (Bi := wr.heap.size + 1 + 1) (ys := [x]) (by rfl) ?_ ?_ ?_ ?_; (· first | exact O1.out | exact O1.out.alloc _); (· (first | exact ints_lit1 LX.out WX.out | exact ints_lit1 (Blk.new' (by simp) _ _) WX.out)); (· omega); (· have h6 := B1.out.size; first | exact h6 | exact Nat.le_trans h6 (al1 _ _).size); intro A3 c3 w3 ho hg hbb; have O3 := hid ho; have B3 := hid (hbb wr.heap.size wr (Nat.le_refl _) (by have b1 := B1.out; first | exact b1 | exact b1.alloc b1.size _)); have z1 : w3.cell? ⟨w.heap.size, 1, none⟩ = some (.int .i64 x) := (hb.out.below B3.out hb.out.lt).cell 1; have z2 : w3.cell? ⟨w.heap.size, 2, none⟩ = some (.int .i64 y) := (hb.out.below B3.out hb.out.lt).cell 2) | (refine step_appI (by rfl) _ _ (by rfl) wr.heap.size (v := .slice A1 L.length c1) (xs := L) (by rfl) ?_ (A := some ⟨wr.heap.size, 0, none⟩) (n := 1) (c := 1) (Bi := wr.heap.size + 1) (ys := [x]) (by rfl) ?_ ?_ ?_ ?_; (· first | exact O1.out | exact O1.out.alloc _); (· (first | exact ints_lit1 LX.out WX.out | exact ints_lit1 (Blk.new' (by simp) _ _) WX.out)); (· omega); (· have h6 := B1.out.size; first | exact h6 | exact Nat.le_trans h6 (al1 _ _).size); intro A3 c3 w3 ho hg hbb; have O3 := hid ho; have B3 := hid (hbb wr.heap.size wr (Nat.le_refl _) (by have b1 := B1.out; first | exact b1 | exact b1.alloc b1.size _)); have z1 : w3.cell? ⟨w.heap.size, 1, none⟩ = some (.int .i64 x) := (hb.out.below B3.out hb.out.lt).cell 1; have z2 : w3.cell? ⟨w.heap.size, 2, none⟩ = some (.int .i64 y) := (hb.out.below B3.out hb.out.lt).cell 2)))
      all_goals
        have x7 := (hb.out.below B3.out hb.out.lt).seven
        obtain ⟨v0, v1, v2, v3, v4, v5, v6⟩ := x7
        have y7 := at7_keep (B3.out.block _ (cell_lt y0)) rfl (And.intro y0 (And.intro y1 (And.intro y2' (And.intro y3 (And.intro y4 (And.intro y5 y6))))))
        obtain ⟨z0, z1, z2, z3, z4, z5, z6⟩ := y7
        go_wp2_with (go_at_call 39; go_must (refine (H.out.2.2 t Q.out.2.1 _ _ _ (L ++ [x]) A3 (L.length + 1) c3 _ (Q.out.1.up B3.out) (own_iat O3.out (by simp; omega)).2 (by simp) (by simp)).mono ?_); rintro e w5 ⟨⟨rb, rfl, hr⟩, b5⟩; have R5 := hid (And.intro hr (And.intro (below_hop b5 (below_hop B3.out hbl.out)) ((hb.out.below B3.out hb.out.lt).below b5 (hb.out.below B3.out hb.out.lt).lt))); clear hr b5)
        all_goals try (go_ret; exact no_of rfl R5.out.2.1)
      all_goals (
      have hgk := Hi.out
      have hlt9 := HLT.out
      go_roundg (gk - 1)
      case rel => exact ⟨i + 1, by omega, by go_num, hid (fun j hj hji => by
        by_cases e : j = i
        · subst e
          have h5 : ClosOk t (L ++ [x]) := R5.out.1 (by simpa using (by assumption : (!rb) = false))
          rw [Q.out.2.2] at h5
          have h6 : L ++ bindA 3 x y j = L ++ [x] := (by rw [HA.out])
          rw [h6]; exact h5
        · exact hall.out j hj (by omega)), hid R5.out.2.2, hid R5.out.2.1⟩
      case measure => omega)
set_option maxHeartbeats 8000000 in
set_option maxRecDepth 100000 in
theorem closed_k5 (x y m : Int) (b : Bool) (T A T2 : Option Addr) (tc tc2 : Nat) (ts : List Int) (us : List Co) (c : Nat) (L : List Int) (S S2 : Nat → Prop) (w : World) (hm : us.length ≤ 17592186044416) (hLl : L.length ≤ 900000) (hwf : Wf4 5 x y m) (hrow : CRow w S us A 0) (hI : IAt w S2 L T2 tc2)
    (H0 : ClosH us L) :
    Calls Try.prog 39 #[.agg #[.int .i64 5, .int .i64 x, .int .i64 y, .int .i64 m, .bool b, .slice T ts.length tc, .slice A us.length c], .slice T2 L.length tc2] w (OnlyP (ClosOk (.mk 5 x y m b ts us) L) w) := by
  have hL : us.length ≤ 281474976710656 := by omega
  have H := hid (And.intro hm (And.intro hrow H0))
  have HI := hid hI
  have WX := hid hwf.2.1
  have WY := hid hwf.2.2.1
  clear hm hrow H0 hI hwf
  go_enter Try.func39, Try.ntmps39
  go_wp2_with (go_at_call 54; (refine (ref20_in L T2 tc2 x S2 _ (HI.out.keep (fun b9 hb' hl => ⟨(al1 w _).block b9 hl, hb'⟩))).mono ?_); rintro e9 w1 ⟨⟨tb, rfl, htb⟩, b1⟩; have R1 := hid (And.intro htb (And.intro ((Blk.new w 25 #[.int .i64 5, .int .i64 x, .int .i64 y, .int .i64 m, .bool b, .slice T ts.length tc, .slice A us.length c]).below b1 (by simp)) (below_hop b1 (al1 w _)))); clear htb b1)
  all_goals (try (go_ret; exact no_of rfl R1.out.2.2))
  have HX : Hid (KX 5 x L) := hid (fun h => absurd h (by decide))
  go_loopg [5] us.length (fun g z wr => ∃ (i : Nat), i + g = us.length ∧ z = .int .i64 i ∧ Hid (∀ j, (hj : j < us.length) → j < i → ClosOk us[j] (L ++ bindA 5 x y j)) ∧ Hid (Blk wr w.heap.size 25 #[.int .i64 5, .int .i64 x, .int .i64 y, .int .i64 m, .bool b, .slice T ts.length tc, .slice A us.length c]) ∧ Hid (Below w.heap.size w wr))
  case atStart => first | exact ⟨0, by omega, rfl, hid (fun j hj h => by omega), hid R1.out.2.1, hid R1.out.2.2⟩ | exact ⟨0, by omega, rfl, hid (fun j hj h => by omega), hid (Blk.new _ _ _), hid (al1 _ _)⟩
  case round =>
    obtain ⟨i, hi, rfl, hall, hb, hbl⟩ := hrel
    have Hi := hid hi
    by_cases hlt : i < us.length
    case neg =>
      obtain rfl : i = us.length := by omega
      obtain ⟨x0, x1, x2, x3, x4, x5, x6⟩ := hb.out.seven
      clear hi
      go_wp2
      go_ret
      exact yes_of (fun _ => clos_node HX.out (fun j hj => hall.out j hj hj)) hbl.out
    have hlt' : (i : Int) < us.length := by omega
    obtain ⟨x0, x1, x2, x3, x4, x5, x6⟩ := hb.out.seven
    obtain ⟨ad, k2, q2, y2, n2, i2, T5, tl2, tc5, A2, m2', c2, rfl, hSb, hab, ⟨y0, y1, y2', y3, y4, y5, y6⟩, hel⟩ := (H.out.2.1.up hbl.out).elem hlt
    obtain ⟨t, ht⟩ : ∃ t, t = us[i] := ⟨_, rfl⟩
    rw [← ht] at hel
    have Q := hid (And.intro hel (And.intro (show t ∈ us by rw [ht]; exact List.getElem_mem hlt) ht))
    have HLT := hid hlt
    clear hi hel hSb hab ht
    cases e0 : ((i : Int) == 1)
    · have HE := hid e0
      go_wp2_with (go_at_call 39; go_must (refine (H.out.2.2 t Q.out.2.1 _ _ S2 L T2 L.length tc2 _ Q.out.1 (HI.out.keep (fun b9 hb' hl => ⟨hbl.out.block b9 hl, hb'⟩)) rfl (by omega)).mono ?_); rintro e w5 ⟨⟨rb, rfl, hr⟩, b5⟩; have R5 := hid (And.intro hr (And.intro (below_hop b5 hbl.out) (hb.out.below b5 hb.out.lt))); clear hr b5)
      all_goals try (go_ret; exact no_of rfl R5.out.2.1)
      have HA : Hid (bindA 5 x y i = []) := hid ((by have h9 := HE.out; simp at h9; have h8 : ¬ i = 1 := (by omega); simp [bindA, h8]))
      have hgk := Hi.out
      have hlt9 := HLT.out
      go_roundg (gk - 1)
      case rel => exact ⟨i + 1, by omega, by go_num, hid (fun j hj hji => by
        by_cases e : j = i
        · subst e
          have h5 : ClosOk t (L) := R5.out.1 (by simpa using (by assumption : (!rb) = false))
          rw [Q.out.2.2] at h5
          have h6 : L ++ bindA 5 x y j = L := (by rw [HA.out]; simp)
          rw [h6]; exact h5
        · exact hall.out j hj (by omega)), hid R5.out.2.2, hid R5.out.2.1⟩
      case measure => omega
    · have HE := hid e0
      have HA : Hid (bindA 5 x y i = [x]) := hid (by have h9 := HE.out; simp at h9; have h8 : i = 1 := (by omega); simp [bindA, h8])
      go_wp2
      go_region_held3 (fun w' => w'.cell? ⟨w.heap.size, 1, none⟩ = some (.int .i64 x)) (first | with_reducible exact x1 | with_reducible exact z1 | go_keep) (first | (first | (refine step_appI (by rfl) _ _ (by rfl) wr.heap.size (v := .slice (some ⟨wr.heap.size, 0, none⟩) 0 0) (xs := []) (by rfl) ?_ (A := T2) (n := L.length) (c := tc2) (Bi := w.heap.size) (ys := L) (by rfl) ?_ ?_ ?_ ?_; (· first | exact (OwnI.lit0 (by simp) (by simp)).drew | exact ((OwnI.lit0 (by simp) (by simp)).alloc _).drew); (· exact iat_ints (B := w.heap.size) (HI.out.keep (T := fun b => b < w.heap.size) (fun b hb' hl => ⟨(by have h7 := hbl.out; (first | exact (h7.alloc h7.size _).drew | exact ((h7.alloc h7.size _).alloc (by have := h7.size; simp; omega) _).drew) : Below w.heap.size w _).block b hl, hl⟩)) (fun b hb _ => hb)); (· first | (simp; done) | (simp; omega)); (· first | (simp; done) | (simp; omega)); intro A1 c1 w2 ho hg hbb; simp only [List.length_nil, Nat.zero_add, List.nil_append] at ho ⊢; have O1 := hid ho; have B1 := hid (hbb wr.heap.size wr (Nat.le_refl _) (by first | exact (al1 _ _).drew | exact (al2 _ _ _).drew)); have z1 : w2.cell? ⟨w.heap.size, 1, none⟩ = some (.int .i64 x) := (hb.out.below B1.out hb.out.lt).cell 1; have z2 : w2.cell? ⟨w.heap.size, 2, none⟩ = some (.int .i64 y) := (hb.out.below B1.out hb.out.lt).cell 2; first | have LX := hid ((Blk.new' (g := wr.heap.size + 1) (w := wr.alloc (.cells #[] 3)) (by simp) 3 #[.int .i64 x]).drew.grown hg (by simp [Value.ownBlock])) | have LX := hid (((Blk.new' (g := wr.heap.size) (w := wr) (by simp) 3 #[.int .i64 x]).alloc (.cells #[] 3)).drew.grown hg (by simp [Value.ownBlock])) | skip) | (refine step_appI (by rfl) _ _ (by rfl) wr.heap.size (v := .slice (some ⟨wr.heap.size + 1, 0, none⟩) 0 0) (xs := []) (by rfl) ?_ (A := T2) (n := L.length) (c := tc2) (Bi := w.heap.size) (ys := L) (by rfl) ?_ ?_ ?_ ?_; (· first | exact (OwnI.lit0 (by simp) (by simp)).drew | exact ((OwnI.lit0 (by simp) (by simp)).alloc _).drew); (· exact iat_ints (B := w.heap.size) (HI.out.keep (T := fun b => b < w.heap.size) (fun b hb' hl => ⟨(by have h7 := hbl.out; (first | exact (h7.alloc h7.size _).drew | exact ((h7.alloc h7.size _).alloc (by have := h7.size; simp; omega) _).drew) : Below w.heap.size w _).block b hl, hl⟩)) (fun b hb _ => hb)); (· first | (simp; done) | (simp; omega)); (· first | (simp; done) | (simp; omega)); intro A1 c1 w2 ho hg hbb; simp only [List.length_nil, Nat.zero_add, List.nil_append] at ho ⊢; have O1 := hid ho; have B1 := hid (hbb wr.heap.size wr (Nat.le_refl _) (by first | exact (al1 _ _).drew | exact (al2 _ _ _).drew)); have z1 : w2.cell? ⟨w.heap.size, 1, none⟩ = some (.int .i64 x) := (hb.out.below B1.out hb.out.lt).cell 1; have z2 : w2.cell? ⟨w.heap.size, 2, none⟩ = some (.int .i64 y) := (hb.out.below B1.out hb.out.lt).cell 2; first | have LX := hid ((Blk.new' (g := wr.heap.size + 1) (w := wr.alloc (.cells #[] 3)) (by simp) 3 #[.int .i64 x]).drew.grown hg (by simp [Value.ownBlock])) | have LX := hid (((Blk.new' (g := wr.heap.size) (w := wr) (by simp) 3 #[.int .i64 x]).alloc (.cells #[] 3)).drew.grown hg (by simp [Value.ownBlock])) | skip)) | (have _ := O1; first | (refine step_appI (by rfl) _ _ (by rfl) wr.heap.size (v := .slice A1 L.length c1) (xs := L) (by rfl) ?_ (A := some ⟨w2.heap.size, 0, none⟩) (n := 1) (c := 1) (Bi := w2.heap.size + 1) (ys := [x]) (by rfl) ?_ ?_ ?_ ?_; (· first | exact O1.out | exact O1.out.alloc _); (· (first | exact ints_lit1 LX.out WX.out | exact ints_lit1 (Blk.new' (by simp) _ _) WX.out)); (· omega); (· have h6 := B1.out.size; first | exact h6 | exact Nat.le_trans h6 (al1 _ _).size); intro A3 c3 w3 ho hg hbb; have O3 := hid ho; have B3 := hid (hbb wr.heap.size wr (Nat.le_refl _) (by have b1 := B1.out; first | exact b1 | exact b1.alloc b1.size _)); have z1 : w3.cell? ⟨w.heap.size, 1, none⟩ = some (.int .i64 x) := (hb.out.below B3.out hb.out.lt).cell 1; have z2 : w3.cell? ⟨w.heap.size, 2, none⟩ = some (.int .i64 y) := (hb.out.below B3.out hb.out.lt).cell 2) | (refine step_appI (by rfl) _ _ (by rfl) wr.heap.size (v := .slice A1 L.length c1) (xs := L) (by rfl) ?_ (A := some ⟨wr.heap.size + 1, 0, none⟩) (n := 1) (c := 1) (Bi := wr.heap.size + 1 + 1) (ys := [x]) (by rfl) ?_ ?_ ?_ ?_; (· first | exact O1.out | exact O1.out.alloc _); (· (first | exact ints_lit1 LX.out WX.out | exact ints_lit1 (Blk.new' (by simp) _ _) WX.out)); (· omega); (· have h6 := B1.out.size; first | exact h6 | exact Nat.le_trans h6 (al1 _ _).size); intro A3 c3 w3 ho hg hbb; have O3 := hid ho; have B3 := hid (hbb wr.heap.size wr (Nat.le_refl _) (by have b1 := B1.out; first | exact b1 | exact b1.alloc b1.size _)); have z1 : w3.cell? ⟨w.heap.size, 1, none⟩ = some (.int .i64 x) := (hb.out.below B3.out hb.out.lt).cell 1; have z2 : w3.cell? ⟨w.heap.size, 2, none⟩ = some (.int .i64 y) := (hb.out.below B3.out hb.out.lt).cell 2) | (refine step_appI (by rfl) _ _ (by rfl) wr.heap.size (v := .slice A1 L.length c1) (xs := L) (by rfl) ?_ (A := some ⟨wr.heap.size, 0, none⟩) (n := 1) (c := 1) (Bi := wr.heap.size + 1) (ys := [x]) (by rfl) ?_ ?_ ?_ ?_; (· first | exact O1.out | exact O1.out.alloc _); (· (first | exact ints_lit1 LX.out WX.out | exact ints_lit1 (Blk.new' (by simp) _ _) WX.out)); (· omega); (· have h6 := B1.out.size; first | exact h6 | exact Nat.le_trans h6 (al1 _ _).size); intro A3 c3 w3 ho hg hbb; have O3 := hid ho; have B3 := hid (hbb wr.heap.size wr (Nat.le_refl _) (by have b1 := B1.out; first | exact b1 | exact b1.alloc b1.size _)); have z1 : w3.cell? ⟨w.heap.size, 1, none⟩ = some (.int .i64 x) := (hb.out.below B3.out hb.out.lt).cell 1; have z2 : w3.cell? ⟨w.heap.size, 2, none⟩ = some (.int .i64 y) := (hb.out.below B3.out hb.out.lt).cell 2)))
      all_goals
        have x7 := (hb.out.below B3.out hb.out.lt).seven
        obtain ⟨v0, v1, v2, v3, v4, v5, v6⟩ := x7
        have y7 := at7_keep (B3.out.block _ (cell_lt y0)) rfl (And.intro y0 (And.intro y1 (And.intro y2' (And.intro y3 (And.intro y4 (And.intro y5 y6))))))
        obtain ⟨z0, z1, z2, z3, z4, z5, z6⟩ := y7
        go_wp2_with (go_at_call 39; go_must (refine (H.out.2.2 t Q.out.2.1 _ _ _ (L ++ [x]) A3 (L.length + 1) c3 _ (Q.out.1.up B3.out) (own_iat O3.out (by simp; omega)).2 (by simp) (by simp)).mono ?_); rintro e w5 ⟨⟨rb, rfl, hr⟩, b5⟩; have R5 := hid (And.intro hr (And.intro (below_hop b5 (below_hop B3.out hbl.out)) ((hb.out.below B3.out hb.out.lt).below b5 (hb.out.below B3.out hb.out.lt).lt))); clear hr b5)
        all_goals try (go_ret; exact no_of rfl R5.out.2.1)
      all_goals (
      have hgk := Hi.out
      have hlt9 := HLT.out
      go_roundg (gk - 1)
      case rel => exact ⟨i + 1, by omega, by go_num, hid (fun j hj hji => by
        by_cases e : j = i
        · subst e
          have h5 : ClosOk t (L ++ [x]) := R5.out.1 (by simpa using (by assumption : (!rb) = false))
          rw [Q.out.2.2] at h5
          have h6 : L ++ bindA 5 x y j = L ++ [x] := (by rw [HA.out])
          rw [h6]; exact h5
        · exact hall.out j hj (by omega)), hid R5.out.2.2, hid R5.out.2.1⟩
      case measure => omega)
set_option maxHeartbeats 8000000 in
set_option maxRecDepth 100000 in
theorem closed_k6 (x y m : Int) (b : Bool) (T A T2 : Option Addr) (tc tc2 : Nat) (ts : List Int) (us : List Co) (c : Nat) (L : List Int) (S S2 : Nat → Prop) (w : World) (hm : us.length ≤ 17592186044416) (hLl : L.length ≤ 900000) (hwf : Wf4 6 x y m) (hrow : CRow w S us A 0) (hI : IAt w S2 L T2 tc2)
    (H0 : ClosH us L) :
    Calls Try.prog 39 #[.agg #[.int .i64 6, .int .i64 x, .int .i64 y, .int .i64 m, .bool b, .slice T ts.length tc, .slice A us.length c], .slice T2 L.length tc2] w (OnlyP (ClosOk (.mk 6 x y m b ts us) L) w) := by
  have hL : us.length ≤ 281474976710656 := by omega
  have H := hid (And.intro hm (And.intro hrow H0))
  have HI := hid hI
  have WX := hid hwf.2.1
  have WY := hid hwf.2.2.1
  clear hm hrow H0 hI hwf
  go_enter Try.func39, Try.ntmps39
  go_wp2_with (go_at_call 54; (refine (ref20_in L T2 tc2 x S2 _ (HI.out.keep (fun b9 hb' hl => ⟨(al1 w _).block b9 hl, hb'⟩))).mono ?_); rintro e9 w1 ⟨⟨tb, rfl, htb⟩, b1⟩; have R1 := hid (And.intro htb (And.intro ((Blk.new w 25 #[.int .i64 6, .int .i64 x, .int .i64 y, .int .i64 m, .bool b, .slice T ts.length tc, .slice A us.length c]).below b1 (by simp)) (below_hop b1 (al1 w _)))); clear htb b1)
  all_goals (try (go_ret; exact no_of rfl R1.out.2.2))
  have HX : Hid (KX 6 x L) := hid (fun h => absurd h (by decide))
  go_loopg [5] us.length (fun g z wr => ∃ (i : Nat), i + g = us.length ∧ z = .int .i64 i ∧ Hid (∀ j, (hj : j < us.length) → j < i → ClosOk us[j] (L ++ bindA 6 x y j)) ∧ Hid (Blk wr w.heap.size 25 #[.int .i64 6, .int .i64 x, .int .i64 y, .int .i64 m, .bool b, .slice T ts.length tc, .slice A us.length c]) ∧ Hid (Below w.heap.size w wr))
  case atStart => first | exact ⟨0, by omega, rfl, hid (fun j hj h => by omega), hid R1.out.2.1, hid R1.out.2.2⟩ | exact ⟨0, by omega, rfl, hid (fun j hj h => by omega), hid (Blk.new _ _ _), hid (al1 _ _)⟩
  case round =>
    obtain ⟨i, hi, rfl, hall, hb, hbl⟩ := hrel
    have Hi := hid hi
    by_cases hlt : i < us.length
    case neg =>
      obtain rfl : i = us.length := by omega
      obtain ⟨x0, x1, x2, x3, x4, x5, x6⟩ := hb.out.seven
      clear hi
      go_wp2
      go_ret
      exact yes_of (fun _ => clos_node HX.out (fun j hj => hall.out j hj hj)) hbl.out
    have hlt' : (i : Int) < us.length := by omega
    obtain ⟨x0, x1, x2, x3, x4, x5, x6⟩ := hb.out.seven
    obtain ⟨ad, k2, q2, y2, n2, i2, T5, tl2, tc5, A2, m2', c2, rfl, hSb, hab, ⟨y0, y1, y2', y3, y4, y5, y6⟩, hel⟩ := (H.out.2.1.up hbl.out).elem hlt
    obtain ⟨t, ht⟩ : ∃ t, t = us[i] := ⟨_, rfl⟩
    rw [← ht] at hel
    have Q := hid (And.intro hel (And.intro (show t ∈ us by rw [ht]; exact List.getElem_mem hlt) ht))
    have HLT := hid hlt
    clear hi hel hSb hab ht
    rcases (show (((i : Int) == 1) = true ∧ True) ∨ (((i : Int) == 1) = false ∧ ((i : Int) == 0) = true) ∨ (((i : Int) == 1) = false ∧ ((i : Int) == 0) = false) by cases ((i : Int) == 1) <;> cases ((i : Int) == 0) <;> simp) with ⟨e1, e0⟩ | ⟨e1, e0⟩ | ⟨e1, e0⟩
    · have HE := hid e1
      have HA : Hid (bindA 6 x y i = [x]) := hid (by have h9 := HE.out; simp at h9; have h8 : i = 1 := (by omega); simp [bindA, h8])
      go_wp2
      go_region_held3 (fun w' => w'.cell? ⟨w.heap.size, 1, none⟩ = some (.int .i64 x)) (first | with_reducible exact x1 | with_reducible exact z1 | go_keep) (first | (first | (refine step_appI (by rfl) _ _ (by rfl) wr.heap.size (v := .slice (some ⟨wr.heap.size, 0, none⟩) 0 0) (xs := []) (by rfl) ?_ (A := T2) (n := L.length) (c := tc2) (Bi := w.heap.size) (ys := L) (by rfl) ?_ ?_ ?_ ?_; (· first | exact (OwnI.lit0 (by simp) (by simp)).drew | exact ((OwnI.lit0 (by simp) (by simp)).alloc _).drew); (· exact iat_ints (B := w.heap.size) (HI.out.keep (T := fun b => b < w.heap.size) (fun b hb' hl => ⟨(by have h7 := hbl.out; (first | exact (h7.alloc h7.size _).drew | exact ((h7.alloc h7.size _).alloc (by have := h7.size; simp; omega) _).drew) : Below w.heap.size w _).block b hl, hl⟩)) (fun b hb _ => hb)); (· first | (simp; done) | (simp; omega)); (· first | (simp; done) | (simp; omega)); intro A1 c1 w2 ho hg hbb; simp only [List.length_nil, Nat.zero_add, List.nil_append] at ho ⊢; have O1 := hid ho; have B1 := hid (hbb wr.heap.size wr (Nat.le_refl _) (by first | exact (al1 _ _).drew | exact (al2 _ _ _).drew)); have z1 : w2.cell? ⟨w.heap.size, 1, none⟩ = some (.int .i64 x) := (hb.out.below B1.out hb.out.lt).cell 1; have z2 : w2.cell? ⟨w.heap.size, 2, none⟩ = some (.int .i64 y) := (hb.out.below B1.out hb.out.lt).cell 2; first | have LX := hid ((Blk.new' (g := wr.heap.size + 1) (w := wr.alloc (.cells #[] 3)) (by simp) 3 #[.int .i64 x]).drew.grown hg (by simp [Value.ownBlock])) | have LX := hid (((Blk.new' (g := wr.heap.size) (w := wr) (by simp) 3 #[.int .i64 x]).alloc (.cells #[] 3)).drew.grown hg (by simp [Value.ownBlock])) | skip) | (refine step_appI (by rfl) _ _ (by rfl) wr.heap.size (v := .slice (some ⟨wr.heap.size + 1, 0, none⟩) 0 0) (xs := []) (by rfl) ?_ (A := T2) (n := L.length) (c := tc2) (Bi := w.heap.size) (ys := L) (by rfl) ?_ ?_ ?_ ?_; (· first | exact (OwnI.lit0 (by simp) (by simp)).drew | exact ((OwnI.lit0 (by simp) (by simp)).alloc _).drew); (· exact iat_ints (B := w.heap.size) (HI.out.keep (T := fun b => b < w.heap.size) (fun b hb' hl => ⟨(by have h7 := hbl.out; (first | exact (h7.alloc h7.size _).drew | exact ((h7.alloc h7.size _).alloc (by have := h7.size; simp; omega) _).drew) : Below w.heap.size w _).block b hl, hl⟩)) (fun b hb _ => hb)); (· first | (simp; done) | (simp; omega)); (· first | (simp; done) | (simp; omega)); intro A1 c1 w2 ho hg hbb; simp only [List.length_nil, Nat.zero_add, List.nil_append] at ho ⊢; have O1 := hid ho; have B1 := hid (hbb wr.heap.size wr (Nat.le_refl _) (by first | exact (al1 _ _).drew | exact (al2 _ _ _).drew)); have z1 : w2.cell? ⟨w.heap.size, 1, none⟩ = some (.int .i64 x) := (hb.out.below B1.out hb.out.lt).cell 1; have z2 : w2.cell? ⟨w.heap.size, 2, none⟩ = some (.int .i64 y) := (hb.out.below B1.out hb.out.lt).cell 2; first | have LX := hid ((Blk.new' (g := wr.heap.size + 1) (w := wr.alloc (.cells #[] 3)) (by simp) 3 #[.int .i64 x]).drew.grown hg (by simp [Value.ownBlock])) | have LX := hid (((Blk.new' (g := wr.heap.size) (w := wr) (by simp) 3 #[.int .i64 x]).alloc (.cells #[] 3)).drew.grown hg (by simp [Value.ownBlock])) | skip)) | (have _ := O1; first | (refine step_appI (by rfl) _ _ (by rfl) wr.heap.size (v := .slice A1 L.length c1) (xs := L) (by rfl) ?_ (A := some ⟨w2.heap.size, 0, none⟩) (n := 1) (c := 1) (Bi := w2.heap.size + 1) (ys := [x]) (by rfl) ?_ ?_ ?_ ?_; (· first | exact O1.out | exact O1.out.alloc _); (· (first | exact ints_lit1 LX.out WX.out | exact ints_lit1 (Blk.new' (by simp) _ _) WX.out)); (· omega); (· have h6 := B1.out.size; first | exact h6 | exact Nat.le_trans h6 (al1 _ _).size); intro A3 c3 w3 ho hg hbb; have O3 := hid ho; have B3 := hid (hbb wr.heap.size wr (Nat.le_refl _) (by have b1 := B1.out; first | exact b1 | exact b1.alloc b1.size _)); have z1 : w3.cell? ⟨w.heap.size, 1, none⟩ = some (.int .i64 x) := (hb.out.below B3.out hb.out.lt).cell 1; have z2 : w3.cell? ⟨w.heap.size, 2, none⟩ = some (.int .i64 y) := (hb.out.below B3.out hb.out.lt).cell 2) | (refine step_appI (by rfl) _ _ (by rfl) wr.heap.size (v := .slice A1 L.length c1) (xs := L) (by rfl) ?_ (A := some ⟨wr.heap.size + 1, 0, none⟩) (n := 1) (c := 1) (Bi := wr.heap.size + 1 + 1) (ys := [x]) (by rfl) ?_ ?_ ?_ ?_; (· first | exact O1.out | exact O1.out.alloc _); (· (first | exact ints_lit1 LX.out WX.out | exact ints_lit1 (Blk.new' (by simp) _ _) WX.out)); (· omega); (· have h6 := B1.out.size; first | exact h6 | exact Nat.le_trans h6 (al1 _ _).size); intro A3 c3 w3 ho hg hbb; have O3 := hid ho; have B3 := hid (hbb wr.heap.size wr (Nat.le_refl _) (by have b1 := B1.out; first | exact b1 | exact b1.alloc b1.size _)); have z1 : w3.cell? ⟨w.heap.size, 1, none⟩ = some (.int .i64 x) := (hb.out.below B3.out hb.out.lt).cell 1; have z2 : w3.cell? ⟨w.heap.size, 2, none⟩ = some (.int .i64 y) := (hb.out.below B3.out hb.out.lt).cell 2) | (refine step_appI (by rfl) _ _ (by rfl) wr.heap.size (v := .slice A1 L.length c1) (xs := L) (by rfl) ?_ (A := some ⟨wr.heap.size, 0, none⟩) (n := 1) (c := 1) (Bi := wr.heap.size + 1) (ys := [x]) (by rfl) ?_ ?_ ?_ ?_; (· first | exact O1.out | exact O1.out.alloc _); (· (first | exact ints_lit1 LX.out WX.out | exact ints_lit1 (Blk.new' (by simp) _ _) WX.out)); (· omega); (· have h6 := B1.out.size; first | exact h6 | exact Nat.le_trans h6 (al1 _ _).size); intro A3 c3 w3 ho hg hbb; have O3 := hid ho; have B3 := hid (hbb wr.heap.size wr (Nat.le_refl _) (by have b1 := B1.out; first | exact b1 | exact b1.alloc b1.size _)); have z1 : w3.cell? ⟨w.heap.size, 1, none⟩ = some (.int .i64 x) := (hb.out.below B3.out hb.out.lt).cell 1; have z2 : w3.cell? ⟨w.heap.size, 2, none⟩ = some (.int .i64 y) := (hb.out.below B3.out hb.out.lt).cell 2)))
      all_goals
        have x7 := (hb.out.below B3.out hb.out.lt).seven
        obtain ⟨v0, v1, v2, v3, v4, v5, v6⟩ := x7
        have y7 := at7_keep (B3.out.block _ (cell_lt y0)) rfl (And.intro y0 (And.intro y1 (And.intro y2' (And.intro y3 (And.intro y4 (And.intro y5 y6))))))
        obtain ⟨z0, z1, z2, z3, z4, z5, z6⟩ := y7
        go_wp2_with (go_at_call 39; go_must (refine (H.out.2.2 t Q.out.2.1 _ _ _ (L ++ [x]) A3 (L.length + 1) c3 _ (Q.out.1.up B3.out) (own_iat O3.out (by simp; omega)).2 (by simp) (by simp)).mono ?_); rintro e w5 ⟨⟨rb, rfl, hr⟩, b5⟩; have R5 := hid (And.intro hr (And.intro (below_hop b5 (below_hop B3.out hbl.out)) ((hb.out.below B3.out hb.out.lt).below b5 (hb.out.below B3.out hb.out.lt).lt))); clear hr b5)
        all_goals try (go_ret; exact no_of rfl R5.out.2.1)
      all_goals (
      have hgk := Hi.out
      have hlt9 := HLT.out
      go_roundg (gk - 1)
      case rel => exact ⟨i + 1, by omega, by go_num, hid (fun j hj hji => by
        by_cases e : j = i
        · subst e
          have h5 : ClosOk t (L ++ [x]) := R5.out.1 (by simpa using (by assumption : (!rb) = false))
          rw [Q.out.2.2] at h5
          have h6 : L ++ bindA 6 x y j = L ++ [x] := (by rw [HA.out])
          rw [h6]; exact h5
        · exact hall.out j hj (by omega)), hid R5.out.2.2, hid R5.out.2.1⟩
      case measure => omega)
    · have HE := hid e0
      have HA : Hid (bindA 6 x y i = [x, y]) := hid (by have h9 := HE.out; simp at h9; simp [bindA, h9])
      go_wp2
      go_region_held3 (fun w' => w'.cell? ⟨w.heap.size, 1, none⟩ = some (.int .i64 x) ∧ w'.cell? ⟨w.heap.size, 2, none⟩ = some (.int .i64 y)) (first | with_reducible exact ⟨x1, x2⟩ | with_reducible exact ⟨z1, z2⟩ | go_keep) (first | (first | (refine step_appI (by rfl) _ _ (by rfl) wr.heap.size (v := .slice (some ⟨wr.heap.size, 0, none⟩) 0 0) (xs := []) (by rfl) ?_ (A := T2) (n := L.length) (c := tc2) (Bi := w.heap.size) (ys := L) (by rfl) ?_ ?_ ?_ ?_; (· first | exact (OwnI.lit0 (by simp) (by simp)).drew | exact ((OwnI.lit0 (by simp) (by simp)).alloc _).drew); (· exact iat_ints (B := w.heap.size) (HI.out.keep (T := fun b => b < w.heap.size) (fun b hb' hl => ⟨(by have h7 := hbl.out; (first | exact (h7.alloc h7.size _).drew | exact ((h7.alloc h7.size _).alloc (by have := h7.size; simp; omega) _).drew) : Below w.heap.size w _).block b hl, hl⟩)) (fun b hb _ => hb)); (· first | (simp; done) | (simp; omega)); (· first | (simp; done) | (simp; omega)); intro A1 c1 w2 ho hg hbb; simp only [List.length_nil, Nat.zero_add, List.nil_append] at ho ⊢; have O1 := hid ho; have B1 := hid (hbb wr.heap.size wr (Nat.le_refl _) (by first | exact (al1 _ _).drew | exact (al2 _ _ _).drew)); have z1 : w2.cell? ⟨w.heap.size, 1, none⟩ = some (.int .i64 x) := (hb.out.below B1.out hb.out.lt).cell 1; have z2 : w2.cell? ⟨w.heap.size, 2, none⟩ = some (.int .i64 y) := (hb.out.below B1.out hb.out.lt).cell 2; first | have LX := hid ((Blk.new' (g := wr.heap.size + 1) (w := wr.alloc (.cells #[] 3)) (by simp) 3 #[.int .i64 x, .int .i64 y]).drew.grown hg (by simp [Value.ownBlock])) | have LX := hid (((Blk.new' (g := wr.heap.size) (w := wr) (by simp) 3 #[.int .i64 x, .int .i64 y]).alloc (.cells #[] 3)).drew.grown hg (by simp [Value.ownBlock])) | skip) | (refine step_appI (by rfl) _ _ (by rfl) wr.heap.size (v := .slice (some ⟨wr.heap.size + 1, 0, none⟩) 0 0) (xs := []) (by rfl) ?_ (A := T2) (n := L.length) (c := tc2) (Bi := w.heap.size) (ys := L) (by rfl) ?_ ?_ ?_ ?_; (· first | exact (OwnI.lit0 (by simp) (by simp)).drew | exact ((OwnI.lit0 (by simp) (by simp)).alloc _).drew); (· exact iat_ints (B := w.heap.size) (HI.out.keep (T := fun b => b < w.heap.size) (fun b hb' hl => ⟨(by have h7 := hbl.out; (first | exact (h7.alloc h7.size _).drew | exact ((h7.alloc h7.size _).alloc (by have := h7.size; simp; omega) _).drew) : Below w.heap.size w _).block b hl, hl⟩)) (fun b hb _ => hb)); (· first | (simp; done) | (simp; omega)); (· first | (simp; done) | (simp; omega)); intro A1 c1 w2 ho hg hbb; simp only [List.length_nil, Nat.zero_add, List.nil_append] at ho ⊢; have O1 := hid ho; have B1 := hid (hbb wr.heap.size wr (Nat.le_refl _) (by first | exact (al1 _ _).drew | exact (al2 _ _ _).drew)); have z1 : w2.cell? ⟨w.heap.size, 1, none⟩ = some (.int .i64 x) := (hb.out.below B1.out hb.out.lt).cell 1; have z2 : w2.cell? ⟨w.heap.size, 2, none⟩ = some (.int .i64 y) := (hb.out.below B1.out hb.out.lt).cell 2; first | have LX := hid ((Blk.new' (g := wr.heap.size + 1) (w := wr.alloc (.cells #[] 3)) (by simp) 3 #[.int .i64 x, .int .i64 y]).drew.grown hg (by simp [Value.ownBlock])) | have LX := hid (((Blk.new' (g := wr.heap.size) (w := wr) (by simp) 3 #[.int .i64 x, .int .i64 y]).alloc (.cells #[] 3)).drew.grown hg (by simp [Value.ownBlock])) | skip)) | (have _ := O1; first | (refine step_appI (by rfl) _ _ (by rfl) wr.heap.size (v := .slice A1 L.length c1) (xs := L) (by rfl) ?_ (A := some ⟨w2.heap.size, 0, none⟩) (n := 2) (c := 2) (Bi := w2.heap.size + 1) (ys := [x, y]) (by rfl) ?_ ?_ ?_ ?_; (· first | exact O1.out | exact O1.out.alloc _); (· (first | exact ints_lit2 LX.out WX.out WY.out | exact ints_lit2 (Blk.new' (by simp) _ _) WX.out WY.out)); (· omega); (· have h6 := B1.out.size; first | exact h6 | exact Nat.le_trans h6 (al1 _ _).size); intro A3 c3 w3 ho hg hbb; have O3 := hid ho; have B3 := hid (hbb wr.heap.size wr (Nat.le_refl _) (by have b1 := B1.out; first | exact b1 | exact b1.alloc b1.size _)); have z1 : w3.cell? ⟨w.heap.size, 1, none⟩ = some (.int .i64 x) := (hb.out.below B3.out hb.out.lt).cell 1; have z2 : w3.cell? ⟨w.heap.size, 2, none⟩ = some (.int .i64 y) := (hb.out.below B3.out hb.out.lt).cell 2) | (refine step_appI (by rfl) _ _ (by rfl) wr.heap.size (v := .slice A1 L.length c1) (xs := L) (by rfl) ?_ (A := some ⟨wr.heap.size + 1, 0, none⟩) (n := 2) (c := 2) (Bi := wr.heap.size + 1 + 1) (ys := [x, y]) (by rfl) ?_ ?_ ?_ ?_; (· first | exact O1.out | exact O1.out.alloc _); (· (first | exact ints_lit2 LX.out WX.out WY.out | exact ints_lit2 (Blk.new' (by simp) _ _) WX.out WY.out)); (· omega); (· have h6 := B1.out.size; first | exact h6 | exact Nat.le_trans h6 (al1 _ _).size); intro A3 c3 w3 ho hg hbb; have O3 := hid ho; have B3 := hid (hbb wr.heap.size wr (Nat.le_refl _) (by have b1 := B1.out; first | exact b1 | exact b1.alloc b1.size _)); have z1 : w3.cell? ⟨w.heap.size, 1, none⟩ = some (.int .i64 x) := (hb.out.below B3.out hb.out.lt).cell 1; have z2 : w3.cell? ⟨w.heap.size, 2, none⟩ = some (.int .i64 y) := (hb.out.below B3.out hb.out.lt).cell 2) | (refine step_appI (by rfl) _ _ (by rfl) wr.heap.size (v := .slice A1 L.length c1) (xs := L) (by rfl) ?_ (A := some ⟨wr.heap.size, 0, none⟩) (n := 2) (c := 2) (Bi := wr.heap.size + 1) (ys := [x, y]) (by rfl) ?_ ?_ ?_ ?_; (· first | exact O1.out | exact O1.out.alloc _); (· (first | exact ints_lit2 LX.out WX.out WY.out | exact ints_lit2 (Blk.new' (by simp) _ _) WX.out WY.out)); (· omega); (· have h6 := B1.out.size; first | exact h6 | exact Nat.le_trans h6 (al1 _ _).size); intro A3 c3 w3 ho hg hbb; have O3 := hid ho; have B3 := hid (hbb wr.heap.size wr (Nat.le_refl _) (by have b1 := B1.out; first | exact b1 | exact b1.alloc b1.size _)); have z1 : w3.cell? ⟨w.heap.size, 1, none⟩ = some (.int .i64 x) := (hb.out.below B3.out hb.out.lt).cell 1; have z2 : w3.cell? ⟨w.heap.size, 2, none⟩ = some (.int .i64 y) := (hb.out.below B3.out hb.out.lt).cell 2)))
      all_goals
        have x7 := (hb.out.below B3.out hb.out.lt).seven
        obtain ⟨v0, v1, v2, v3, v4, v5, v6⟩ := x7
        have y7 := at7_keep (B3.out.block _ (cell_lt y0)) rfl (And.intro y0 (And.intro y1 (And.intro y2' (And.intro y3 (And.intro y4 (And.intro y5 y6))))))
        obtain ⟨z0, z1, z2, z3, z4, z5, z6⟩ := y7
        go_wp2_with (go_at_call 39; go_must (refine (H.out.2.2 t Q.out.2.1 _ _ _ (L ++ [x, y]) A3 (L.length + 2) c3 _ (Q.out.1.up B3.out) (own_iat O3.out (by simp; omega)).2 (by simp) (by simp)).mono ?_); rintro e w5 ⟨⟨rb, rfl, hr⟩, b5⟩; have R5 := hid (And.intro hr (And.intro (below_hop b5 (below_hop B3.out hbl.out)) ((hb.out.below B3.out hb.out.lt).below b5 (hb.out.below B3.out hb.out.lt).lt))); clear hr b5)
        all_goals try (go_ret; exact no_of rfl R5.out.2.1)
      all_goals (
      have hgk := Hi.out
      have hlt9 := HLT.out
      go_roundg (gk - 1)
      case rel => exact ⟨i + 1, by omega, by go_num, hid (fun j hj hji => by
        by_cases e : j = i
        · subst e
          have h5 : ClosOk t (L ++ [x, y]) := R5.out.1 (by simpa using (by assumption : (!rb) = false))
          rw [Q.out.2.2] at h5
          have h6 : L ++ bindA 6 x y j = L ++ [x, y] := (by rw [HA.out])
          rw [h6]; exact h5
        · exact hall.out j hj (by omega)), hid R5.out.2.2, hid R5.out.2.1⟩
      case measure => omega)
    · have HE := hid (And.intro e0 e1)
      go_wp2_with (go_at_call 39; go_must (refine (H.out.2.2 t Q.out.2.1 _ _ S2 L T2 L.length tc2 _ Q.out.1 (HI.out.keep (fun b9 hb' hl => ⟨hbl.out.block b9 hl, hb'⟩)) rfl (by omega)).mono ?_); rintro e w5 ⟨⟨rb, rfl, hr⟩, b5⟩; have R5 := hid (And.intro hr (And.intro (below_hop b5 hbl.out) (hb.out.below b5 hb.out.lt))); clear hr b5)
      all_goals try (go_ret; exact no_of rfl R5.out.2.1)
      have HA : Hid (bindA 6 x y i = []) := hid ((by have h9 := HE.out; simp at h9; have h8 : ¬ i = 1 := (by omega); have h7 : ¬ i = 0 := (by omega); simp [bindA, h8, h7]))
      have hgk := Hi.out
      have hlt9 := HLT.out
      go_roundg (gk - 1)
      case rel => exact ⟨i + 1, by omega, by go_num, hid (fun j hj hji => by
        by_cases e : j = i
        · subst e
          have h5 : ClosOk t (L) := R5.out.1 (by simpa using (by assumption : (!rb) = false))
          rw [Q.out.2.2] at h5
          have h6 : L ++ bindA 6 x y j = L := (by rw [HA.out]; simp)
          rw [h6]; exact h5
        · exact hall.out j hj (by omega)), hid R5.out.2.2, hid R5.out.2.1⟩
      case measure => omega
theorem ref20_closed : ∀ (N : Nat) (t : Co), SizeOf.sizeOf t ≤ N → ∀ (v : Value) (S S2 : Nat → Prop) (L : List Int) (T : Option Addr) (n tc : Nat) (w : World), CAt w S t v → IAt w S2 L T tc → n = L.length → L.length + 2 * nodes t ≤ 900000 → Calls Try.prog 39 #[v, .slice T n tc] w (OnlyP (ClosOk t L) w) := by
  intro N
  induction N with
  | zero => intro t ht; cases t; simp at ht
  | succ N ih =>
  intro t ht v S S2 L T2 n tc2 w hv hI hn hb
  subst hn
  obtain ⟨k, x, y, m, b, ts, us⟩ := t
  obtain ⟨T, tc, A, c, rfl, _, hc, hrow, hwf⟩ := hv.parts
  have H : ClosH us L := fun t hm v S S2 L2 T n tc w hv hI hn hl => ih t (by have := co_lt (k := k) (x := x) (y := y) (n := m) (i := b) (ts := ts) hm; omega) v S S2 L2 T n tc w hv hI hn (by have := Ev.nodes_mem hm; rw [nodes] at hb; omega)
  have hL : L.length ≤ 900000 := by omega
  by_cases h1 : k = 1
  · subst h1; exact closed_k1 x y m b T A T2 tc tc2 ts us c L S S2 w hc.2.2.2 hL hwf hrow hI H
  by_cases h3 : k = 3
  · subst h3; exact closed_k3 x y m b T A T2 tc tc2 ts us c L S S2 w hc.2.2.2 hL hwf hrow hI H
  by_cases h5 : k = 5
  · subst h5; exact closed_k5 x y m b T A T2 tc tc2 ts us c L S S2 w hc.2.2.2 hL hwf hrow hI H
  by_cases h6 : k = 6
  · subst h6; exact closed_k6 x y m b T A T2 tc tc2 ts us c L S S2 w hc.2.2.2 hL hwf hrow hI H
  have e : ∀ {a b : Int}, a ≠ b → (a == b) = false := fun h => by simpa using h
  exact closed_k0 k x y m b T A T2 tc tc2 ts us c L S S2 w hc.2.2.2 hL hwf hrow hI H (e h1) (e h3) (e h5) (e h6)
theorem ref20_Closed (t : Co) (v : Value) (S : Nat → Prop) (w : World) (hv : CAt w S t v) (hb : 2 * nodes t ≤ 900000) : Calls Try.prog 28 #[v] w (OnlyP (closM t (fun _ => 0) = true) w) := by
  have hv0 := hv
  obtain ⟨k, x, y, m, i, T, tl, tc, A, l, c, rfl⟩ := hv.agg
  have HV := hid hv0
  clear hv hv0
  go_enter Try.func28, Try.ntmps28
  go_wp2_with (go_at_call 39; go_must (refine (ref20_closed _ t (Nat.le_refl _) _ S (fun _ => False) [] none 0 0 _ (HV.out.up (by first | exact Below.refl _ _ | exact al1 _ _)) ⟨⟨Nat.le_refl _, Nat.zero_le _, fun _ => ⟨rfl, rfl⟩, by simp⟩, fun j hj => by simp at hj⟩ rfl (by simp; omega)).mono ?_); rintro e w1 ⟨⟨b, rfl, hb9⟩, b1⟩; have R := hid (And.intro hb9 b1); clear hb9 b1)
  all_goals go_ret
  all_goals exact yes_of (fun h => R.out.1 h _ (fun _ => Int.le_refl _) (fun y hy => by simp at hy)) (by first | exact R.out.2 | exact below_hop R.out.2 (al1 _ _))
end Go.Proofs.Ytohdaclbgedeiaa
/-
  A ROW OF 65537 NUMBERS; WHAT SHAPES TELLS, IN PLAIN LEAN; THE WALK OF athanorlaw21.binders.
-/
namespace Go.Proofs.Ytohdaclbgedeiaa
set_option linter.all false
open Go.ChangeShapes Go.WideShapes Go.ChangeAt Go.RowKit
open Ev (Co nodes nodesL goodM goodML formB bindL addM updI)
mutual
/-- Well formed, each variable bound once; which were met. -/
def bindsM : Co → (Int → Int) → Option (Int → Int)
  | .mk k x y n i ts us, f => if formB k x y n i ts us.length = false then none else match addM (bindL k x y) f with
    | none => none
    | some g => bindsML us g
def bindsML : List Co → (Int → Int) → Option (Int → Int)
  | [], f => some f
  | c :: cs, f => match bindsM c f with
    | none => none
    | some g => bindsML cs g
end
mutual
theorem good_of_binds : ∀ {t : Co} {f g : Int → Int} {d : Nat} {D : Int}, bindsM t f = some g → lowM t d → (d : Int) + D = 1025 → goodM t D f = some g
  | .mk k x y n i ts us, f, g, d, D, h, hl, hd => by
    rw [bindsM] at h
    rw [lowM] at hl
    rw [goodM]
    by_cases hf : formB k x y n i ts us.length = false
    · rw [if_pos hf] at h; cases h
    rw [if_neg hf] at h
    rw [if_neg (by intro h9; rcases h9 with h9 | h9; omega; exact hf h9)]
    cases ha : addM (bindL k x y) f with
    | none => rw [ha] at h; cases h
    | some g2 => rw [ha] at h; exact goodL_of_binds h hl.2 (by omega)
theorem goodL_of_binds : ∀ {us : List Co} {f g : Int → Int} {d : Nat} {D : Int}, bindsML us f = some g → lowML us d → (d : Int) + D = 1025 → goodML us D f = some g
  | [], f, g, d, D, h, _, _ => by rw [bindsML] at h; rw [goodML]; exact h
  | c :: cs, f, g, d, D, h, hl, hd => by
    rw [bindsML] at h
    rw [lowML] at hl
    rw [goodML]
    cases hc : bindsM c f with
    | none => rw [hc] at h; cases h
    | some g2 =>
      rw [hc] at h
      rw [good_of_binds hc hl.1 hd]
      exact goodL_of_binds h hl.2 hd
end
/-- A row of 65537 numbers of one's own. -/
def BRow (w : World) (g : Nat) (f : Int → Int) : Prop := ∃ cs : Array Value, Blk w g 3 cs ∧ cs.size = 65537 ∧ ∀ i : Nat, i < 65537 → cs[i]? = some (.int .i64 (f i))
theorem BRow.cell {w : World} {g : Nat} {f : Int → Int} (h : BRow w g f) {i : Nat} (hi : i < 65537) : w.cell? ⟨g, i, none⟩ = some (.int .i64 (f i)) := by
  obtain ⟨cs, h1, _, h3⟩ := h
  rw [h1.cell]; exact h3 i hi
theorem BRow.frozen {w : World} {g : Nat} {f : Int → Int} (h : BRow w g f) (i : Nat) : w.frozen? ⟨g, i, none⟩ = false := by
  obtain ⟨cs, h1, _⟩ := h
  exact h1.frozen i
theorem BRow.lt {w : World} {g : Nat} {f : Int → Int} (h : BRow w g f) : g < w.heap.size := by
  obtain ⟨cs, h1, _⟩ := h
  exact h1.lt
theorem BRow.set_ {w : World} {g : Nat} {f : Int → Int} (h : BRow w g f) {i : Nat} (hi : i < 65537) (k : Int) : BRow (w.setCell ⟨g, i, none⟩ (.int .i64 k)) g (updI f i k) := by
  obtain ⟨cs, h1, h2, h3⟩ := h
  refine ⟨_, h1.set_ i _, by simpa using h2, fun j hj => ?_⟩
  rw [Array.getElem?_setIfInBounds]
  unfold updI
  by_cases e : i = j
  · subst e
    simp [h2, hi]
  · have e2 : ¬ ((j : Int) = (i : Int)) := by omega
    rw [if_neg e, if_neg e2]
    exact h3 j hj
theorem BRow.below {w w' : World} {g B : Nat} {f : Int → Int} (h : BRow w g f) (hb : Below B w w') (hg : g < B) : BRow w' g f := by
  obtain ⟨cs, h1, h2⟩ := h
  exact ⟨cs, h1.below hb hg, h2⟩
theorem BRow.up {w w' : World} {g : Nat} {f : Int → Int} (h : BRow w g f) (hb : Below w.heap.size w w') : BRow w' g f := h.below hb h.lt
/-- The addresses of a row's places. -/
theorem brow_add (g i : Nat) : (⟨g, 0, none⟩ : Addr).add i = ⟨g, i, none⟩ := cell_add
theorem set_grown (w : World) (g i : Nat) (u : Value) : w.grownBy (w.setCell ⟨g, i, none⟩ u) (some g) :=
  ⟨rfl, rfl, rfl, by simp [World.setCell], fun k hk hne => Below.heap_setCell w ⟨g, i, none⟩ u k (fun e => hne (by rw [e]))⟩
end Go.Proofs.Ytohdaclbgedeiaa
/-
  THE WALK OF athanorlaw21.binders.
-/
namespace Go.Proofs.Ytohdaclbgedeiaa
set_option linter.all false
open Go.ChangeShapes Go.WideShapes Go.ChangeAt Go.RowKit
open Ev (Co nodes nodesL updI)
/-- It writes the row alone. -/
def BinP (g : Nat) (w : World) (e : Ending) (w' : World) : Prop := e = .returned (.tuple #[]) ∧ (∃ f, BRow w' g f) ∧ w.grownBy w' (some g)
def BSt (w : World) (g : Nat) (cs : Array Value) (wr : World) : Prop := (∃ f, BRow wr g f) ∧ w.grownBy wr (some g) ∧ Blk wr w.heap.size 25 cs
theorem BSt.start {w w' : World} {g : Nat} {f : Int → Int} (hg : w.grownBy w' (some g)) (hs : w'.heap.size = w.heap.size) (h : BRow w' g f) (cs : Array Value) : BSt w g cs (w'.alloc (.cells cs 25)) := ⟨⟨f, h.up (al1 _ _)⟩, hg.trans (World.grownBy_alloc _ _ _), by rw [← hs]; exact Blk.new _ _ _⟩
theorem BSt.set_ {w wr : World} {g i : Nat} {cs : Array Value} (h : BSt w g cs wr) (hi : i < 65537) (k : Int) (hne : w.heap.size ≠ g) : BSt w g cs (wr.setCell ⟨g, i, none⟩ (.int .i64 k)) := by
  obtain ⟨⟨f, h1⟩, h2, h3⟩ := h
  exact ⟨⟨_, h1.set_ hi k⟩, h2.trans (set_grown _ _ _ _), h3.far (p := ⟨g, i, none⟩) hne _⟩
theorem BSt.call {w wr w1 : World} {g : Nat} {cs : Array Value} {e : Ending} (h : BSt w g cs wr) (hb : BinP g wr e w1) (hne : w.heap.size ≠ g) : BSt w g cs w1 :=
  ⟨hb.2.1, h.2.1.trans hb.2.2, h.2.2.grown hb.2.2 (fun e => hne (by injection e))⟩
theorem in_row (x : Int) : x ≤ 0 ∨ 65537 ≤ x ∨ ∃ i : Nat, x = i ∧ 0 < i ∧ i < 65537 := by
  by_cases h1 : x ≤ 0
  · exact .inl h1
  by_cases h2 : 65537 ≤ x
  · exact .inr (.inl h2)
  · exact .inr (.inr ⟨x.toNat, by omega, by omega, by omega⟩)
set_option maxHeartbeats 8000000 in
set_option maxRecDepth 100000 in
theorem binders_node (k x y m : Int) (b : Bool) (T A : Option Addr) (tc : Nat) (ts : List Int) (us : List Co) (c : Nat) (S : Nat → Prop) (g N : Nat) (hN : N = 65537) (f : Int → Int) (w : World) (hm : us.length ≤ 17592186044416) (hrow : CRow w S us A 0) (hS : ∀ b, S b → b ≠ g) (hB : BRow w g f)
    (ih : ∀ t ∈ us, ∀ (v : Value) (S : Nat → Prop) (f : Int → Int) (w : World), CAt w S t v → (∀ b, S b → b ≠ g) → BRow w g f → Calls Try.prog 16 #[v, .slice (some ⟨g, 0, none⟩) N N] w (BinP g w)) :
    Calls Try.prog 16 #[.agg #[.int .i64 k, .int .i64 x, .int .i64 y, .int .i64 m, .bool b, .slice T ts.length tc, .slice A us.length c], .slice (some ⟨g, 0, none⟩) N N] w (BinP g w) := by
  have hL : us.length ≤ 281474976710656 := by omega
  have hgl := hB.lt
  have hgne : ¬ w.heap.size = g := by omega
  have hgne2 : ¬ g = w.heap.size := by omega
  have H := hid (And.intro hm (And.intro hrow (And.intro hS (And.intro ih hB))))
  have c1 : ∀ o i, i < 65537 → (w.alloc o).cell? ⟨g, i, none⟩ = some (.int .i64 (f (i : Nat))) := fun o i hi => (hB.up (al1 w o)).cell hi
  have f1 : ∀ o i, (w.alloc o).frozen? ⟨g, i, none⟩ = false := fun o i => (hB.up (al1 w o)).frozen i
  have c5 : ∀ (o : Obj) (i j : Nat), i < 65537 → j < 65537 → ((w.setCell ⟨g, i, none⟩ (.int .i64 1)).alloc o).cell? ⟨g, j, none⟩ = some (.int .i64 ((updI f i 1) j)) := fun o i j hi hj => ((hB.set_ hi 1).up (al1 _ o)).cell hj
  have f5 : ∀ (o : Obj) (i j : Nat), i < 65537 → ((w.setCell ⟨g, i, none⟩ (.int .i64 1)).alloc o).frozen? ⟨g, j, none⟩ = false := fun o i j hi => ((hB.set_ hi 1).up (al1 _ o)).frozen j
  clear hm hrow hS ih hB
  rcases in_row x with hx | hx | ⟨i, rfl, hi0, hi1⟩
  all_goals rcases in_row y with hy | hy | ⟨j, rfl, hj0, hj1⟩
  all_goals (try have c2 := fun o => c1 o i hi1)
  all_goals (try have c3 := fun o => c1 o j hj1)
  all_goals (try have f2 := fun o => f1 o i)
  all_goals (try have f3 := fun o => f1 o j)
  all_goals (try have c6 := fun o => c5 o i j hi1 hj1)
  all_goals (try have f6 := fun o => f5 o i j hi1)
  all_goals (try have HJ := hid hj1)
  all_goals (try have HI := hid hi1)
  all_goals (try have i1 : (0 : Int) ≤ (i : Int) := by omega)
  all_goals (try have i2 : (i : Int) < N := by omega)
  all_goals (try have i3 : (0 : Int) < (i : Int) := by omega)
  all_goals (try have j1 : (0 : Int) ≤ (j : Int) := by omega)
  all_goals (try have j2 : (j : Int) < N := by omega)
  all_goals (try have j3 : (0 : Int) < (j : Int) := by omega)
  all_goals (try have i4 : i < N := by omega)
  all_goals (try have j4 : j < N := by omega)
  all_goals (try have hx2 : 0 < x := by omega)
  all_goals (try have hy2 : 0 < y := by omega)
  all_goals (try replace hx : ¬ x < (N : Int) := by omega)
  all_goals (try replace hy : ¬ y < (N : Int) := by omega)
  all_goals have HN := hid hN
  all_goals (try generalize hu : (updI f i 1) j = u at c6; clear hu)
  all_goals clear c1 f1 c5 f5 hN
  · go_enter Try.func16, Try.ntmps16
    go_wp2
    go_loopg [4] us.length (fun gg z wr => ∃ (q0 : Nat), q0 + gg = us.length ∧ z = .int .i64 q0 ∧ Hid (BSt w g #[.int .i64 k, .int .i64 x, .int .i64 y, .int .i64 m, .bool b, .slice T ts.length tc, .slice A us.length c] wr))
    case atStart =>
      exact ⟨0, by omega, rfl, hid (BSt.start (World.grownBy.refl _ _) rfl H.out.2.2.2.2 _)⟩
    case round =>
      obtain ⟨q, hq, rfl, hb⟩ := hrel
      have Hq := hid hq
      have x6 : wr.cell? ⟨w.heap.size, 6, none⟩ = some (.slice A us.length c) := hb.out.2.2.cell 6
      by_cases hlt : q < us.length
      · have hlt' : (q : Int) < us.length := by omega
        have hkeep : ∀ b, S b → b < w.heap.size → wr.heap[b]? = w.heap[b]? ∧ S b := fun b hb' hl => ⟨hb.out.2.1.block b hl (fun e => H.out.2.2.1 b hb' (by injection e)), hb'⟩
        obtain ⟨ad, k2, x2, y2, n2, i2, T2, tl2, tc2, A2, m2', c2, rfl, hSb, hab, ⟨y0, y1, y2', y3, y4, y5, y6⟩, hel⟩ := (CRow.keep hkeep _ _ _ H.out.2.1).elem hlt
        have Q := hid (And.intro hel (List.getElem_mem hlt))
        obtain ⟨f9, hf9⟩ := hb.out.1
        have HF := hid hf9
        clear hq hel hSb hab hkeep hf9
        generalize us[q] = t at Q
        go_wp2_with (go_at_call 16; go_must (refine (H.out.2.2.2.1 t Q.out.2 _ S f9 _ Q.out.1 H.out.2.2.1 HF.out).mono ?_); rintro e w1 hE; go_must (obtain ⟨rfl, hE2⟩ := hE; have R := hid hE2; clear hE2))
        have hgk := Hq.out
        go_roundg (gk - 1)
        case rel => exact ⟨q + 1, by omega, by go_num, hid (hb.out.call (e := .returned (.tuple #[])) ⟨rfl, R.out⟩ hgne)⟩
        case measure => omega
      · obtain rfl : q = us.length := by omega
        clear hq
        go_wp2
        first | go_end0 | refine bodyPost_end (results_none rfl _ _ _) rfl ?_ | refine bodyPost_ret (results_none rfl _ _ _) rfl ?_
        exact ⟨rfl, hb.out.1, hb.out.2.1⟩
  · go_enter Try.func16, Try.ntmps16
    go_wp2
    go_loopg [4] us.length (fun gg z wr => ∃ (q0 : Nat), q0 + gg = us.length ∧ z = .int .i64 q0 ∧ Hid (BSt w g #[.int .i64 k, .int .i64 x, .int .i64 y, .int .i64 m, .bool b, .slice T ts.length tc, .slice A us.length c] wr))
    case atStart =>
      exact ⟨0, by omega, rfl, hid (BSt.start (World.grownBy.refl _ _) rfl H.out.2.2.2.2 _)⟩
    case round =>
      obtain ⟨q, hq, rfl, hb⟩ := hrel
      have Hq := hid hq
      have x6 : wr.cell? ⟨w.heap.size, 6, none⟩ = some (.slice A us.length c) := hb.out.2.2.cell 6
      by_cases hlt : q < us.length
      · have hlt' : (q : Int) < us.length := by omega
        have hkeep : ∀ b, S b → b < w.heap.size → wr.heap[b]? = w.heap[b]? ∧ S b := fun b hb' hl => ⟨hb.out.2.1.block b hl (fun e => H.out.2.2.1 b hb' (by injection e)), hb'⟩
        obtain ⟨ad, k2, x2, y2, n2, i2, T2, tl2, tc2, A2, m2', c2, rfl, hSb, hab, ⟨y0, y1, y2', y3, y4, y5, y6⟩, hel⟩ := (CRow.keep hkeep _ _ _ H.out.2.1).elem hlt
        have Q := hid (And.intro hel (List.getElem_mem hlt))
        obtain ⟨f9, hf9⟩ := hb.out.1
        have HF := hid hf9
        clear hq hel hSb hab hkeep hf9
        generalize us[q] = t at Q
        go_wp2_with (go_at_call 16; go_must (refine (H.out.2.2.2.1 t Q.out.2 _ S f9 _ Q.out.1 H.out.2.2.1 HF.out).mono ?_); rintro e w1 hE; go_must (obtain ⟨rfl, hE2⟩ := hE; have R := hid hE2; clear hE2))
        have hgk := Hq.out
        go_roundg (gk - 1)
        case rel => exact ⟨q + 1, by omega, by go_num, hid (hb.out.call (e := .returned (.tuple #[])) ⟨rfl, R.out⟩ hgne)⟩
        case measure => omega
      · obtain rfl : q = us.length := by omega
        clear hq
        go_wp2
        first | go_end0 | refine bodyPost_end (results_none rfl _ _ _) rfl ?_ | refine bodyPost_ret (results_none rfl _ _ _) rfl ?_
        exact ⟨rfl, hb.out.1, hb.out.2.1⟩
  · go_enter Try.func16, Try.ntmps16
    go_wp2
    go_loopg [4] us.length (fun gg z wr => ∃ (q0 : Nat), q0 + gg = us.length ∧ z = .int .i64 q0 ∧ Hid (BSt w g #[.int .i64 k, .int .i64 x, .int .i64 (j : Int), .int .i64 m, .bool b, .slice T ts.length tc, .slice A us.length c] wr))
    case atStart =>
      exact ⟨0, by omega, rfl, hid (BSt.start (set_grown _ _ j _) (by simp [World.setCell]) (H.out.2.2.2.2.set_ HJ.out 1) _)⟩
    case round =>
      obtain ⟨q, hq, rfl, hb⟩ := hrel
      have Hq := hid hq
      have x6 : wr.cell? ⟨w.heap.size, 6, none⟩ = some (.slice A us.length c) := hb.out.2.2.cell 6
      by_cases hlt : q < us.length
      · have hlt' : (q : Int) < us.length := by omega
        have hkeep : ∀ b, S b → b < w.heap.size → wr.heap[b]? = w.heap[b]? ∧ S b := fun b hb' hl => ⟨hb.out.2.1.block b hl (fun e => H.out.2.2.1 b hb' (by injection e)), hb'⟩
        obtain ⟨ad, k2, x2, y2, n2, i2, T2, tl2, tc2, A2, m2', c2, rfl, hSb, hab, ⟨y0, y1, y2', y3, y4, y5, y6⟩, hel⟩ := (CRow.keep hkeep _ _ _ H.out.2.1).elem hlt
        have Q := hid (And.intro hel (List.getElem_mem hlt))
        obtain ⟨f9, hf9⟩ := hb.out.1
        have HF := hid hf9
        clear hq hel hSb hab hkeep hf9
        generalize us[q] = t at Q
        go_wp2_with (go_at_call 16; go_must (refine (H.out.2.2.2.1 t Q.out.2 _ S f9 _ Q.out.1 H.out.2.2.1 HF.out).mono ?_); rintro e w1 hE; go_must (obtain ⟨rfl, hE2⟩ := hE; have R := hid hE2; clear hE2))
        have hgk := Hq.out
        go_roundg (gk - 1)
        case rel => exact ⟨q + 1, by omega, by go_num, hid (hb.out.call (e := .returned (.tuple #[])) ⟨rfl, R.out⟩ hgne)⟩
        case measure => omega
      · obtain rfl : q = us.length := by omega
        clear hq
        go_wp2
        first | go_end0 | refine bodyPost_end (results_none rfl _ _ _) rfl ?_ | refine bodyPost_ret (results_none rfl _ _ _) rfl ?_
        exact ⟨rfl, hb.out.1, hb.out.2.1⟩
  · go_enter Try.func16, Try.ntmps16
    go_wp2
    go_loopg [4] us.length (fun gg z wr => ∃ (q0 : Nat), q0 + gg = us.length ∧ z = .int .i64 q0 ∧ Hid (BSt w g #[.int .i64 k, .int .i64 x, .int .i64 y, .int .i64 m, .bool b, .slice T ts.length tc, .slice A us.length c] wr))
    case atStart =>
      exact ⟨0, by omega, rfl, hid (BSt.start (World.grownBy.refl _ _) rfl H.out.2.2.2.2 _)⟩
    case round =>
      obtain ⟨q, hq, rfl, hb⟩ := hrel
      have Hq := hid hq
      have x6 : wr.cell? ⟨w.heap.size, 6, none⟩ = some (.slice A us.length c) := hb.out.2.2.cell 6
      by_cases hlt : q < us.length
      · have hlt' : (q : Int) < us.length := by omega
        have hkeep : ∀ b, S b → b < w.heap.size → wr.heap[b]? = w.heap[b]? ∧ S b := fun b hb' hl => ⟨hb.out.2.1.block b hl (fun e => H.out.2.2.1 b hb' (by injection e)), hb'⟩
        obtain ⟨ad, k2, x2, y2, n2, i2, T2, tl2, tc2, A2, m2', c2, rfl, hSb, hab, ⟨y0, y1, y2', y3, y4, y5, y6⟩, hel⟩ := (CRow.keep hkeep _ _ _ H.out.2.1).elem hlt
        have Q := hid (And.intro hel (List.getElem_mem hlt))
        obtain ⟨f9, hf9⟩ := hb.out.1
        have HF := hid hf9
        clear hq hel hSb hab hkeep hf9
        generalize us[q] = t at Q
        go_wp2_with (go_at_call 16; go_must (refine (H.out.2.2.2.1 t Q.out.2 _ S f9 _ Q.out.1 H.out.2.2.1 HF.out).mono ?_); rintro e w1 hE; go_must (obtain ⟨rfl, hE2⟩ := hE; have R := hid hE2; clear hE2))
        have hgk := Hq.out
        go_roundg (gk - 1)
        case rel => exact ⟨q + 1, by omega, by go_num, hid (hb.out.call (e := .returned (.tuple #[])) ⟨rfl, R.out⟩ hgne)⟩
        case measure => omega
      · obtain rfl : q = us.length := by omega
        clear hq
        go_wp2
        first | go_end0 | refine bodyPost_end (results_none rfl _ _ _) rfl ?_ | refine bodyPost_ret (results_none rfl _ _ _) rfl ?_
        exact ⟨rfl, hb.out.1, hb.out.2.1⟩
  · go_enter Try.func16, Try.ntmps16
    go_wp2
    go_loopg [4] us.length (fun gg z wr => ∃ (q0 : Nat), q0 + gg = us.length ∧ z = .int .i64 q0 ∧ Hid (BSt w g #[.int .i64 k, .int .i64 x, .int .i64 y, .int .i64 m, .bool b, .slice T ts.length tc, .slice A us.length c] wr))
    case atStart =>
      exact ⟨0, by omega, rfl, hid (BSt.start (World.grownBy.refl _ _) rfl H.out.2.2.2.2 _)⟩
    case round =>
      obtain ⟨q, hq, rfl, hb⟩ := hrel
      have Hq := hid hq
      have x6 : wr.cell? ⟨w.heap.size, 6, none⟩ = some (.slice A us.length c) := hb.out.2.2.cell 6
      by_cases hlt : q < us.length
      · have hlt' : (q : Int) < us.length := by omega
        have hkeep : ∀ b, S b → b < w.heap.size → wr.heap[b]? = w.heap[b]? ∧ S b := fun b hb' hl => ⟨hb.out.2.1.block b hl (fun e => H.out.2.2.1 b hb' (by injection e)), hb'⟩
        obtain ⟨ad, k2, x2, y2, n2, i2, T2, tl2, tc2, A2, m2', c2, rfl, hSb, hab, ⟨y0, y1, y2', y3, y4, y5, y6⟩, hel⟩ := (CRow.keep hkeep _ _ _ H.out.2.1).elem hlt
        have Q := hid (And.intro hel (List.getElem_mem hlt))
        obtain ⟨f9, hf9⟩ := hb.out.1
        have HF := hid hf9
        clear hq hel hSb hab hkeep hf9
        generalize us[q] = t at Q
        go_wp2_with (go_at_call 16; go_must (refine (H.out.2.2.2.1 t Q.out.2 _ S f9 _ Q.out.1 H.out.2.2.1 HF.out).mono ?_); rintro e w1 hE; go_must (obtain ⟨rfl, hE2⟩ := hE; have R := hid hE2; clear hE2))
        have hgk := Hq.out
        go_roundg (gk - 1)
        case rel => exact ⟨q + 1, by omega, by go_num, hid (hb.out.call (e := .returned (.tuple #[])) ⟨rfl, R.out⟩ hgne)⟩
        case measure => omega
      · obtain rfl : q = us.length := by omega
        clear hq
        go_wp2
        first | go_end0 | refine bodyPost_end (results_none rfl _ _ _) rfl ?_ | refine bodyPost_ret (results_none rfl _ _ _) rfl ?_
        exact ⟨rfl, hb.out.1, hb.out.2.1⟩
  · go_enter Try.func16, Try.ntmps16
    go_wp2
    go_loopg [4] us.length (fun gg z wr => ∃ (q0 : Nat), q0 + gg = us.length ∧ z = .int .i64 q0 ∧ Hid (BSt w g #[.int .i64 k, .int .i64 x, .int .i64 (j : Int), .int .i64 m, .bool b, .slice T ts.length tc, .slice A us.length c] wr))
    case atStart =>
      exact ⟨0, by omega, rfl, hid (BSt.start (set_grown _ _ j _) (by simp [World.setCell]) (H.out.2.2.2.2.set_ HJ.out 1) _)⟩
    case round =>
      obtain ⟨q, hq, rfl, hb⟩ := hrel
      have Hq := hid hq
      have x6 : wr.cell? ⟨w.heap.size, 6, none⟩ = some (.slice A us.length c) := hb.out.2.2.cell 6
      by_cases hlt : q < us.length
      · have hlt' : (q : Int) < us.length := by omega
        have hkeep : ∀ b, S b → b < w.heap.size → wr.heap[b]? = w.heap[b]? ∧ S b := fun b hb' hl => ⟨hb.out.2.1.block b hl (fun e => H.out.2.2.1 b hb' (by injection e)), hb'⟩
        obtain ⟨ad, k2, x2, y2, n2, i2, T2, tl2, tc2, A2, m2', c2, rfl, hSb, hab, ⟨y0, y1, y2', y3, y4, y5, y6⟩, hel⟩ := (CRow.keep hkeep _ _ _ H.out.2.1).elem hlt
        have Q := hid (And.intro hel (List.getElem_mem hlt))
        obtain ⟨f9, hf9⟩ := hb.out.1
        have HF := hid hf9
        clear hq hel hSb hab hkeep hf9
        generalize us[q] = t at Q
        go_wp2_with (go_at_call 16; go_must (refine (H.out.2.2.2.1 t Q.out.2 _ S f9 _ Q.out.1 H.out.2.2.1 HF.out).mono ?_); rintro e w1 hE; go_must (obtain ⟨rfl, hE2⟩ := hE; have R := hid hE2; clear hE2))
        have hgk := Hq.out
        go_roundg (gk - 1)
        case rel => exact ⟨q + 1, by omega, by go_num, hid (hb.out.call (e := .returned (.tuple #[])) ⟨rfl, R.out⟩ hgne)⟩
        case measure => omega
      · obtain rfl : q = us.length := by omega
        clear hq
        go_wp2
        first | go_end0 | refine bodyPost_end (results_none rfl _ _ _) rfl ?_ | refine bodyPost_ret (results_none rfl _ _ _) rfl ?_
        exact ⟨rfl, hb.out.1, hb.out.2.1⟩
  · go_enter Try.func16, Try.ntmps16
    go_wp2
    go_loopg [4] us.length (fun gg z wr => ∃ (q0 : Nat), q0 + gg = us.length ∧ z = .int .i64 q0 ∧ Hid (BSt w g #[.int .i64 k, .int .i64 (i : Int), .int .i64 y, .int .i64 m, .bool b, .slice T ts.length tc, .slice A us.length c] wr))
    case atStart =>
      exact ⟨0, by omega, rfl, hid (BSt.start (set_grown _ _ i _) (by simp [World.setCell]) (H.out.2.2.2.2.set_ HI.out 1) _)⟩
    case round =>
      obtain ⟨q, hq, rfl, hb⟩ := hrel
      have Hq := hid hq
      have x6 : wr.cell? ⟨w.heap.size, 6, none⟩ = some (.slice A us.length c) := hb.out.2.2.cell 6
      by_cases hlt : q < us.length
      · have hlt' : (q : Int) < us.length := by omega
        have hkeep : ∀ b, S b → b < w.heap.size → wr.heap[b]? = w.heap[b]? ∧ S b := fun b hb' hl => ⟨hb.out.2.1.block b hl (fun e => H.out.2.2.1 b hb' (by injection e)), hb'⟩
        obtain ⟨ad, k2, x2, y2, n2, i2, T2, tl2, tc2, A2, m2', c2, rfl, hSb, hab, ⟨y0, y1, y2', y3, y4, y5, y6⟩, hel⟩ := (CRow.keep hkeep _ _ _ H.out.2.1).elem hlt
        have Q := hid (And.intro hel (List.getElem_mem hlt))
        obtain ⟨f9, hf9⟩ := hb.out.1
        have HF := hid hf9
        clear hq hel hSb hab hkeep hf9
        generalize us[q] = t at Q
        go_wp2_with (go_at_call 16; go_must (refine (H.out.2.2.2.1 t Q.out.2 _ S f9 _ Q.out.1 H.out.2.2.1 HF.out).mono ?_); rintro e w1 hE; go_must (obtain ⟨rfl, hE2⟩ := hE; have R := hid hE2; clear hE2))
        have hgk := Hq.out
        go_roundg (gk - 1)
        case rel => exact ⟨q + 1, by omega, by go_num, hid (hb.out.call (e := .returned (.tuple #[])) ⟨rfl, R.out⟩ hgne)⟩
        case measure => omega
      · obtain rfl : q = us.length := by omega
        clear hq
        go_wp2
        first | go_end0 | refine bodyPost_end (results_none rfl _ _ _) rfl ?_ | refine bodyPost_ret (results_none rfl _ _ _) rfl ?_
        exact ⟨rfl, hb.out.1, hb.out.2.1⟩
  · go_enter Try.func16, Try.ntmps16
    go_wp2
    go_loopg [4] us.length (fun gg z wr => ∃ (q0 : Nat), q0 + gg = us.length ∧ z = .int .i64 q0 ∧ Hid (BSt w g #[.int .i64 k, .int .i64 (i : Int), .int .i64 y, .int .i64 m, .bool b, .slice T ts.length tc, .slice A us.length c] wr))
    case atStart =>
      exact ⟨0, by omega, rfl, hid (BSt.start (set_grown _ _ i _) (by simp [World.setCell]) (H.out.2.2.2.2.set_ HI.out 1) _)⟩
    case round =>
      obtain ⟨q, hq, rfl, hb⟩ := hrel
      have Hq := hid hq
      have x6 : wr.cell? ⟨w.heap.size, 6, none⟩ = some (.slice A us.length c) := hb.out.2.2.cell 6
      by_cases hlt : q < us.length
      · have hlt' : (q : Int) < us.length := by omega
        have hkeep : ∀ b, S b → b < w.heap.size → wr.heap[b]? = w.heap[b]? ∧ S b := fun b hb' hl => ⟨hb.out.2.1.block b hl (fun e => H.out.2.2.1 b hb' (by injection e)), hb'⟩
        obtain ⟨ad, k2, x2, y2, n2, i2, T2, tl2, tc2, A2, m2', c2, rfl, hSb, hab, ⟨y0, y1, y2', y3, y4, y5, y6⟩, hel⟩ := (CRow.keep hkeep _ _ _ H.out.2.1).elem hlt
        have Q := hid (And.intro hel (List.getElem_mem hlt))
        obtain ⟨f9, hf9⟩ := hb.out.1
        have HF := hid hf9
        clear hq hel hSb hab hkeep hf9
        generalize us[q] = t at Q
        go_wp2_with (go_at_call 16; go_must (refine (H.out.2.2.2.1 t Q.out.2 _ S f9 _ Q.out.1 H.out.2.2.1 HF.out).mono ?_); rintro e w1 hE; go_must (obtain ⟨rfl, hE2⟩ := hE; have R := hid hE2; clear hE2))
        have hgk := Hq.out
        go_roundg (gk - 1)
        case rel => exact ⟨q + 1, by omega, by go_num, hid (hb.out.call (e := .returned (.tuple #[])) ⟨rfl, R.out⟩ hgne)⟩
        case measure => omega
      · obtain rfl : q = us.length := by omega
        clear hq
        go_wp2
        first | go_end0 | refine bodyPost_end (results_none rfl _ _ _) rfl ?_ | refine bodyPost_ret (results_none rfl _ _ _) rfl ?_
        exact ⟨rfl, hb.out.1, hb.out.2.1⟩
  · go_enter Try.func16, Try.ntmps16
    go_wp2
    go_loopg [4] us.length (fun gg z wr => ∃ (q0 : Nat), q0 + gg = us.length ∧ z = .int .i64 q0 ∧ Hid (BSt w g #[.int .i64 k, .int .i64 (i : Int), .int .i64 (j : Int), .int .i64 m, .bool b, .slice T ts.length tc, .slice A us.length c] wr))
    case atStart =>
      exact ⟨0, by omega, rfl, hid (BSt.start ((set_grown _ _ i _).trans (set_grown _ _ j _)) (by simp [World.setCell]) ((H.out.2.2.2.2.set_ HI.out 1).set_ HJ.out 1) _)⟩
    case round =>
      obtain ⟨q, hq, rfl, hb⟩ := hrel
      have Hq := hid hq
      have x6 : wr.cell? ⟨w.heap.size, 6, none⟩ = some (.slice A us.length c) := hb.out.2.2.cell 6
      by_cases hlt : q < us.length
      · have hlt' : (q : Int) < us.length := by omega
        have hkeep : ∀ b, S b → b < w.heap.size → wr.heap[b]? = w.heap[b]? ∧ S b := fun b hb' hl => ⟨hb.out.2.1.block b hl (fun e => H.out.2.2.1 b hb' (by injection e)), hb'⟩
        obtain ⟨ad, k2, x2, y2, n2, i2, T2, tl2, tc2, A2, m2', c2, rfl, hSb, hab, ⟨y0, y1, y2', y3, y4, y5, y6⟩, hel⟩ := (CRow.keep hkeep _ _ _ H.out.2.1).elem hlt
        have Q := hid (And.intro hel (List.getElem_mem hlt))
        obtain ⟨f9, hf9⟩ := hb.out.1
        have HF := hid hf9
        clear hq hel hSb hab hkeep hf9
        generalize us[q] = t at Q
        go_wp2_with (go_at_call 16; go_must (refine (H.out.2.2.2.1 t Q.out.2 _ S f9 _ Q.out.1 H.out.2.2.1 HF.out).mono ?_); rintro e w1 hE; go_must (obtain ⟨rfl, hE2⟩ := hE; have R := hid hE2; clear hE2))
        have hgk := Hq.out
        go_roundg (gk - 1)
        case rel => exact ⟨q + 1, by omega, by go_num, hid (hb.out.call (e := .returned (.tuple #[])) ⟨rfl, R.out⟩ hgne)⟩
        case measure => omega
      · obtain rfl : q = us.length := by omega
        clear hq
        go_wp2
        first | go_end0 | refine bodyPost_end (results_none rfl _ _ _) rfl ?_ | refine bodyPost_ret (results_none rfl _ _ _) rfl ?_
        exact ⟨rfl, hb.out.1, hb.out.2.1⟩
theorem law21_binders : ∀ (n : Nat) (t : Co), SizeOf.sizeOf t ≤ n → ∀ (v : Value) (S : Nat → Prop) (g N : Nat) (f : Int → Int) (w : World), N = 65537 → CAt w S t v → (∀ b, S b → b ≠ g) → BRow w g f → Calls Try.prog 16 #[v, .slice (some ⟨g, 0, none⟩) N N] w (BinP g w) := by
  intro n
  induction n with
  | zero => intro t ht; cases t; simp at ht
  | succ n ih =>
  intro t ht v S g N f w hN hv hS hB
  obtain ⟨k, x, y, m, b, ts, us⟩ := t
  obtain ⟨T, tc, A, c, rfl, _, hc, hrow, _⟩ := hv.parts
  exact binders_node k x y m b T A tc ts us c S g N hN f w hc.2.2.2 hrow hS hB (fun t hm v S f w hv hS hB => ih t (by have := co_lt (k := k) (x := x) (y := y) (n := m) (i := b) (ts := ts) hm; omega) v S g N f w hN hv hS hB)
end Go.Proofs.Ytohdaclbgedeiaa
/-
  THE WALK OF athanorref20.shapes.
-/
namespace Go.Proofs.Ytohdaclbgedeiaa
set_option linter.all false
open Go.ChangeShapes Go.WideShapes Go.ChangeAt Go.RowKit
open Ev (Co nodes nodesL updI formB bindL addM)
mutual
theorem Z01.binds : ∀ {t : Co} {f g : Int → Int}, Z01 f → bindsM t f = some g → Z01 g
  | .mk k x y n i ts us, f, g, h, e => by
    rw [bindsM] at e
    by_cases h1 : formB k x y n i ts us.length = false
    · rw [if_pos h1] at e; cases e
    · rw [if_neg h1] at e
      cases h2 : addM (bindL k x y) f with
      | none => rw [h2] at e; cases e
      | some g2 => rw [h2] at e; exact Z01.bindsL (h.add h2) e
theorem Z01.bindsL : ∀ {us : List Co} {f g : Int → Int}, Z01 f → bindsML us f = some g → Z01 g
  | [], f, g, h, e => by rw [bindsML] at e; injection e with e; subst e; exact h
  | t :: us, f, g, h, e => by
    rw [bindsML] at e
    cases h2 : bindsM t f with
    | none => rw [h2] at e; cases e
    | some g2 => rw [h2] at e; exact Z01.bindsL (Z01.binds h h2) e
end
theorem IAt.up {w w' : World} {S : Nat → Prop} {ts : List Int} {A : Option Addr} {c : Nat} (h : IAt w S ts A c) (hb : Below w.heap.size w w') : IAt w' S ts A c := h.keep (fun k hk hl => ⟨hb.block k hl, hk⟩)
/-- It says yes only of what binds each number once; it writes the row alone. -/
def ShaQ (P : Option (Int → Int)) (g : Nat) (w : World) (e : Ending) (w' : World) : Prop := ∃ b : Bool, e = .returned (.bool b) ∧ (b = true → ∃ f', P = some f' ∧ BRow w' g f') ∧ w.grownBy w' (some g)
theorem sha_no {P : Option (Int → Int)} {g : Nat} {w w' : World} {b : Bool} (hb : b = false) (h : w.grownBy w' (some g)) : ShaQ P g w (.returned (.bool b)) w' := ⟨b, rfl, fun h2 => (by rw [hb] at h2; cases h2), h⟩
theorem sha_yes {P : Option (Int → Int)} {g : Nat} {w w' : World} {b : Bool} {f : Int → Int} (h1 : P = some f) (h2 : BRow w' g f) (h : w.grownBy w' (some g)) : ShaQ P g w (.returned (.bool b)) w' := ⟨b, rfl, fun _ => ⟨f, h1, h2⟩, h⟩
/-- The state within the loops. -/
structure ShSt (w : World) (g : Nat) (cs : Array Value) (f : Int → Int) (wr : World) : Prop where
  row : BRow wr g f
  z01 : Z01 f
  gr : w.grownBy wr (some g)
  bx : Blk wr w.heap.size 25 cs
theorem grow_low {w w' : World} (h : Below w.heap.size w w') (row : Option Nat) : w.grownBy w' row := ⟨h.os, h.tape, h.output, h.size, fun i hi _ => h.block i hi⟩
theorem ShSt.start {w w1 : World} {g : Nat} {f : Int → Int} {cs : Array Value} (h : BRow w g f) (hz : Z01 f) (hb : Below (w.alloc (.cells cs 25)).heap.size (w.alloc (.cells cs 25)) w1) : ShSt w g cs f w1 :=
  ⟨(h.up (al1 _ _)).up hb, hz, (World.grownBy_alloc _ _ _).trans (grow_low hb _), (Blk.new _ _ _).below hb (by simp)⟩
theorem ShSt.up {w wr w1 : World} {g : Nat} {f : Int → Int} {cs : Array Value} (h : ShSt w g cs f wr) (hb : Below wr.heap.size wr w1) : ShSt w g cs f w1 := ⟨h.row.up hb, h.z01, h.gr.trans (grow_low hb _), h.bx.below hb h.bx.lt⟩
theorem ShSt.set_ {w wr : World} {g i : Nat} {f : Int → Int} {cs : Array Value} (h : ShSt w g cs f wr) (hi : i < 65537) (hf : ¬ 0 < f i) (hne : w.heap.size ≠ g) : ShSt w g cs (updI f i (f i + 1)) (wr.setCell ⟨g, i, none⟩ (.int .i64 1)) := by
  have h0 : f i = 0 := by have := h.z01 i; omega
  refine ⟨by rw [h0]; exact h.row.set_ hi 1, fun x => ?_, h.gr.trans (set_grown _ _ _ _), h.bx.far (p := ⟨g, i, none⟩) hne _⟩
  unfold updI
  have := h.z01 x
  split
  · omega
  · exact this
theorem ShSt.call {w wr w1 : World} {g : Nat} {f f1 : Int → Int} {cs : Array Value} (h : ShSt w g cs f wr) (hg : wr.grownBy w1 (some g)) (hb : BRow w1 g f1) (hz : Z01 f1) (hne : w.heap.size ≠ g) : ShSt w g cs f1 w1 :=
  ⟨hb, hz, h.gr.trans hg, h.bx.grown hg (fun e => hne (by injection e))⟩
theorem add_one {x : Int} {f : Int → Int} (h1 : 1 ≤ x) (h2 : x ≤ 65536) (h3 : ¬ 0 < f x) : addM [x] f = some (updI f x (f x + 1)) := by
  rw [addM, if_neg (by omega), addM]
theorem binds_eq {k x y n : Int} {i : Bool} {ts : List Int} {us : List Co} {f g : Int → Int} (h : formB k x y n i ts us.length = true) (ha : addM (bindL k x y) f = some g) : bindsM (.mk k x y n i ts us) f = bindsML us g := by
  rw [bindsM, if_neg (by rw [h]; decide), ha]
def ShH (us : List Co) (g N : Nat) : Prop := ∀ t ∈ us, ∀ (v : Value) (S : Nat → Prop) (f : Int → Int) (w : World), CAt w S t v → (∀ b, S b → b ≠ g) → BRow w g f → Z01 f → Calls Try.prog 27 #[v, .slice (some ⟨g, 0, none⟩) N N] w (ShaQ (bindsM t f) g w)
set_option maxHeartbeats 8000000 in
set_option maxRecDepth 100000 in
theorem shapes_no (k x y m : Int) (b : Bool) (T A : Option Addr) (tc : Nat) (ts : List Int) (us : List Co) (c : Nat) (S : Nat → Prop) (g N : Nat) (P : Option (Int → Int)) (w : World) (hl : us.length ≤ 17592186044416) (hI : IAt w S ts T tc) (hno : ¬ ShapeIs k x y m b ts us.length) :
    Calls Try.prog 27 #[.agg #[.int .i64 k, .int .i64 x, .int .i64 y, .int .i64 m, .bool b, .slice T ts.length tc, .slice A us.length c], .slice (some ⟨g, 0, none⟩) N N] w (ShaQ P g w) := by
  have HI := hid hI
  have HL := hid hl
  have HN := hid hno
  clear hI hl hno
  go_enter Try.func27, Try.ntmps27
  go_wp2_with (go_at_call 38; (refine (ref20_shape _ x y m b T A tc ts us.length c S _ (HI.out.up (al1 _ _)) HL.out).mono ?_); rintro e w1 ⟨⟨r, rfl, hr⟩, b1⟩; obtain rfl : r = false := (by cases r; rfl; exact absurd (hr rfl) HN.out); have HG := hid b1; clear hr b1)
  go_ret
  exact sha_no rfl ((World.grownBy_alloc _ _ _).trans (grow_low HG.out _))
set_option maxHeartbeats 8000000 in
set_option maxRecDepth 100000 in
theorem shapes_rest (k x y m : Int) (b : Bool) (T A : Option Addr) (tc : Nat) (ts : List Int) (us : List Co) (c : Nat) (S : Nat → Prop) (g N : Nat) (P : Option (Int → Int)) (f : Int → Int) (w : World) (hl : us.length ≤ 17592186044416) (hI : IAt w S ts T tc) (hrow : CRow w S us A 0) (hS : ∀ b, S b → b ≠ g) (hB : BRow w g f) (hZ : Z01 f) (hN : N = 65537)
    (k3 : (k == 3) = false) (k5 : (k == 5) = false) (k6 : (k == 6) = false) (hP : P = bindsML us f) (ih : ShH us g N) :
    Calls Try.prog 27 #[.agg #[.int .i64 k, .int .i64 x, .int .i64 y, .int .i64 m, .bool b, .slice T ts.length tc, .slice A us.length c], .slice (some ⟨g, 0, none⟩) N N] w (ShaQ P g w) := by
  have HI := hid hI
  have HL := hid hl
  have HB := hid hB
  have HZ := hid hZ
  have HS := hid hS
  have HR := hid hrow
  have IH := hid ih
  have HP := hid hP
  have HN := hid hN
  have hgl := hB.lt
  have hgne : ¬ w.heap.size = g := by omega
  have hgne2 : ¬ g = w.heap.size := by omega
  have hL : us.length ≤ 281474976710656 := by omega
  clear hI hl hB hZ hS hrow ih hP hN
  go_enter Try.func27, Try.ntmps27
  go_wp2_with (go_at_call 38; (refine (ref20_shape _ x y m b T A tc ts us.length c S _ (HI.out.up (al1 _ _)) HL.out).mono ?_); rintro e w1 ⟨⟨r, rfl, hr⟩, b1⟩; have HA := hid (ShSt.start HB.out HZ.out b1); clear hr b1; obtain ⟨x0, x1, x2, x3, x4, x5, x6⟩ := HA.out.bx.seven; have hl0 := HA.out.bx.lt)
  all_goals first
    | (go_ret; exact sha_no rfl HA.out.gr)
    | skip
  obtain rfl : r = true := by simpa using (by assumption : (!r) = false)
  go_loopg [6] 0 (fun gg z wr => gg = 0 ∧ z = .int .i64 0 ∧ Hid (ShSt w g #[.int .i64 k, .int .i64 x, .int .i64 y, .int .i64 m, .bool b, .slice T ts.length tc, .slice A us.length c] f wr))
  case atStart => exact ⟨rfl, rfl, HA⟩
  case round =>
    obtain ⟨rfl, rfl, hs⟩ := hrel
    have hl0 := hs.out.bx.lt
    go_wp2
    go_loopg [7] us.length (fun gg z wr => ∃ (q : Nat) (fq : Int → Int), q + gg = us.length ∧ z = .int .i64 q ∧ Hid (ShSt w g #[.int .i64 k, .int .i64 x, .int .i64 y, .int .i64 m, .bool b, .slice T ts.length tc, .slice A us.length c] fq wr) ∧ Hid (P = bindsML (us.drop q) fq))
    case atStart => exact ⟨0, f, by omega, rfl, hs, hid HP.out⟩
    case round =>
      obtain ⟨q, fq, hq, rfl, hb, hp⟩ := hrel
      have Hq := hid hq
      have x6 : wr.cell? ⟨w.heap.size, 6, none⟩ = some (.slice A us.length c) := hb.out.bx.cell 6
      by_cases hlt : q < us.length
      · have hlt' : (q : Int) < us.length := by omega
        have hkeep : ∀ b, S b → b < w.heap.size → wr.heap[b]? = w.heap[b]? ∧ S b := fun b hb' hl => ⟨hb.out.gr.block b hl (fun e => HS.out b hb' (by injection e)), hb'⟩
        obtain ⟨ad, k2, x2, y2, n2, i2, T2, tl2, tc2, A2, m2', c2, rfl, hSb, hab, ⟨y0, y1, y2', y3, y4, y5, y6⟩, hel⟩ := (CRow.keep hkeep _ _ _ HR.out).elem hlt
        have hp2 := hp.out
        rw [List.drop_eq_getElem_cons hlt, bindsML] at hp2
        have Q := hid (And.intro hel (And.intro (List.getElem_mem hlt) hp2))
        clear hq hel hSb hab hkeep hp2
        generalize us[q] = t at Q
        go_wp2_with (go_at_call 27; go_must (refine (IH.out t Q.out.2.1 _ S fq _ Q.out.1 HS.out hb.out.row hb.out.z01).mono ?_); rintro e w9 ⟨r, rfl, hr, hg9⟩; go_must (have R := hid (And.intro hr hg9); clear hr hg9))
        all_goals first
          | (go_ret; exact sha_no rfl (hb.out.gr.trans R.out.2))
          | skip
        have hgk := Hq.out
        obtain rfl : r = true := by simpa using (by assumption : (!r) = false)
        obtain ⟨f9, hf9, hB9⟩ := R.out.1 (by first | rfl | assumption)
        go_roundg (gk - 1)
        case rel => exact ⟨q + 1, f9, by omega, by go_num, hid (hb.out.call R.out.2 hB9 (hb.out.z01.binds hf9) hgne), hid (by have := Q.out.2.2; rw [hf9] at this; exact this)⟩
        case measure => omega
      · obtain rfl : q = us.length := by omega
        clear hq
        go_wp2
        go_ret
        exact sha_yes (by have := hp.out; rw [List.drop_length, bindsML] at this; exact this) hb.out.row hb.out.gr

set_option maxHeartbeats 8000000 in
set_option maxRecDepth 100000 in
theorem shapes_one3 (x y m : Int) (i : Nat) (b : Bool) (T A : Option Addr) (tc : Nat) (ts : List Int) (us : List Co) (c : Nat) (S : Nat → Prop) (g N : Nat) (P : Option (Int → Int)) (f : Int → Int) (w : World) (hx : x = (i : Int)) (hi1 : 0 < i) (hi2 : i < 65537) (hl : us.length ≤ 17592186044416) (hI : IAt w S ts T tc) (hrow : CRow w S us A 0) (hS : ∀ b, S b → b ≠ g) (hB : BRow w g f) (hZ : Z01 f) (hN : N = 65537)
    (hP : ¬ 0 < f i → P = bindsML us (updI f i (f i + 1))) (ih : ShH us g N) :
    Calls Try.prog 27 #[.agg #[.int .i64 3, .int .i64 x, .int .i64 y, .int .i64 m, .bool b, .slice T ts.length tc, .slice A us.length c], .slice (some ⟨g, 0, none⟩) N N] w (ShaQ P g w) := by
  subst hx
  have HI := hid hI
  have HL := hid hl
  have HB := hid hB
  have HZ := hid hZ
  have HS := hid hS
  have HR := hid hrow
  have IH := hid ih
  have HP := hid hP
  have HN := hid hN
  have hgl := hB.lt
  have hgne : ¬ w.heap.size = g := by omega
  have hgne2 : ¬ g = w.heap.size := by omega
  have hL : us.length ≤ 281474976710656 := by omega
  clear hI hl hB hZ hS hrow ih hP hN
  have i1 : (0 : Int) ≤ (i : Int) := by omega
  have i2 : (i : Int) < N := by have := HN.out; omega
  have i4 : i < N := by have := HN.out; omega
  have HI2 := hid hi2
  clear hi2
  go_enter Try.func27, Try.ntmps27
  go_wp2_with (go_at_call 38; (refine (ref20_shape _ i y m b T A tc ts us.length c S _ (HI.out.up (al1 _ _)) HL.out).mono ?_); rintro e w1 ⟨⟨r, rfl, hr⟩, b1⟩; have HA := hid (ShSt.start HB.out HZ.out b1); clear hr b1; obtain ⟨x0, x1, x2, x3, x4, x5, x6⟩ := HA.out.bx.seven; have hl0 := HA.out.bx.lt)
  all_goals first
    | (go_ret; exact sha_no rfl HA.out.gr)
    | skip
  obtain rfl : r = true := by simpa using (by assumption : (!r) = false)
  go_loopg [6] 1 (fun gg z wr => (gg = 1 ∧ z = .int .i64 0 ∧ Hid (ShSt w g #[.int .i64 3, .int .i64 i, .int .i64 y, .int .i64 m, .bool b, .slice T ts.length tc, .slice A us.length c] f wr ∧ Blk wr w1.heap.size 3 #[.int .i64 i])) ∨ (gg = 0 ∧ z = .int .i64 1 ∧ Hid (ShSt w g #[.int .i64 3, .int .i64 i, .int .i64 y, .int .i64 m, .bool b, .slice T ts.length tc, .slice A us.length c] (updI f i (f i + 1)) wr ∧ ¬ 0 < f i)))
  case atStart => exact .inl ⟨rfl, rfl, hid ⟨HA.out.up (al1 _ _), Blk.new _ _ _⟩⟩
  case round =>
    rcases hrel with ⟨rfl, rfl, hs⟩ | ⟨rfl, rfl, hs⟩
    · have l0 : wr.cell? ⟨w1.heap.size, 0, none⟩ = some (.int .i64 i) := hs.out.2.cell 0
      have c1 : wr.cell? ⟨g, i, none⟩ = some (.int .i64 (f i)) := hs.out.1.row.cell HI2.out
      have f1 : wr.frozen? ⟨g, i, none⟩ = false := hs.out.1.row.frozen i
      have g1 := hs.out.1.row.lt
      obtain ⟨u, hu⟩ : ∃ u, f i = u := ⟨_, rfl⟩
      rw [hu] at c1
      have HU := hid hu
      clear hu
      by_cases hz : 0 < u
      · go_wp2
        go_ret
        exact sha_no rfl hs.out.1.gr
      · have HZ9 := hid (show ¬ 0 < f i by rw [HU.out]; exact hz)
        go_wp2
        go_roundg 0
        case rel => exact .inr ⟨rfl, by go_num, hid ⟨hs.out.1.set_ HI2.out (by have := HZ9.out; omega) hgne, (by have := HZ9.out; omega)⟩⟩
        case measure => omega
    · have hl0 := hs.out.1.bx.lt
      have hz := hs.out.2
      have HP2 := hid (HP.out (by omega))
      clear hz
      go_wp2
      go_loopg [7] us.length (fun gg z wr => ∃ (q : Nat) (fq : Int → Int), q + gg = us.length ∧ z = .int .i64 q ∧ Hid (ShSt w g #[.int .i64 3, .int .i64 i, .int .i64 y, .int .i64 m, .bool b, .slice T ts.length tc, .slice A us.length c] fq wr) ∧ Hid (P = bindsML (us.drop q) fq))
      case atStart => exact ⟨0, _, by omega, rfl, hid hs.out.1, hid HP2.out⟩
      case round =>
        obtain ⟨q, fq, hq, rfl, hb, hp⟩ := hrel
        have Hq := hid hq
        have x6 : wr.cell? ⟨w.heap.size, 6, none⟩ = some (.slice A us.length c) := hb.out.bx.cell 6
        by_cases hlt : q < us.length
        · have hlt' : (q : Int) < us.length := by omega
          have hkeep : ∀ b, S b → b < w.heap.size → wr.heap[b]? = w.heap[b]? ∧ S b := fun b hb' hl => ⟨hb.out.gr.block b hl (fun e => HS.out b hb' (by injection e)), hb'⟩
          obtain ⟨ad, k2, x2, y2, n2, i2, T2, tl2, tc2, A2, m2', c2, rfl, hSb, hab, ⟨y0, y1, y2', y3, y4, y5, y6⟩, hel⟩ := (CRow.keep hkeep _ _ _ HR.out).elem hlt
          have hp2 := hp.out
          rw [List.drop_eq_getElem_cons hlt, bindsML] at hp2
          have Q := hid (And.intro hel (And.intro (List.getElem_mem hlt) hp2))
          clear hq hel hSb hab hkeep hp2
          generalize us[q] = t at Q
          go_wp2_with (go_at_call 27; go_must (refine (IH.out t Q.out.2.1 _ S fq _ Q.out.1 HS.out hb.out.row hb.out.z01).mono ?_); rintro e w9 ⟨r, rfl, hr, hg9⟩; go_must (have R := hid (And.intro hr hg9); clear hr hg9))
          all_goals first
            | (go_ret; exact sha_no rfl (hb.out.gr.trans R.out.2))
            | skip
          have hgk := Hq.out
          obtain rfl : r = true := by simpa using (by assumption : (!r) = false)
          obtain ⟨f9, hf9, hB9⟩ := R.out.1 (by first | rfl | assumption)
          go_roundg (gk - 1)
          case rel => exact ⟨q + 1, f9, by omega, by go_num, hid (hb.out.call R.out.2 hB9 (hb.out.z01.binds hf9) hgne), hid (by have := Q.out.2.2; rw [hf9] at this; exact this)⟩
          case measure => omega
        · obtain rfl : q = us.length := by omega
          clear hq
          go_wp2
          go_ret
          exact sha_yes (by have := hp.out; rw [List.drop_length, bindsML] at this; exact this) hb.out.row hb.out.gr

set_option maxHeartbeats 8000000 in
set_option maxRecDepth 100000 in
theorem shapes_one5 (x y m : Int) (i : Nat) (b : Bool) (T A : Option Addr) (tc : Nat) (ts : List Int) (us : List Co) (c : Nat) (S : Nat → Prop) (g N : Nat) (P : Option (Int → Int)) (f : Int → Int) (w : World) (hx : x = (i : Int)) (hi1 : 0 < i) (hi2 : i < 65537) (hl : us.length ≤ 17592186044416) (hI : IAt w S ts T tc) (hrow : CRow w S us A 0) (hS : ∀ b, S b → b ≠ g) (hB : BRow w g f) (hZ : Z01 f) (hN : N = 65537)
    (hP : ¬ 0 < f i → P = bindsML us (updI f i (f i + 1))) (ih : ShH us g N) :
    Calls Try.prog 27 #[.agg #[.int .i64 5, .int .i64 x, .int .i64 y, .int .i64 m, .bool b, .slice T ts.length tc, .slice A us.length c], .slice (some ⟨g, 0, none⟩) N N] w (ShaQ P g w) := by
  subst hx
  have HI := hid hI
  have HL := hid hl
  have HB := hid hB
  have HZ := hid hZ
  have HS := hid hS
  have HR := hid hrow
  have IH := hid ih
  have HP := hid hP
  have HN := hid hN
  have hgl := hB.lt
  have hgne : ¬ w.heap.size = g := by omega
  have hgne2 : ¬ g = w.heap.size := by omega
  have hL : us.length ≤ 281474976710656 := by omega
  clear hI hl hB hZ hS hrow ih hP hN
  have i1 : (0 : Int) ≤ (i : Int) := by omega
  have i2 : (i : Int) < N := by have := HN.out; omega
  have i4 : i < N := by have := HN.out; omega
  have HI2 := hid hi2
  clear hi2
  go_enter Try.func27, Try.ntmps27
  go_wp2_with (go_at_call 38; (refine (ref20_shape _ i y m b T A tc ts us.length c S _ (HI.out.up (al1 _ _)) HL.out).mono ?_); rintro e w1 ⟨⟨r, rfl, hr⟩, b1⟩; have HA := hid (ShSt.start HB.out HZ.out b1); clear hr b1; obtain ⟨x0, x1, x2, x3, x4, x5, x6⟩ := HA.out.bx.seven; have hl0 := HA.out.bx.lt)
  all_goals first
    | (go_ret; exact sha_no rfl HA.out.gr)
    | skip
  obtain rfl : r = true := by simpa using (by assumption : (!r) = false)
  go_loopg [6] 1 (fun gg z wr => (gg = 1 ∧ z = .int .i64 0 ∧ Hid (ShSt w g #[.int .i64 5, .int .i64 i, .int .i64 y, .int .i64 m, .bool b, .slice T ts.length tc, .slice A us.length c] f wr ∧ Blk wr w1.heap.size 3 #[.int .i64 i])) ∨ (gg = 0 ∧ z = .int .i64 1 ∧ Hid (ShSt w g #[.int .i64 5, .int .i64 i, .int .i64 y, .int .i64 m, .bool b, .slice T ts.length tc, .slice A us.length c] (updI f i (f i + 1)) wr ∧ ¬ 0 < f i)))
  case atStart => exact .inl ⟨rfl, rfl, hid ⟨HA.out.up (al1 _ _), Blk.new _ _ _⟩⟩
  case round =>
    rcases hrel with ⟨rfl, rfl, hs⟩ | ⟨rfl, rfl, hs⟩
    · have l0 : wr.cell? ⟨w1.heap.size, 0, none⟩ = some (.int .i64 i) := hs.out.2.cell 0
      have c1 : wr.cell? ⟨g, i, none⟩ = some (.int .i64 (f i)) := hs.out.1.row.cell HI2.out
      have f1 : wr.frozen? ⟨g, i, none⟩ = false := hs.out.1.row.frozen i
      have g1 := hs.out.1.row.lt
      obtain ⟨u, hu⟩ : ∃ u, f i = u := ⟨_, rfl⟩
      rw [hu] at c1
      have HU := hid hu
      clear hu
      by_cases hz : 0 < u
      · go_wp2
        go_ret
        exact sha_no rfl hs.out.1.gr
      · have HZ9 := hid (show ¬ 0 < f i by rw [HU.out]; exact hz)
        go_wp2
        go_roundg 0
        case rel => exact .inr ⟨rfl, by go_num, hid ⟨hs.out.1.set_ HI2.out (by have := HZ9.out; omega) hgne, (by have := HZ9.out; omega)⟩⟩
        case measure => omega
    · have hl0 := hs.out.1.bx.lt
      have hz := hs.out.2
      have HP2 := hid (HP.out (by omega))
      clear hz
      go_wp2
      go_loopg [7] us.length (fun gg z wr => ∃ (q : Nat) (fq : Int → Int), q + gg = us.length ∧ z = .int .i64 q ∧ Hid (ShSt w g #[.int .i64 5, .int .i64 i, .int .i64 y, .int .i64 m, .bool b, .slice T ts.length tc, .slice A us.length c] fq wr) ∧ Hid (P = bindsML (us.drop q) fq))
      case atStart => exact ⟨0, _, by omega, rfl, hid hs.out.1, hid HP2.out⟩
      case round =>
        obtain ⟨q, fq, hq, rfl, hb, hp⟩ := hrel
        have Hq := hid hq
        have x6 : wr.cell? ⟨w.heap.size, 6, none⟩ = some (.slice A us.length c) := hb.out.bx.cell 6
        by_cases hlt : q < us.length
        · have hlt' : (q : Int) < us.length := by omega
          have hkeep : ∀ b, S b → b < w.heap.size → wr.heap[b]? = w.heap[b]? ∧ S b := fun b hb' hl => ⟨hb.out.gr.block b hl (fun e => HS.out b hb' (by injection e)), hb'⟩
          obtain ⟨ad, k2, x2, y2, n2, i2, T2, tl2, tc2, A2, m2', c2, rfl, hSb, hab, ⟨y0, y1, y2', y3, y4, y5, y6⟩, hel⟩ := (CRow.keep hkeep _ _ _ HR.out).elem hlt
          have hp2 := hp.out
          rw [List.drop_eq_getElem_cons hlt, bindsML] at hp2
          have Q := hid (And.intro hel (And.intro (List.getElem_mem hlt) hp2))
          clear hq hel hSb hab hkeep hp2
          generalize us[q] = t at Q
          go_wp2_with (go_at_call 27; go_must (refine (IH.out t Q.out.2.1 _ S fq _ Q.out.1 HS.out hb.out.row hb.out.z01).mono ?_); rintro e w9 ⟨r, rfl, hr, hg9⟩; go_must (have R := hid (And.intro hr hg9); clear hr hg9))
          all_goals first
            | (go_ret; exact sha_no rfl (hb.out.gr.trans R.out.2))
            | skip
          have hgk := Hq.out
          obtain rfl : r = true := by simpa using (by assumption : (!r) = false)
          obtain ⟨f9, hf9, hB9⟩ := R.out.1 (by first | rfl | assumption)
          go_roundg (gk - 1)
          case rel => exact ⟨q + 1, f9, by omega, by go_num, hid (hb.out.call R.out.2 hB9 (hb.out.z01.binds hf9) hgne), hid (by have := Q.out.2.2; rw [hf9] at this; exact this)⟩
          case measure => omega
        · obtain rfl : q = us.length := by omega
          clear hq
          go_wp2
          go_ret
          exact sha_yes (by have := hp.out; rw [List.drop_length, bindsML] at this; exact this) hb.out.row hb.out.gr

set_option maxHeartbeats 8000000 in
set_option maxRecDepth 100000 in
theorem shapes_two (x y m : Int) (i j : Nat) (b : Bool) (T A : Option Addr) (tc : Nat) (ts : List Int) (us : List Co) (c : Nat) (S : Nat → Prop) (g N : Nat) (P : Option (Int → Int)) (f : Int → Int) (w : World) (hx : x = (i : Int)) (hy : y = (j : Int)) (hi1 : 0 < i) (hi2 : i < 65537) (hj1 : 0 < j) (hj2 : j < 65537) (hl : us.length ≤ 17592186044416) (hI : IAt w S ts T tc) (hrow : CRow w S us A 0) (hS : ∀ b, S b → b ≠ g) (hB : BRow w g f) (hZ : Z01 f) (hN : N = 65537)
    (hP : ¬ 0 < f i → ¬ 0 < (updI f i (f i + 1)) j → P = bindsML us (updI (updI f i (f i + 1)) j ((updI f i (f i + 1)) j + 1))) (ih : ShH us g N) :
    Calls Try.prog 27 #[.agg #[.int .i64 6, .int .i64 x, .int .i64 y, .int .i64 m, .bool b, .slice T ts.length tc, .slice A us.length c], .slice (some ⟨g, 0, none⟩) N N] w (ShaQ P g w) := by
  subst hx hy
  have HI := hid hI
  have HL := hid hl
  have HB := hid hB
  have HZ := hid hZ
  have HS := hid hS
  have HR := hid hrow
  have IH := hid ih
  have HP := hid hP
  have HN := hid hN
  have hgl := hB.lt
  have hgne : ¬ w.heap.size = g := by omega
  have hgne2 : ¬ g = w.heap.size := by omega
  have hL : us.length ≤ 281474976710656 := by omega
  clear hI hl hB hZ hS hrow ih hP hN
  have i1 : (0 : Int) ≤ (i : Int) := by omega
  have i2 : (i : Int) < N := by have := HN.out; omega
  have i4 : i < N := by have := HN.out; omega
  have j1 : (0 : Int) ≤ (j : Int) := by omega
  have j2 : (j : Int) < N := by have := HN.out; omega
  have j4 : j < N := by have := HN.out; omega
  have HI2 := hid hi2
  have HJ2 := hid hj2
  clear hi2 hj2
  go_enter Try.func27, Try.ntmps27
  go_wp2_with (go_at_call 38; (refine (ref20_shape _ i j m b T A tc ts us.length c S _ (HI.out.up (al1 _ _)) HL.out).mono ?_); rintro e w1 ⟨⟨r, rfl, hr⟩, b1⟩; have HA := hid (ShSt.start HB.out HZ.out b1); clear hr b1; obtain ⟨x0, x1, x2, x3, x4, x5, x6⟩ := HA.out.bx.seven; have hl0 := HA.out.bx.lt)
  all_goals first
    | (go_ret; exact sha_no rfl HA.out.gr)
    | skip
  obtain rfl : r = true := by simpa using (by assumption : (!r) = false)
  go_loopg [6] 2 (fun gg z wr => (gg = 2 ∧ z = .int .i64 0 ∧ Hid (ShSt w g #[.int .i64 6, .int .i64 i, .int .i64 j, .int .i64 m, .bool b, .slice T ts.length tc, .slice A us.length c] f wr ∧ Blk wr (w1.heap.size + 1) 3 #[.int .i64 i, .int .i64 j])) ∨ (gg = 1 ∧ z = .int .i64 1 ∧ Hid (ShSt w g #[.int .i64 6, .int .i64 i, .int .i64 j, .int .i64 m, .bool b, .slice T ts.length tc, .slice A us.length c] (updI f i (f i + 1)) wr ∧ Blk wr (w1.heap.size + 1) 3 #[.int .i64 i, .int .i64 j] ∧ ¬ 0 < f i)) ∨ (gg = 0 ∧ z = .int .i64 2 ∧ Hid (ShSt w g #[.int .i64 6, .int .i64 i, .int .i64 j, .int .i64 m, .bool b, .slice T ts.length tc, .slice A us.length c] (updI (updI f i (f i + 1)) j ((updI f i (f i + 1)) j + 1)) wr ∧ ¬ 0 < f i ∧ ¬ 0 < (updI f i (f i + 1)) j)))
  case atStart => exact .inl ⟨rfl, rfl, hid ⟨(HA.out.up (al1 _ _)).up (al1 _ _), Blk.new' (by simp) _ _⟩⟩
  case round =>
    rcases hrel with ⟨rfl, rfl, hs⟩ | ⟨rfl, rfl, hs⟩ | ⟨rfl, rfl, hs⟩
    · have l0 : wr.cell? ⟨w1.heap.size + 1, 0, none⟩ = some (.int .i64 i) := hs.out.2.cell 0
      have c1 : wr.cell? ⟨g, i, none⟩ = some (.int .i64 (f i)) := hs.out.1.row.cell HI2.out
      have f1 : wr.frozen? ⟨g, i, none⟩ = false := hs.out.1.row.frozen i
      have g1 := hs.out.1.row.lt
      obtain ⟨u, hu⟩ : ∃ u, f i = u := ⟨_, rfl⟩
      rw [hu] at c1
      have HU := hid hu
      clear hu
      by_cases hz : 0 < u
      · go_wp2
        go_ret
        exact sha_no rfl hs.out.1.gr
      · have HZ9 := hid (show ¬ 0 < f i by rw [HU.out]; exact hz)
        have hw1 := HA.out.row.lt
        go_wp2
        go_roundg 1
        case rel => exact .inr (.inl ⟨rfl, by go_num, hid ⟨hs.out.1.set_ HI2.out (by have := HZ9.out; omega) hgne, hs.out.2.far (p := ⟨g, i, none⟩) (by dsimp only; omega) _, (by have := HZ9.out; omega)⟩⟩)
        case measure => omega
    · have l0 : wr.cell? ⟨w1.heap.size + 1, 1, none⟩ = some (.int .i64 j) := hs.out.2.1.cell 1
      have c1 : wr.cell? ⟨g, j, none⟩ = some (.int .i64 ((updI f i (f i + 1)) j)) := hs.out.1.row.cell HJ2.out
      have f1 : wr.frozen? ⟨g, j, none⟩ = false := hs.out.1.row.frozen j
      have g1 := hs.out.1.row.lt
      obtain ⟨u, hu⟩ : ∃ u, (updI f i (f i + 1)) j = u := ⟨_, rfl⟩
      rw [hu] at c1
      have HU := hid hu
      clear hu
      by_cases hz : 0 < u
      · go_wp2
        go_ret
        exact sha_no rfl hs.out.1.gr
      · have HZ9 := hid (show ¬ 0 < (updI f i (f i + 1)) j by rw [HU.out]; exact hz)
        go_wp2
        go_roundg 0
        case rel => exact .inr (.inr ⟨rfl, by go_num, hid ⟨hs.out.1.set_ HJ2.out (by have := HZ9.out; omega) hgne, hs.out.2.2, (by have := HZ9.out; omega)⟩⟩)
        case measure => omega
    · have hl0 := hs.out.1.bx.lt
      have HP2 := hid (HP.out (by have := hs.out.2.1; omega) (by have := hs.out.2.2; omega))
      go_wp2
      go_loopg [7] us.length (fun gg z wr => ∃ (q : Nat) (fq : Int → Int), q + gg = us.length ∧ z = .int .i64 q ∧ Hid (ShSt w g #[.int .i64 6, .int .i64 i, .int .i64 j, .int .i64 m, .bool b, .slice T ts.length tc, .slice A us.length c] fq wr) ∧ Hid (P = bindsML (us.drop q) fq))
      case atStart => exact ⟨0, _, by omega, rfl, hid hs.out.1, hid HP2.out⟩
      case round =>
        obtain ⟨q, fq, hq, rfl, hb, hp⟩ := hrel
        have Hq := hid hq
        have x6 : wr.cell? ⟨w.heap.size, 6, none⟩ = some (.slice A us.length c) := hb.out.bx.cell 6
        by_cases hlt : q < us.length
        · have hlt' : (q : Int) < us.length := by omega
          have hkeep : ∀ b, S b → b < w.heap.size → wr.heap[b]? = w.heap[b]? ∧ S b := fun b hb' hl => ⟨hb.out.gr.block b hl (fun e => HS.out b hb' (by injection e)), hb'⟩
          obtain ⟨ad, k2, x2, y2, n2, i2, T2, tl2, tc2, A2, m2', c2, rfl, hSb, hab, ⟨y0, y1, y2', y3, y4, y5, y6⟩, hel⟩ := (CRow.keep hkeep _ _ _ HR.out).elem hlt
          have hp2 := hp.out
          rw [List.drop_eq_getElem_cons hlt, bindsML] at hp2
          have Q := hid (And.intro hel (And.intro (List.getElem_mem hlt) hp2))
          clear hq hel hSb hab hkeep hp2
          generalize us[q] = t at Q
          go_wp2_with (go_at_call 27; go_must (refine (IH.out t Q.out.2.1 _ S fq _ Q.out.1 HS.out hb.out.row hb.out.z01).mono ?_); rintro e w9 ⟨r, rfl, hr, hg9⟩; go_must (have R := hid (And.intro hr hg9); clear hr hg9))
          all_goals first
            | (go_ret; exact sha_no rfl (hb.out.gr.trans R.out.2))
            | skip
          have hgk := Hq.out
          obtain rfl : r = true := by simpa using (by assumption : (!r) = false)
          obtain ⟨f9, hf9, hB9⟩ := R.out.1 (by first | rfl | assumption)
          go_roundg (gk - 1)
          case rel => exact ⟨q + 1, f9, by omega, by go_num, hid (hb.out.call R.out.2 hB9 (hb.out.z01.binds hf9) hgne), hid (by have := Q.out.2.2; rw [hf9] at this; exact this)⟩
          case measure => omega
        · obtain rfl : q = us.length := by omega
          clear hq
          go_wp2
          go_ret
          exact sha_yes (by have := hp.out; rw [List.drop_length, bindsML] at this; exact this) hb.out.row hb.out.gr
theorem add_two {x y : Int} {f : Int → Int} (h1 : 1 ≤ x) (h2 : x ≤ 65536) (h3 : 1 ≤ y) (h4 : y ≤ 65536) (h5 : ¬ 0 < f x) (h6 : ¬ 0 < (updI f x (f x + 1)) y) : addM [x, y] f = some (updI (updI f x (f x + 1)) y ((updI f x (f x + 1)) y + 1)) := by
  rw [addM, if_neg (by omega), addM, if_neg (by omega), addM]
theorem nat_of {x : Int} (h1 : 1 ≤ x) (h2 : x ≤ 65536) : ∃ i : Nat, x = (i : Int) ∧ 0 < i ∧ i < 65537 := ⟨x.toNat, by omega, by omega, by omega⟩
theorem ref20_shapes : ∀ (n : Nat) (t : Co), SizeOf.sizeOf t ≤ n → ∀ (v : Value) (S : Nat → Prop) (g N : Nat) (f : Int → Int) (w : World), N = 65537 → CAt w S t v → (∀ b, S b → b ≠ g) → BRow w g f → Z01 f → Calls Try.prog 27 #[v, .slice (some ⟨g, 0, none⟩) N N] w (ShaQ (bindsM t f) g w) := by
  intro n
  induction n with
  | zero => intro t ht; cases t; simp at ht
  | succ n ih =>
  intro t ht v S g N f w hN hv hS hB hZ
  obtain ⟨k, x, y, m, b, ts, us⟩ := t
  obtain ⟨T, tc, A, c, rfl, hI, hc, hrow, _⟩ := hv.parts
  have IH : ShH us g N := fun t hm v S f w hv hS hB hZ => ih t (by have := co_lt (k := k) (x := x) (y := y) (n := m) (i := b) (ts := ts) hm; omega) v S g N f w hN hv hS hB hZ
  by_cases hno : ShapeIs k x y m b ts us.length
  case neg => exact shapes_no k x y m b T A tc ts us c S g N _ w hc.2.2.2 hI hno
  obtain ⟨hF, hL⟩ := hno
  by_cases k3 : k = 3
  · subst k3
    have hx := hL x (by simp [bindL])
    obtain ⟨i, rfl, h1, h2⟩ := nat_of hx.1 hx.2
    exact shapes_one3 _ y m i b T A tc ts us c S g N _ f w rfl h1 h2 hc.2.2.2 hI hrow hS hB hZ hN (fun h => binds_eq hF (add_one hx.1 hx.2 h)) IH
  by_cases k5 : k = 5
  · subst k5
    have hx := hL x (by simp [bindL])
    obtain ⟨i, rfl, h1, h2⟩ := nat_of hx.1 hx.2
    exact shapes_one5 _ y m i b T A tc ts us c S g N _ f w rfl h1 h2 hc.2.2.2 hI hrow hS hB hZ hN (fun h => binds_eq hF (add_one hx.1 hx.2 h)) IH
  by_cases k6 : k = 6
  · subst k6
    have hx := hL x (by simp [bindL])
    have hy := hL y (by simp [bindL])
    obtain ⟨i, rfl, h1, h2⟩ := nat_of hx.1 hx.2
    obtain ⟨j, rfl, h3, h4⟩ := nat_of hy.1 hy.2
    exact shapes_two _ _ m i j b T A tc ts us c S g N _ f w rfl rfl h1 h2 h3 h4 hc.2.2.2 hI hrow hS hB hZ hN (fun h h' => binds_eq hF (add_two hx.1 hx.2 hy.1 hy.2 h h')) IH
  exact shapes_rest k x y m b T A tc ts us c S g N _ f w hc.2.2.2 hI hrow hS hB hZ hN (by simpa using k3) (by simpa using k5) (by simpa using k6) (binds_eq hF (by simp [bindL, k3, k5, k6, addM])) IH
end Go.Proofs.Ytohdaclbgedeiaa
/-
  THE WALK OF athanorref20.Good: it says yes only of what may be a core expression.
-/
namespace Go.Proofs.Ytohdaclbgedeiaa
set_option linter.all false
open Go.ChangeShapes Go.WideShapes Go.ChangeAt Go.RowKit
open Ev (Co nodes nodesL goodB goodM closM)
/-- make([]int, 65537), its length a letter. -/
theorem mk_big : ∃ (N : Nat) (M : Array Value), N = 65537 ∧ M = madeCells #[.int .i64 0] N ∧ ∀ w : World, (Instr.makeSlice 22 (.int .i64 65537) (.int .i64 65537)).run Try.prog w = .ok (.slice (some ⟨w.heap.size, 0, none⟩) N N) (w.alloc (.cells M 3)) := by
  obtain ⟨N, hN⟩ : ∃ N : Nat, N = 65537 := ⟨_, rfl⟩
  refine ⟨N, _, hN, rfl, fun w => ?_⟩
  have h := run_make_row' 22 3 (.int .i64 0) 8 Try.underlying22 info_int rfl .i64 .i64 N (by omega) (by omega) w
  rw [show ((65537 : Int)) = ((N : Nat) : Int) by omega]
  exact h
theorem brow_made {w : World} {N : Nat} {M : Array Value} (hN : N = 65537) (hM : M = madeCells #[.int .i64 0] N) : BRow (w.alloc (.cells M 3)) w.heap.size (fun _ => 0) := by
  subst hM
  refine ⟨_, Blk.new _ _ _, by rw [size_madeCells]; simpa using hN, fun i hi => ?_⟩
  simp [madeCells, hN, hi, Nat.mod_one]
theorem z01_none : Z01 (fun _ => 0) := fun _ => ⟨Int.le_refl 0, Int.zero_le_ofNat 1⟩
/-- The handed-in expression's box. -/
structure GK (w : World) (core : Array Value) (wk : World) : Prop where
  bx : Blk wk w.heap.size 25 core
  bl : Below w.heap.size w wk
theorem GK.up {w wk wx : World} {core : Array Value} (h : GK w core wk) (hb : Below wk.heap.size wk wx) : GK w core wx := ⟨h.bx.below hb h.bx.lt, below_hop hb h.bl⟩
theorem GK.rowed {w wk wx : World} {core : Array Value} {o : Obj} (h : GK w core wk) (hg : (wk.alloc o).grownBy wx (some wk.heap.size)) : GK w core wx := by
  have hl := h.bx.lt
  have hs := h.bl.size
  refine ⟨(h.bx.alloc _).grown hg (fun e => by injection e with e; omega), (h.bl.alloc hs _).grown hg (by simp; omega) (fun k hk => by injection hk with hk; omega)⟩
theorem GK.start (w : World) (core : Array Value) : GK w core (w.alloc (.cells core 25)).drew := ⟨Blk.drew (Blk.new _ _ _), Below.drew (al1 _ _)⟩
theorem size_small (t : Co) (v : Value) (S : Nat → Prop) (w : World) (hb : nodes t ≤ 65536) (hv : CAt w S t v) : Calls Try.prog 15 #[v] w fun e w' => ∃ z : Int, z ≤ 65536 ∧ e = .returned (.int .i64 z) ∧ Below w.heap.size w w' :=
  (ref20_Size t v S w (by omega) hv).mono fun e w' h => ⟨sizeT t, by unfold sizeT; rw [if_pos hb]; omega, h.1, h.2⟩
theorem deep_1024 (t : Co) (v : Value) (S : Nat → Prop) (w : World) (hv : CAt w S t v) : Calls Try.prog 26 #[v, .int .i64 1024] w (LowP (lowM t 1024) w) := ref20_deep _ t (Nat.le_refl _) 1024 (by omega) v S w hv
theorem good_all {t : Co} {f : Int → Int} (h0 : nodes t ≤ 65536) (h1 : lowM t 1024) (h2 : bindsM t (fun _ => 0) = some f) (h3 : closM t (fun _ => 0) = true) : goodB t = true := by
  unfold goodB
  rw [decide_eq_true h0, good_of_binds h2 h1 (D := 1) (by omega), h3]
  rfl
set_option maxHeartbeats 8000000 in
set_option maxRecDepth 100000 in
theorem ref20_Good (t : Co) (v : Value) (S : Nat → Prop) (w : World) (hv : CAt w S t v) (hb : nodes t ≤ 65536) : Calls Try.prog 14 #[v] w (OnlyP (goodB t = true) w) := by
  have hv0 := hv.low
  obtain ⟨k, x, y, m, i, T, tl, tc, A, l, c, rfl⟩ := hv.agg
  have HV := hid hv0
  have HB := hid hb
  obtain ⟨N, M, hN, hM, hmk⟩ := mk_big
  have HN := hid (And.intro hN hM)
  have K0 := hid (GK.start w #[.int .i64 k, .int .i64 x, .int .i64 y, .int .i64 m, .bool i, .slice T tl tc, .slice A l c])
  obtain ⟨x0, x1, x2, x3, x4, x5, x6⟩ := (Blk.new w 25 #[.int .i64 k, .int .i64 x, .int .i64 y, .int .i64 m, .bool i, .slice T tl tc, .slice A l c]).seven
  clear hv hv0 hb hN hM
  go_enter Try.func14, Try.ntmps14
  go_wp2
  refine wp_region_held_drew (S := fun w' => (w').cell? ⟨w.heap.size, 0, none⟩ = some (.int .i64 k) ∧ (w').cell? ⟨w.heap.size, 1, none⟩ = some (.int .i64 x) ∧ (w').cell? ⟨w.heap.size, 2, none⟩ = some (.int .i64 y) ∧ (w').cell? ⟨w.heap.size, 3, none⟩ = some (.int .i64 m) ∧ (w').cell? ⟨w.heap.size, 4, none⟩ = some (.bool i) ∧ (w').cell? ⟨w.heap.size, 5, none⟩ = some (.slice T tl tc) ∧ (w').cell? ⟨w.heap.size, 6, none⟩ = some (.slice A l c)) (by kernel_rfl) K0.out.bx.seven (fun hHeld => ?_)
  refine take_d (some 3) (i := 0) (v := .agg #[.int .i64 k, .int .i64 x, .int .i64 y, .int .i64 m, .bool i, .slice T tl tc, .slice A l c]) rfl rfl (by kernel_rfl) (by kernel_rfl) (by kernel_rfl) (fun _ _ _ h => h) (.inl ⟨by rfl, fun w7 hS7 => (by (try dsimp only at hS7); obtain ⟨s0, s1, s2, s3, s4, s5, s6⟩ := hS7; go_simp)⟩) (by assumption) ?_; try simp only [Act.put, List.setIfInBounds_toArray, List.set_cons_zero, List.set_cons_succ]
  refine wpAnyH_ready (rs := [1]) (by kernel_rfl) (by simp) (AllReadyH.cons rfl (fun K hK => ?_) AllReadyH.nil)
  go_simp
  go_wp2_with (go_at_call 15; (refine (size_small t _ _ _ HB.out (HV.out.up K0.out.bl)).mono ?_); rintro e w1 ⟨z, hz, rfl, b1⟩; have K1 := hid (K0.out.up b1); clear b1)
  refine hK.out _ _ K1.out.bx.seven (fun hHeld => ?_)
  clear hK K
  refine take_d (some 5) (i := 2) (v := .bool true) rfl rfl (by kernel_rfl) (by kernel_rfl) (by kernel_rfl) (fun _ _ _ h => h) (.inl ⟨by rfl, fun w7 hS7 => (by (try dsimp only at hS7); obtain ⟨s0, s1, s2, s3, s4, s5, s6⟩ := hS7; go_simp)⟩) (by assumption) ?_; try simp only [Act.put, List.setIfInBounds_toArray, List.set_cons_zero, List.set_cons_succ]
  refine take_d (some 6) (i := 3) (v := .bool true) rfl rfl (by kernel_rfl) (by kernel_rfl) (by kernel_rfl) (fun _ _ _ h => h) (.inl ⟨by rfl, fun w7 hS7 => (by (try dsimp only at hS7); obtain ⟨s0, s1, s2, s3, s4, s5, s6⟩ := hS7; go_simp)⟩) (by assumption) ?_; try simp only [Act.put, List.setIfInBounds_toArray, List.set_cons_zero, List.set_cons_succ]
  refine take_d (some 7) (i := 4) (v := .agg #[.int .i64 k, .int .i64 x, .int .i64 y, .int .i64 m, .bool i, .slice T tl tc, .slice A l c]) rfl rfl (by kernel_rfl) (by kernel_rfl) (by kernel_rfl) (fun _ _ _ h => h) (.inl ⟨by rfl, fun w7 hS7 => (by (try dsimp only at hS7); obtain ⟨s0, s1, s2, s3, s4, s5, s6⟩ := hS7; go_simp)⟩) (by assumption) ?_; try simp only [Act.put, List.setIfInBounds_toArray, List.set_cons_zero, List.set_cons_succ]
  refine wpAnyH_ready (rs := [5]) (by kernel_rfl) (by simp) (AllReadyH.cons rfl (fun K hK => ?_) AllReadyH.nil)
  go_simp
  go_wp2_with (go_at_call 26; (refine (deep_1024 t _ _ _ (HV.out.up K1.out.bl)).mono ?_); rintro e w2 ⟨⟨r2, rfl, hr2⟩, b2⟩; have K2 := hid (K1.out.up b2); have H2 := hid hr2; clear b2 hr2)
  refine hK.out _ _ K2.out.bx.seven (fun hHeld => ?_)
  clear hK K
  cases r2
  case true =>
    refine take_d (some 9) (i := 6) (v := .bool false) rfl rfl (by kernel_rfl) (by kernel_rfl) (by kernel_rfl) (fun _ _ _ h => h) (.inl ⟨by rfl, fun w7 hS7 => (by (try dsimp only at hS7); obtain ⟨s0, s1, s2, s3, s4, s5, s6⟩ := hS7; go_simp)⟩) (by assumption) ?_; try simp only [Act.put, List.setIfInBounds_toArray, List.set_cons_zero, List.set_cons_succ]
    refine take_d (some 10) (i := 7) (v := .bool false) rfl rfl (by kernel_rfl) (by kernel_rfl) (by kernel_rfl) (fun _ _ _ h => h) (.inl ⟨by rfl, fun w7 hS7 => (by (try dsimp only at hS7); obtain ⟨s0, s1, s2, s3, s4, s5, s6⟩ := hS7; go_simp)⟩) (by assumption) ?_; try simp only [Act.put, List.setIfInBounds_toArray, List.set_cons_zero, List.set_cons_succ]
    refine take_d (some 11) (i := 8) (v := .bool false) rfl rfl (by kernel_rfl) (by kernel_rfl) (by kernel_rfl) (fun _ _ _ h => h) (.inl ⟨by rfl, fun w7 hS7 => (by (try dsimp only at hS7); obtain ⟨s0, s1, s2, s3, s4, s5, s6⟩ := hS7; go_simp)⟩) (by assumption) ?_; try simp only [Act.put, List.setIfInBounds_toArray, List.set_cons_zero, List.set_cons_succ]
    refine take_d (some 12) (i := 9) (v := undef) rfl rfl (by kernel_rfl) (by kernel_rfl) (by kernel_rfl) (fun _ _ _ h => h) (.inr ⟨by rfl, rfl⟩) (by assumption) ?_; try simp only [Act.put, List.setIfInBounds_toArray, List.set_cons_zero, List.set_cons_succ]
    refine take_d (some 13) (i := 10) (v := undef) rfl rfl (by kernel_rfl) (by kernel_rfl) (by kernel_rfl) (fun _ _ _ h => h) (.inr ⟨by rfl, rfl⟩) (by assumption) ?_; try simp only [Act.put, List.setIfInBounds_toArray, List.set_cons_zero, List.set_cons_succ]
    refine take_d (some 14) (i := 11) (v := undef) rfl rfl (by kernel_rfl) (by kernel_rfl) (by kernel_rfl) (fun _ _ _ h => h) (.inr ⟨by rfl, rfl⟩) (by assumption) ?_; try simp only [Act.put, List.setIfInBounds_toArray, List.set_cons_zero, List.set_cons_succ]
    refine take_d (some 15) (i := 12) (v := .bool false) rfl rfl (by kernel_rfl) (by kernel_rfl) (by kernel_rfl) (fun _ _ _ h => h) (.inl ⟨by rfl, fun w7 hS7 => (by (try dsimp only at hS7); obtain ⟨s0, s1, s2, s3, s4, s5, s6⟩ := hS7; go_simp)⟩) (by assumption) ?_; try simp only [Act.put, List.setIfInBounds_toArray, List.set_cons_zero, List.set_cons_succ]
    refine take_d (some 16) (i := 13) (v := .bool false) rfl rfl (by kernel_rfl) (by kernel_rfl) (by kernel_rfl) (fun _ _ _ h => h) (.inl ⟨by rfl, fun w7 hS7 => (by (try dsimp only at hS7); obtain ⟨s0, s1, s2, s3, s4, s5, s6⟩ := hS7; go_simp)⟩) (by assumption) ?_; try simp only [Act.put, List.setIfInBounds_toArray, List.set_cons_zero, List.set_cons_succ]
    refine take_d (some 17) (i := 14) (v := undef) rfl rfl (by kernel_rfl) (by kernel_rfl) (by kernel_rfl) (fun _ _ _ h => h) (.inr ⟨by rfl, rfl⟩) (by assumption) ?_; try simp only [Act.put, List.setIfInBounds_toArray, List.set_cons_zero, List.set_cons_succ]
    refine take_d (some 18) (i := 15) (v := undef) rfl rfl (by kernel_rfl) (by kernel_rfl) (by kernel_rfl) (fun _ _ _ h => h) (.inr ⟨by rfl, rfl⟩) (by assumption) ?_; try simp only [Act.put, List.setIfInBounds_toArray, List.set_cons_zero, List.set_cons_succ]
    refine take_d (some 19) (i := 16) (v := .bool false) rfl rfl (by kernel_rfl) (by kernel_rfl) (by kernel_rfl) (fun _ _ _ h => h) (.inl ⟨by rfl, fun w7 hS7 => (by (try dsimp only at hS7); obtain ⟨s0, s1, s2, s3, s4, s5, s6⟩ := hS7; go_simp)⟩) (by assumption) ?_; try simp only [Act.put, List.setIfInBounds_toArray, List.set_cons_zero, List.set_cons_succ]
    refine take_d (some 2) (i := 17) (v := .bool false) rfl rfl (by kernel_rfl) (by kernel_rfl) (by kernel_rfl) (fun _ _ _ h => h) (.inl ⟨by rfl, fun w7 hS7 => (by (try dsimp only at hS7); obtain ⟨s0, s1, s2, s3, s4, s5, s6⟩ := hS7; go_simp)⟩) (by assumption) ?_; try simp only [Act.put, List.setIfInBounds_toArray, List.set_cons_zero, List.set_cons_succ]
    refine wpAnyH_done (by kernel_rfl) ?_ _
    go_wp2
    go_ret
    exact no_of rfl K2.out.bl
  case false =>
    refine take_d (some 9) (i := 6) (v := .bool true) rfl rfl (by kernel_rfl) (by kernel_rfl) (by kernel_rfl) (fun _ _ _ h => h) (.inl ⟨by rfl, fun w7 hS7 => (by (try dsimp only at hS7); obtain ⟨s0, s1, s2, s3, s4, s5, s6⟩ := hS7; go_simp)⟩) (by assumption) ?_; try simp only [Act.put, List.setIfInBounds_toArray, List.set_cons_zero, List.set_cons_succ]
    refine take_d (some 10) (i := 7) (v := .bool true) rfl rfl (by kernel_rfl) (by kernel_rfl) (by kernel_rfl) (fun _ _ _ h => h) (.inl ⟨by rfl, fun w7 hS7 => (by (try dsimp only at hS7); obtain ⟨s0, s1, s2, s3, s4, s5, s6⟩ := hS7; go_simp)⟩) (by assumption) ?_; try simp only [Act.put, List.setIfInBounds_toArray, List.set_cons_zero, List.set_cons_succ]
    refine take_d (some 11) (i := 8) (v := .bool true) rfl rfl (by kernel_rfl) (by kernel_rfl) (by kernel_rfl) (fun _ _ _ h => h) (.inl ⟨by rfl, fun w7 hS7 => (by (try dsimp only at hS7); obtain ⟨s0, s1, s2, s3, s4, s5, s6⟩ := hS7; go_simp)⟩) (by assumption) ?_; try simp only [Act.put, List.setIfInBounds_toArray, List.set_cons_zero, List.set_cons_succ]
    refine take_d (some 12) (i := 9) (v := .agg #[.int .i64 k, .int .i64 x, .int .i64 y, .int .i64 m, .bool i, .slice T tl tc, .slice A l c]) rfl rfl (by kernel_rfl) (by kernel_rfl) (by kernel_rfl) (fun _ _ _ h => h) (.inl ⟨by rfl, fun w7 hS7 => (by (try dsimp only at hS7); obtain ⟨s0, s1, s2, s3, s4, s5, s6⟩ := hS7; go_simp)⟩) (by assumption) ?_; try simp only [Act.put, List.setIfInBounds_toArray, List.set_cons_zero, List.set_cons_succ]
    refine wpAnyH_ready (rs := [10]) (by kernel_rfl) (by simp) (AllReadyH.cons rfl (fun K hK => ?_) AllReadyH.nil)
    go_simp
    have K2' := hid (K2.out.up (al1 w2 (.cells M 3)))
    refine hK.out _ _ K2'.out.bx.seven (fun hHeld => ?_)
    clear hK K
    refine wpAnyH_ready (rs := [11]) (by kernel_rfl) (by simp) (AllReadyH.cons rfl (fun K hK => ?_) AllReadyH.nil)
    go_simp
    go_wp2_with (go_at_call 27; (refine (ref20_shapes _ t (Nat.le_refl _) _ (fun b => b < w.heap.size) w2.heap.size N (fun _ => 0) _ HN.out.1 (HV.out.up (K2.out.bl.alloc K2.out.bl.size _)) (fun b hb' => (by have := K2.out.bl.size; omega)) (brow_made HN.out.1 HN.out.2) z01_none).mono ?_); rintro e w3 ⟨r3, rfl, hr3, hg3⟩; have K3 := hid (K2.out.rowed hg3); have H3 := hid hr3; clear hg3 hr3)
    refine hK.out _ _ K3.out.bx.seven (fun hHeld => ?_)
    clear hK K
    cases r3
    case false =>
      refine take_d (some 15) (i := 12) (v := .bool false) rfl rfl (by kernel_rfl) (by kernel_rfl) (by kernel_rfl) (fun _ _ _ h => h) (.inl ⟨by rfl, fun w7 hS7 => (by (try dsimp only at hS7); obtain ⟨s0, s1, s2, s3, s4, s5, s6⟩ := hS7; go_simp)⟩) (by assumption) ?_; try simp only [Act.put, List.setIfInBounds_toArray, List.set_cons_zero, List.set_cons_succ]
      refine take_d (some 16) (i := 13) (v := .bool false) rfl rfl (by kernel_rfl) (by kernel_rfl) (by kernel_rfl) (fun _ _ _ h => h) (.inl ⟨by rfl, fun w7 hS7 => (by (try dsimp only at hS7); obtain ⟨s0, s1, s2, s3, s4, s5, s6⟩ := hS7; go_simp)⟩) (by assumption) ?_; try simp only [Act.put, List.setIfInBounds_toArray, List.set_cons_zero, List.set_cons_succ]
      refine take_d (some 17) (i := 14) (v := undef) rfl rfl (by kernel_rfl) (by kernel_rfl) (by kernel_rfl) (fun _ _ _ h => h) (.inr ⟨by rfl, rfl⟩) (by assumption) ?_; try simp only [Act.put, List.setIfInBounds_toArray, List.set_cons_zero, List.set_cons_succ]
      refine take_d (some 18) (i := 15) (v := undef) rfl rfl (by kernel_rfl) (by kernel_rfl) (by kernel_rfl) (fun _ _ _ h => h) (.inr ⟨by rfl, rfl⟩) (by assumption) ?_; try simp only [Act.put, List.setIfInBounds_toArray, List.set_cons_zero, List.set_cons_succ]
      refine take_d (some 19) (i := 16) (v := .bool false) rfl rfl (by kernel_rfl) (by kernel_rfl) (by kernel_rfl) (fun _ _ _ h => h) (.inl ⟨by rfl, fun w7 hS7 => (by (try dsimp only at hS7); obtain ⟨s0, s1, s2, s3, s4, s5, s6⟩ := hS7; go_simp)⟩) (by assumption) ?_; try simp only [Act.put, List.setIfInBounds_toArray, List.set_cons_zero, List.set_cons_succ]
      refine take_d (some 2) (i := 17) (v := .bool false) rfl rfl (by kernel_rfl) (by kernel_rfl) (by kernel_rfl) (fun _ _ _ h => h) (.inl ⟨by rfl, fun w7 hS7 => (by (try dsimp only at hS7); obtain ⟨s0, s1, s2, s3, s4, s5, s6⟩ := hS7; go_simp)⟩) (by assumption) ?_; try simp only [Act.put, List.setIfInBounds_toArray, List.set_cons_zero, List.set_cons_succ]
      refine wpAnyH_done (by kernel_rfl) ?_ _
      go_wp2
      go_ret
      exact no_of rfl K3.out.bl
    case true =>
      refine take_d (some 15) (i := 12) (v := .bool true) rfl rfl (by kernel_rfl) (by kernel_rfl) (by kernel_rfl) (fun _ _ _ h => h) (.inl ⟨by rfl, fun w7 hS7 => (by (try dsimp only at hS7); obtain ⟨s0, s1, s2, s3, s4, s5, s6⟩ := hS7; go_simp)⟩) (by assumption) ?_; try simp only [Act.put, List.setIfInBounds_toArray, List.set_cons_zero, List.set_cons_succ]
      refine take_d (some 16) (i := 13) (v := .bool true) rfl rfl (by kernel_rfl) (by kernel_rfl) (by kernel_rfl) (fun _ _ _ h => h) (.inl ⟨by rfl, fun w7 hS7 => (by (try dsimp only at hS7); obtain ⟨s0, s1, s2, s3, s4, s5, s6⟩ := hS7; go_simp)⟩) (by assumption) ?_; try simp only [Act.put, List.setIfInBounds_toArray, List.set_cons_zero, List.set_cons_succ]
      refine take_d (some 17) (i := 14) (v := .agg #[.int .i64 k, .int .i64 x, .int .i64 y, .int .i64 m, .bool i, .slice T tl tc, .slice A l c]) rfl rfl (by kernel_rfl) (by kernel_rfl) (by kernel_rfl) (fun _ _ _ h => h) (.inl ⟨by rfl, fun w7 hS7 => (by (try dsimp only at hS7); obtain ⟨s0, s1, s2, s3, s4, s5, s6⟩ := hS7; go_simp)⟩) (by assumption) ?_; try simp only [Act.put, List.setIfInBounds_toArray, List.set_cons_zero, List.set_cons_succ]
      refine wpAnyH_ready (rs := [15]) (by kernel_rfl) (by simp) (AllReadyH.cons rfl (fun K hK => ?_) AllReadyH.nil)
      go_simp
      go_wp2_with (go_at_call 28; (refine (ref20_Closed t _ _ _ (HV.out.up K3.out.bl) (by have := HB.out; omega)).mono ?_); rintro e w4 ⟨⟨r4, rfl, hr4⟩, b4⟩; have K4 := hid (K3.out.up b4); have H4 := hid hr4; clear b4 hr4)
      refine hK.out _ _ K4.out.bx.seven (fun hHeld => ?_)
      clear hK K
      refine take_d (some 19) (i := 16) (v := .bool r4) rfl rfl (by kernel_rfl) (by kernel_rfl) (by kernel_rfl) (fun _ _ _ h => h) (.inl ⟨by rfl, fun w7 hS7 => (by (try dsimp only at hS7); obtain ⟨s0, s1, s2, s3, s4, s5, s6⟩ := hS7; go_simp)⟩) (by assumption) ?_; try simp only [Act.put, List.setIfInBounds_toArray, List.set_cons_zero, List.set_cons_succ]
      refine take_d (some 2) (i := 17) (v := .bool r4) rfl rfl (by kernel_rfl) (by kernel_rfl) (by kernel_rfl) (fun _ _ _ h => h) (.inl ⟨by rfl, fun w7 hS7 => (by (try dsimp only at hS7); obtain ⟨s0, s1, s2, s3, s4, s5, s6⟩ := hS7; go_simp)⟩) (by assumption) ?_; try simp only [Act.put, List.setIfInBounds_toArray, List.set_cons_zero, List.set_cons_succ]
      refine wpAnyH_done (by kernel_rfl) ?_ _
      go_wp2
      go_ret
      obtain ⟨f', h1, _⟩ := H3.out trivial
      exact yes_of (fun h => good_all HB.out (H2.out trivial) h1 (H4.out h)) K4.out.bl
end Go.Proofs.Ytohdaclbgedeiaa
/-
  EXPRESSIONS THAT A LAW BUILDS, IN MEMORY.
-/

namespace Go.Proofs.Ytohdaclbgedeiaa
set_option linter.all false
open Go.ChangeShapes Go.WideShapes Go.ChangeAt Go.RowKit
open Ev (Co nodes nodesL varT letT lamT appT RunIs)

theorem wf_zero : (Lit.int .i64 0).wf = true := by decide
theorem cat_var {w : World} {S : Nat → Prop} {x : Int} (hx : (Lit.int .i64 x).wf = true) : CAt w S (varT x) (.agg #[.int .i64 1, .int .i64 x, .int .i64 0, .int .i64 0, .bool false, .slice none 0 0, .slice none 0 0]) :=
  CAt.make rfl rfl (iat_nil w _) ⟨Nat.le_refl _, Nat.zero_le _, fun _ => ⟨rfl, rfl⟩, by decide⟩ (by rw [CRow]; trivial) ⟨by decide, hx, wf_zero, wf_zero⟩
theorem at7_blk {w : World} {g k : Nat} {t : TypeId} {cs : Array Value} {a0 a1 a2 a3 a4 a5 a6 : Value} (h : Blk w g t cs) (h0 : cs[k]? = some a0) (h1 : cs[k + 1]? = some a1) (h2 : cs[k + 2]? = some a2) (h3 : cs[k + 3]? = some a3) (h4 : cs[k + 4]? = some a4) (h5 : cs[k + 5]? = some a5) (h6 : cs[k + 6]? = some a6) :
    (w).cell? ((⟨g, k, none⟩ : Addr)) = some (a0) ∧ (w).cell? ⟨((⟨g, k, none⟩ : Addr)).block, ((⟨g, k, none⟩ : Addr)).off + 1, none⟩ = some (a1) ∧ (w).cell? ⟨((⟨g, k, none⟩ : Addr)).block, ((⟨g, k, none⟩ : Addr)).off + 2, none⟩ = some (a2) ∧ (w).cell? ⟨((⟨g, k, none⟩ : Addr)).block, ((⟨g, k, none⟩ : Addr)).off + 3, none⟩ = some (a3) ∧ (w).cell? ⟨((⟨g, k, none⟩ : Addr)).block, ((⟨g, k, none⟩ : Addr)).off + 4, none⟩ = some (a4) ∧ (w).cell? ⟨((⟨g, k, none⟩ : Addr)).block, ((⟨g, k, none⟩ : Addr)).off + 5, none⟩ = some (a5) ∧ (w).cell? ⟨((⟨g, k, none⟩ : Addr)).block, ((⟨g, k, none⟩ : Addr)).off + 6, none⟩ = some (a6) :=
  ⟨(h.cell k).trans h0, (h.cell _).trans h1, (h.cell _).trans h2, (h.cell _).trans h3, (h.cell _).trans h4, (h.cell _).trans h5, (h.cell _).trans h6⟩
theorem crow_two {w : World} {S : Nat → Prop} {g : Nat} {s t : Co} {a0 a1 a2 a3 a4 a5 a6 b0 b1 b2 b3 b4 b5 b6 : Value} (hS : S g) (hb : Blk w g 25 #[a0, a1, a2, a3, a4, a5, a6, b0, b1, b2, b3, b4, b5, b6]) (h1 : CAt w S s (.agg #[a0, a1, a2, a3, a4, a5, a6])) (h2 : CAt w S t (.agg #[b0, b1, b2, b3, b4, b5, b6])) : CRow w S [s, t] (some ⟨g, 0, none⟩) 0 := by
  refine CRow.mk hS _ 0 (fun k hk => ?_)
  match k, hk with
  | 0, _ =>
    refine ⟨a0, a1, a2, a3, a4, a5, a6, ?_, h1⟩
    rw [show (⟨g, 0, none⟩ : Addr).add ((0 + 0) * 7) = ⟨g, 0, none⟩ from rfl]
    exact at7_blk hb rfl rfl rfl rfl rfl rfl rfl
  | 1, _ =>
    refine ⟨b0, b1, b2, b3, b4, b5, b6, ?_, h2⟩
    rw [show (⟨g, 0, none⟩ : Addr).add ((0 + 1) * 7) = ⟨g, 7, none⟩ from rfl]
    exact at7_blk hb rfl rfl rfl rfl rfl rfl rfl
theorem crow_one {w : World} {S : Nat → Prop} {g : Nat} {s : Co} {a0 a1 a2 a3 a4 a5 a6 : Value} (hS : S g) (hb : Blk w g 25 #[a0, a1, a2, a3, a4, a5, a6]) (h1 : CAt w S s (.agg #[a0, a1, a2, a3, a4, a5, a6])) : CRow w S [s] (some ⟨g, 0, none⟩) 0 := by
  refine CRow.mk hS _ 0 (fun k hk => ?_)
  match k, hk with
  | 0, _ =>
    refine ⟨a0, a1, a2, a3, a4, a5, a6, ?_, h1⟩
    rw [show (⟨g, 0, none⟩ : Addr).add ((0 + 0) * 7) = ⟨g, 0, none⟩ from rfl]
    exact at7_blk hb rfl rfl rfl rfl rfl rfl rfl
theorem cat_let {w : World} {S : Nat → Prop} {g : Nat} {x : Int} {t : Co} {a0 a1 a2 a3 a4 a5 a6 : Value} (hx : (Lit.int .i64 x).wf = true) (hS : S g) (hb : Blk w g 25 #[a0, a1, a2, a3, a4, a5, a6, .int .i64 1, .int .i64 x, .int .i64 0, .int .i64 0, .bool false, .slice none 0 0, .slice none 0 0]) (h1 : CAt w S t (.agg #[a0, a1, a2, a3, a4, a5, a6])) :
    CAt w S (letT x t) (.agg #[.int .i64 5, .int .i64 x, .int .i64 0, .int .i64 0, .bool false, .slice none 0 0, .slice (some ⟨g, 0, none⟩) 2 2]) :=
  CAt.make rfl rfl (iat_nil w _) ⟨Nat.le_refl _, by unfold maxLen; decide, fun h => (by cases h), by simp⟩ (crow_two hS hb h1 (cat_var hx)) ⟨by decide, hx, wf_zero, wf_zero⟩
theorem cat_app {w : World} {S : Nat → Prop} {g gv : Nat} {x : Int} {t : Co} {a0 a1 a2 a3 a4 a5 a6 : Value} (hx : (Lit.int .i64 x).wf = true) (hS : S g) (hv : S gv) (hbv : Blk w gv 25 #[.int .i64 1, .int .i64 x, .int .i64 0, .int .i64 0, .bool false, .slice none 0 0, .slice none 0 0])
    (hb : Blk w g 25 #[.int .i64 3, .int .i64 x, .int .i64 0, .int .i64 0, .bool false, .slice none 0 0, .slice (some ⟨gv, 0, none⟩) 1 1, a0, a1, a2, a3, a4, a5, a6]) (h1 : CAt w S t (.agg #[a0, a1, a2, a3, a4, a5, a6])) :
    CAt w S (appT x t) (.agg #[.int .i64 4, .int .i64 0, .int .i64 0, .int .i64 0, .bool false, .slice none 0 0, .slice (some ⟨g, 0, none⟩) 2 2]) :=
  CAt.make rfl rfl (iat_nil w _) ⟨Nat.le_refl _, by unfold maxLen; decide, fun h => (by cases h), by simp⟩
    (crow_two hS hb (CAt.make rfl rfl (iat_nil w _) ⟨Nat.le_refl _, by unfold maxLen; decide, fun h => (by cases h), by simp⟩ (crow_one hv hbv (cat_var hx)) ⟨by decide, hx, wf_zero, wf_zero⟩) h1) ⟨by decide, wf_zero, wf_zero, wf_zero⟩
theorem nodes_let (x : Int) (t : Co) : nodes (letT x t) = nodes t + 2 := by
  simp only [letT, varT, nodes, nodesL]; omega
theorem nodes_app (x : Int) (t : Co) : nodes (appT x t) = nodes t + 3 := by
  simp only [appT, lamT, varT, nodes, nodesL]; omega
/-- A result that stands in a block of one's own. -/
structure RH (w : World) (g : Nat) (A : Option Addr) (c : Nat) (B : Option Addr) (d : Nat) (r : Int × List Int × List Int × Int) : Prop where
  bx : Blk w g 31 #[.int .i64 r.1, .slice A r.2.1.length c, .slice B r.2.2.1.length d]
  i1 : Ints w w.heap.size A r.2.1.length c r.2.1
  i2 : Ints w w.heap.size B r.2.2.1.length d r.2.2.1
theorem RH.up {w w' : World} {g c d : Nat} {A B : Option Addr} {r : Int × List Int × List Int × Int} (h : RH w g A c B d r) (hb : Below w.heap.size w w') : RH w' g A c B d r :=
  ⟨h.bx.below hb h.bx.lt, h.i1.below hb hb.size, h.i2.below hb hb.size⟩
theorem RH.drew {w : World} {g c d : Nat} {A B : Option Addr} {r : Int × List Int × List Int × Int} (h : RH w g A c B d r) : RH w.drew g A c B d r := h.up (Below.refl _ _).drew
theorem GK.start0 (w : World) (core : Array Value) : GK w core (w.alloc (.cells core 25)) := ⟨Blk.new _ _ _, al1 _ _⟩
/-- Behind append([]int{}, inputs...). -/
structure Ap (w3 w4 : World) (B : Nat) (l : List Int) (A : Option Addr) (n cA : Nat) : Prop where
  own : OwnI w4 B (.slice A n cA) l
  len : n = l.length
  low : Below w3.heap.size w3 w4
theorem ap_of {w3 w4 : World} {l : List Int} {A : Option Addr} {n cA : Nat} (ho : OwnI w4 w3.heap.size (.slice A (0 + n) cA) ([] ++ l)) (hn : n = l.length) (hb : ∀ B0 w0, B0 ≤ w3.heap.size → Below B0 w0 (w3.alloc (.cells #[] 3)) → Below B0 w0 w4) : Ap w3 w4 w3.heap.size l A n cA := ⟨by simpa using ho, hn, hb _ _ (Nat.le_refl _) (al1 _ _)⟩
theorem dr1 (X : World) : Below X.heap.size X X.drew := (Below.refl _ _).drew
theorem al_drew (X : World) (o : Obj) : Below X.heap.size X (X.drew.alloc o) := Below.alloc (dr1 X) (Nat.le_refl _) o
theorem set7_keep {w : World} {g k : Nat} {t : TypeId} {cs : Array Value} {v0 v1 v2 v3 v4 v5 v6 : Value} (h : Blk w k t cs) (hk : k ≠ g) (o : Obj) : Blk ((((((((w.setCell ⟨g, 0, none⟩ v0).setCell ⟨g, 1, none⟩ v1).setCell ⟨g, 2, none⟩ v2).setCell ⟨g, 3, none⟩ v3).setCell ⟨g, 4, none⟩ v4).setCell ⟨g, 5, none⟩ v5).setCell ⟨g, 6, none⟩ v6).alloc o) k t cs :=
  Blk.alloc ((set7_other (v0 := v0) (v1 := v1) (v2 := v2) (v3 := v3) (v4 := v4) (v5 := v5) (v6 := v6) hk).trans h) o
/-- An expression in a block of one's own. -/
structure LB (w : World) (g : Nat) (cs : Array Value) (t : Co) : Prop where
  bx : Blk w g 25 cs
  ct : CAt w (fun _ => True) t (.agg cs)
theorem LB.up {w w' : World} {g : Nat} {cs : Array Value} {t : Co} (h : LB w g cs t) (hb : Below w.heap.size w w') : LB w' g cs t := ⟨h.bx.below hb h.bx.lt, h.ct.up hb⟩
theorem set7_low {W w : World} {g : Nat} {v0 v1 v2 v3 v4 v5 v6 : Value} (h : Below W.heap.size W w) (hg : W.heap.size ≤ g) (o : Obj) : Below W.heap.size W ((((((((w.setCell ⟨g, 0, none⟩ v0).setCell ⟨g, 1, none⟩ v1).setCell ⟨g, 2, none⟩ v2).setCell ⟨g, 3, none⟩ v3).setCell ⟨g, 4, none⟩ v4).setCell ⟨g, 5, none⟩ v5).setCell ⟨g, 6, none⟩ v6).alloc o) :=
  (set7_below (v0 := v0) (v1 := v1) (v2 := v2) (v3 := v3) (v4 := v4) (v5 := v5) (v6 := v6) h hg).alloc (by have := h.size; simp [set7, World.setCell]; omega) o
theorem let_A {w : World} {tp : Int} {t : Co} {a0 a1 a2 a3 a4 a5 a6 : Value} (hx : (Lit.int .i64 tp).wf = true) (hc : CAt w (fun _ => True) t (.agg #[a0, a1, a2, a3, a4, a5, a6])) : LB ((w.alloc (.cells #[a0, a1, a2, a3, a4, a5, a6, .int .i64 1, .int .i64 tp, .int .i64 0, .int .i64 0, .bool false, .slice none 0 0, .slice none 0 0] 25)).alloc (.cells #[.int .i64 5, .int .i64 tp, .int .i64 0, .int .i64 0, .bool false, .slice none 0 0, .slice (some ⟨w.heap.size, 0, none⟩) 2 2] 25)) (w.heap.size + 1) #[.int .i64 5, .int .i64 tp, .int .i64 0, .int .i64 0, .bool false, .slice none 0 0, .slice (some ⟨w.heap.size, 0, none⟩) 2 2] (letT tp t) :=
  ⟨Blk.new' (by simp) _ _, cat_let hx trivial ((Blk.new w _ _).alloc _) (hc.up (al2 _ _ _))⟩
theorem let_B {w : World} {tp : Int} {t : Co} {a0 a1 a2 a3 a4 a5 a6 : Value} (hx : (Lit.int .i64 tp).wf = true) (hc : CAt w (fun _ => True) t (.agg #[a0, a1, a2, a3, a4, a5, a6])) : LB ((w.alloc (.cells #[.int .i64 5, .int .i64 tp, .int .i64 0, .int .i64 0, .bool false, .slice none 0 0, .slice (some ⟨(w.heap.size + 1), 0, none⟩) 2 2] 25)).alloc (.cells #[a0, a1, a2, a3, a4, a5, a6, .int .i64 1, .int .i64 tp, .int .i64 0, .int .i64 0, .bool false, .slice none 0 0, .slice none 0 0] 25)) w.heap.size #[.int .i64 5, .int .i64 tp, .int .i64 0, .int .i64 0, .bool false, .slice none 0 0, .slice (some ⟨(w.heap.size + 1), 0, none⟩) 2 2] (letT tp t) :=
  ⟨(Blk.new w _ _).alloc _, cat_let hx trivial (Blk.new' (by simp) _ _) (hc.up (al2 _ _ _))⟩
theorem let_C {w : World} {tp : Int} {t : Co} {a0 a1 a2 a3 a4 a5 a6 : Value} (hx : (Lit.int .i64 tp).wf = true) (hc : CAt w (fun _ => True) t (.agg #[a0, a1, a2, a3, a4, a5, a6])) {g : Nat} {u0 u1 u2 u3 u4 u5 u6 : Value} (hg : Blk w g 25 #[u0, u1, u2, u3, u4, u5, u6]) (hS : CAt w (fun b => b ≠ g) t (.agg #[a0, a1, a2, a3, a4, a5, a6])) : LB ((((((((w.setCell ⟨g, 0, none⟩ (.int .i64 5)).setCell ⟨g, 1, none⟩ (.int .i64 tp)).setCell ⟨g, 2, none⟩ (.int .i64 0)).setCell ⟨g, 3, none⟩ (.int .i64 0)).setCell ⟨g, 4, none⟩ (.bool false)).setCell ⟨g, 5, none⟩ (.slice none 0 0)).setCell ⟨g, 6, none⟩ (.slice (some ⟨w.heap.size, 0, none⟩) 2 2)).alloc (.cells #[a0, a1, a2, a3, a4, a5, a6, .int .i64 1, .int .i64 tp, .int .i64 0, .int .i64 0, .bool false, .slice none 0 0, .slice none 0 0] 25)) g #[.int .i64 5, .int .i64 tp, .int .i64 0, .int .i64 0, .bool false, .slice none 0 0, .slice (some ⟨w.heap.size, 0, none⟩) 2 2] (letT tp t) := by
  obtain ⟨W, hW⟩ : ∃ W, W = set7 w g (.int .i64 5) (.int .i64 tp) (.int .i64 0) (.int .i64 0) (.bool false) (.slice none 0 0) (.slice (some ⟨w.heap.size, 0, none⟩) 2 2) := ⟨_, rfl⟩
  have hs : W.heap.size = w.heap.size := by rw [hW]; simp [set7, World.setCell]
  have h1 : Blk W g 25 #[.int .i64 5, .int .i64 tp, .int .i64 0, .int .i64 0, .bool false, .slice none 0 0, .slice (some ⟨w.heap.size, 0, none⟩) 2 2] := by rw [hW]; exact set7_blk hg
  have h2 : CAt W (fun _ => True) t (.agg #[a0, a1, a2, a3, a4, a5, a6]) := by rw [hW]; exact hS.keep (fun b hb hl => ⟨set7_other hb, trivial⟩)
  show LB ((set7 w g (.int .i64 5) (.int .i64 tp) (.int .i64 0) (.int .i64 0) (.bool false) (.slice none 0 0) (.slice (some ⟨w.heap.size, 0, none⟩) 2 2)).alloc (.cells #[a0, a1, a2, a3, a4, a5, a6, .int .i64 1, .int .i64 tp, .int .i64 0, .int .i64 0, .bool false, .slice none 0 0, .slice none 0 0] 25)) g #[.int .i64 5, .int .i64 tp, .int .i64 0, .int .i64 0, .bool false, .slice none 0 0, .slice (some ⟨w.heap.size, 0, none⟩) 2 2] (letT tp t)
  rw [← hW]
  refine ⟨h1.alloc _, cat_let hx trivial ?_ (h2.up (al1 _ _))⟩
  have := Blk.new W 25 #[a0, a1, a2, a3, a4, a5, a6, .int .i64 1, .int .i64 tp, .int .i64 0, .int .i64 0, .bool false, .slice none 0 0, .slice none 0 0]
  rwa [hs] at this
theorem al2_drew (X : World) (o o2 : Obj) : Below X.heap.size X ((X.drew.alloc o).alloc o2) := Below.alloc (al_drew X o) (by simp) o2
theorem set3_low {W w : World} {g : Nat} {v0 v1 v2 : Value} (h : Below W.heap.size W w) (hg : W.heap.size ≤ g) : Below W.heap.size W (((w.setCell ⟨g, 0, none⟩ v0).setCell ⟨g, 1, none⟩ v1).setCell ⟨g, 2, none⟩ v2) :=
  below_set (i := 2) (below_set (i := 1) (below_set (i := 0) h hg _) hg _) hg _
theorem set3_keep {w : World} {g k : Nat} {t : TypeId} {cs : Array Value} {v0 v1 v2 : Value} (h : Blk w k t cs) (hk : k ≠ g) : Blk (((w.setCell ⟨g, 0, none⟩ v0).setCell ⟨g, 1, none⟩ v1).setCell ⟨g, 2, none⟩ v2) k t cs :=
  ((h.far (p := ⟨g, 0, none⟩) hk _).far (p := ⟨g, 1, none⟩) hk _).far (p := ⟨g, 2, none⟩) hk _
theorem rh_set {w : World} {g B0 c d : Nat} {A B : Option Addr} {r : Int × List Int × List Int × Int} {u0 u1 u2 : Value} (hb : Blk w g 31 #[u0, u1, u2]) (h1 : OwnI w B0 (.slice A r.2.1.length c) r.2.1) (h2 : OwnI w B0 (.slice B r.2.2.1.length d) r.2.2.1) (hlt : g < B0) :
    RH (((w.setCell ⟨g, 0, none⟩ (.int .i64 r.1)).setCell ⟨g, 1, none⟩ (.slice A r.2.1.length c)).setCell ⟨g, 2, none⟩ (.slice B r.2.2.1.length d)) g A c B d r :=
  ⟨((hb.set_ 0 _).set_ 1 _).set_ 2 _, (((h1.set_ (a := ⟨g, 0, none⟩) hlt _).set_ (a := ⟨g, 1, none⟩) hlt _).set_ (a := ⟨g, 2, none⟩) hlt _).ints, (((h2.set_ (a := ⟨g, 0, none⟩) hlt _).set_ (a := ⟨g, 1, none⟩) hlt _).set_ (a := ⟨g, 2, none⟩) hlt _).ints⟩
theorem rh_new {w : World} {B0 c d : Nat} {A B : Option Addr} {r : Int × List Int × List Int × Int} (h1 : OwnI w B0 (.slice A r.2.1.length c) r.2.1) (h2 : OwnI w B0 (.slice B r.2.2.1.length d) r.2.2.1) : RH (w.alloc (.cells #[.int .i64 r.1, .slice A r.2.1.length c, .slice B r.2.2.1.length d] 31)) w.heap.size A c B d r :=
  ⟨Blk.new w _ _, own_ints h1 (al1 _ _), own_ints h2 (al1 _ _)⟩
theorem alc3 (X : World) (o o2 o3 : Obj) : Below X.heap.size X (((X.alloc o).alloc o2).alloc o3) := (al2 X o o2).alloc (by simp; omega) _
theorem app_a {w : World} {tp : Int} {t : Co} {a0 a1 a2 a3 a4 a5 a6 : Value} (hx : (Lit.int .i64 tp).wf = true) (hc : CAt w (fun _ => True) t (.agg #[a0, a1, a2, a3, a4, a5, a6])) {gv : Nat} (hv : Blk w gv 25 #[.int .i64 1, .int .i64 tp, .int .i64 0, .int .i64 0, .bool false, .slice none 0 0, .slice none 0 0]) : LB ((w.alloc (.cells #[.int .i64 3, .int .i64 tp, .int .i64 0, .int .i64 0, .bool false, .slice none 0 0, .slice (some ⟨gv, 0, none⟩) 1 1, a0, a1, a2, a3, a4, a5, a6] 25)).alloc (.cells #[.int .i64 4, .int .i64 0, .int .i64 0, .int .i64 0, .bool false, .slice none 0 0, .slice (some ⟨w.heap.size, 0, none⟩) 2 2] 25)) (w.heap.size + 1) #[.int .i64 4, .int .i64 0, .int .i64 0, .int .i64 0, .bool false, .slice none 0 0, .slice (some ⟨w.heap.size, 0, none⟩) 2 2] (appT tp t) :=
  ⟨Blk.new' (by simp) _ _, cat_app hx trivial trivial ((hv.alloc _).alloc _) ((Blk.new w _ _).alloc _) (hc.up (al2 _ _ _))⟩
theorem app_b {w : World} {tp : Int} {t : Co} {a0 a1 a2 a3 a4 a5 a6 : Value} (hx : (Lit.int .i64 tp).wf = true) (hc : CAt w (fun _ => True) t (.agg #[a0, a1, a2, a3, a4, a5, a6])) {gv : Nat} (hv : Blk w gv 25 #[.int .i64 1, .int .i64 tp, .int .i64 0, .int .i64 0, .bool false, .slice none 0 0, .slice none 0 0]) : LB ((w.alloc (.cells #[.int .i64 4, .int .i64 0, .int .i64 0, .int .i64 0, .bool false, .slice none 0 0, .slice (some ⟨(w.heap.size + 1), 0, none⟩) 2 2] 25)).alloc (.cells #[.int .i64 3, .int .i64 tp, .int .i64 0, .int .i64 0, .bool false, .slice none 0 0, .slice (some ⟨gv, 0, none⟩) 1 1, a0, a1, a2, a3, a4, a5, a6] 25)) w.heap.size #[.int .i64 4, .int .i64 0, .int .i64 0, .int .i64 0, .bool false, .slice none 0 0, .slice (some ⟨(w.heap.size + 1), 0, none⟩) 2 2] (appT tp t) :=
  ⟨(Blk.new w _ _).alloc _, cat_app hx trivial trivial ((hv.alloc _).alloc _) (Blk.new' (by simp) _ _) (hc.up (al2 _ _ _))⟩
theorem app_c {w : World} {tp : Int} {t : Co} {a0 a1 a2 a3 a4 a5 a6 : Value} (hx : (Lit.int .i64 tp).wf = true) {gv : Nat} (hv : Blk w gv 25 #[.int .i64 1, .int .i64 tp, .int .i64 0, .int .i64 0, .bool false, .slice none 0 0, .slice none 0 0]) {gm : Nat} {u0 u1 u2 u3 u4 u5 u6 : Value} (hz : Blk w gm 25 #[u0, u1, u2, u3, u4, u5, u6]) (hS : CAt w (fun b => b ≠ gm) t (.agg #[a0, a1, a2, a3, a4, a5, a6])) (hne : gv ≠ gm) : LB ((((((((w.setCell ⟨gm, 0, none⟩ (.int .i64 4)).setCell ⟨gm, 1, none⟩ (.int .i64 0)).setCell ⟨gm, 2, none⟩ (.int .i64 0)).setCell ⟨gm, 3, none⟩ (.int .i64 0)).setCell ⟨gm, 4, none⟩ (.bool false)).setCell ⟨gm, 5, none⟩ (.slice none 0 0)).setCell ⟨gm, 6, none⟩ (.slice (some ⟨w.heap.size, 0, none⟩) 2 2)).alloc (.cells #[.int .i64 3, .int .i64 tp, .int .i64 0, .int .i64 0, .bool false, .slice none 0 0, .slice (some ⟨gv, 0, none⟩) 1 1, a0, a1, a2, a3, a4, a5, a6] 25)) gm #[.int .i64 4, .int .i64 0, .int .i64 0, .int .i64 0, .bool false, .slice none 0 0, .slice (some ⟨w.heap.size, 0, none⟩) 2 2] (appT tp t) := by
  obtain ⟨W, hW⟩ : ∃ W, W = (set7 w gm (.int .i64 4) (.int .i64 0) (.int .i64 0) (.int .i64 0) (.bool false) (.slice none 0 0) (.slice (some ⟨w.heap.size, 0, none⟩) 2 2)) := ⟨_, rfl⟩
  have hs : W.heap.size = w.heap.size := by rw [hW]; simp [set7, World.setCell]
  have h1 : Blk W gm 25 #[.int .i64 4, .int .i64 0, .int .i64 0, .int .i64 0, .bool false, .slice none 0 0, .slice (some ⟨w.heap.size, 0, none⟩) 2 2] := by rw [hW]; exact set7_blk hz
  have h2 : CAt W (fun _ => True) t (.agg #[a0, a1, a2, a3, a4, a5, a6]) := by rw [hW]; exact hS.keep (fun b hb hl => ⟨set7_other hb, trivial⟩)
  have h3 : Blk W gv 25 #[.int .i64 1, .int .i64 tp, .int .i64 0, .int .i64 0, .bool false, .slice none 0 0, .slice none 0 0] := by rw [hW]; exact (set7_other hne).trans hv
  show LB ((set7 w gm (.int .i64 4) (.int .i64 0) (.int .i64 0) (.int .i64 0) (.bool false) (.slice none 0 0) (.slice (some ⟨w.heap.size, 0, none⟩) 2 2)).alloc (.cells #[.int .i64 3, .int .i64 tp, .int .i64 0, .int .i64 0, .bool false, .slice none 0 0, .slice (some ⟨gv, 0, none⟩) 1 1, a0, a1, a2, a3, a4, a5, a6] 25)) gm #[.int .i64 4, .int .i64 0, .int .i64 0, .int .i64 0, .bool false, .slice none 0 0, .slice (some ⟨w.heap.size, 0, none⟩) 2 2] (appT tp t)
  rw [← hW]
  refine ⟨h1.alloc _, cat_app hx trivial trivial (h3.alloc _) ?_ (h2.up (al1 _ _))⟩
  have := Blk.new W 25 #[.int .i64 3, .int .i64 tp, .int .i64 0, .int .i64 0, .bool false, .slice none 0 0, .slice (some ⟨gv, 0, none⟩) 1 1, a0, a1, a2, a3, a4, a5, a6]
  rwa [hs] at this
theorem app_e {w : World} {tp : Int} {t : Co} {a0 a1 a2 a3 a4 a5 a6 : Value} (hx : (Lit.int .i64 tp).wf = true) (hc : CAt w (fun _ => True) t (.agg #[a0, a1, a2, a3, a4, a5, a6])) : LB (((w.alloc (.cells #[.int .i64 1, .int .i64 tp, .int .i64 0, .int .i64 0, .bool false, .slice none 0 0, .slice none 0 0] 25)).alloc (.cells #[.int .i64 3, .int .i64 tp, .int .i64 0, .int .i64 0, .bool false, .slice none 0 0, .slice (some ⟨w.heap.size, 0, none⟩) 1 1, a0, a1, a2, a3, a4, a5, a6] 25)).alloc (.cells #[.int .i64 4, .int .i64 0, .int .i64 0, .int .i64 0, .bool false, .slice none 0 0, .slice (some ⟨(w.heap.size + 1), 0, none⟩) 2 2] 25)) (w.heap.size + 1 + 1) #[.int .i64 4, .int .i64 0, .int .i64 0, .int .i64 0, .bool false, .slice none 0 0, .slice (some ⟨(w.heap.size + 1), 0, none⟩) 2 2] (appT tp t) :=
  ⟨Blk.new' (by simp) _ _, cat_app hx trivial trivial (((Blk.new w _ _).alloc _).alloc _) ((Blk.new' (by simp) _ _).alloc _) (hc.up (alc3 _ _ _ _))⟩
theorem app_f {w : World} {tp : Int} {t : Co} {a0 a1 a2 a3 a4 a5 a6 : Value} (hx : (Lit.int .i64 tp).wf = true) (hc : CAt w (fun _ => True) t (.agg #[a0, a1, a2, a3, a4, a5, a6])) : LB (((w.alloc (.cells #[.int .i64 1, .int .i64 tp, .int .i64 0, .int .i64 0, .bool false, .slice none 0 0, .slice none 0 0] 25)).alloc (.cells #[.int .i64 4, .int .i64 0, .int .i64 0, .int .i64 0, .bool false, .slice none 0 0, .slice (some ⟨(w.heap.size + 1 + 1), 0, none⟩) 2 2] 25)).alloc (.cells #[.int .i64 3, .int .i64 tp, .int .i64 0, .int .i64 0, .bool false, .slice none 0 0, .slice (some ⟨w.heap.size, 0, none⟩) 1 1, a0, a1, a2, a3, a4, a5, a6] 25)) (w.heap.size + 1) #[.int .i64 4, .int .i64 0, .int .i64 0, .int .i64 0, .bool false, .slice none 0 0, .slice (some ⟨(w.heap.size + 1 + 1), 0, none⟩) 2 2] (appT tp t) :=
  ⟨(Blk.new' (by simp) _ _).alloc _, cat_app hx trivial trivial (((Blk.new w _ _).alloc _).alloc _) (Blk.new' (by simp) _ _) (hc.up (alc3 _ _ _ _))⟩
theorem app_g {w : World} {tp : Int} {t : Co} {a0 a1 a2 a3 a4 a5 a6 : Value} (hx : (Lit.int .i64 tp).wf = true) (hc : CAt w (fun _ => True) t (.agg #[a0, a1, a2, a3, a4, a5, a6])) : LB (((w.alloc (.cells #[.int .i64 4, .int .i64 0, .int .i64 0, .int .i64 0, .bool false, .slice none 0 0, .slice (some ⟨(w.heap.size + 1 + 1), 0, none⟩) 2 2] 25)).alloc (.cells #[.int .i64 1, .int .i64 tp, .int .i64 0, .int .i64 0, .bool false, .slice none 0 0, .slice none 0 0] 25)).alloc (.cells #[.int .i64 3, .int .i64 tp, .int .i64 0, .int .i64 0, .bool false, .slice none 0 0, .slice (some ⟨(w.heap.size + 1), 0, none⟩) 1 1, a0, a1, a2, a3, a4, a5, a6] 25)) w.heap.size #[.int .i64 4, .int .i64 0, .int .i64 0, .int .i64 0, .bool false, .slice none 0 0, .slice (some ⟨(w.heap.size + 1 + 1), 0, none⟩) 2 2] (appT tp t) :=
  ⟨((Blk.new w _ _).alloc _).alloc _, cat_app hx trivial trivial ((Blk.new' (by simp) _ _).alloc _) (Blk.new' (by simp) _ _) (hc.up (alc3 _ _ _ _))⟩
theorem app_h {w : World} {tp : Int} {t : Co} {a0 a1 a2 a3 a4 a5 a6 : Value} (hx : (Lit.int .i64 tp).wf = true) {gm : Nat} {u0 u1 u2 u3 u4 u5 u6 : Value} (hz : Blk w gm 25 #[u0, u1, u2, u3, u4, u5, u6]) (hS : CAt w (fun b => b ≠ gm) t (.agg #[a0, a1, a2, a3, a4, a5, a6])) : LB (((((((((w.setCell ⟨gm, 0, none⟩ (.int .i64 4)).setCell ⟨gm, 1, none⟩ (.int .i64 0)).setCell ⟨gm, 2, none⟩ (.int .i64 0)).setCell ⟨gm, 3, none⟩ (.int .i64 0)).setCell ⟨gm, 4, none⟩ (.bool false)).setCell ⟨gm, 5, none⟩ (.slice none 0 0)).setCell ⟨gm, 6, none⟩ (.slice (some ⟨(w.heap.size + 1), 0, none⟩) 2 2)).alloc (.cells #[.int .i64 1, .int .i64 tp, .int .i64 0, .int .i64 0, .bool false, .slice none 0 0, .slice none 0 0] 25)).alloc (.cells #[.int .i64 3, .int .i64 tp, .int .i64 0, .int .i64 0, .bool false, .slice none 0 0, .slice (some ⟨w.heap.size, 0, none⟩) 1 1, a0, a1, a2, a3, a4, a5, a6] 25)) gm #[.int .i64 4, .int .i64 0, .int .i64 0, .int .i64 0, .bool false, .slice none 0 0, .slice (some ⟨(w.heap.size + 1), 0, none⟩) 2 2] (appT tp t) := by
  obtain ⟨W, hW⟩ : ∃ W, W = (set7 w gm (.int .i64 4) (.int .i64 0) (.int .i64 0) (.int .i64 0) (.bool false) (.slice none 0 0) (.slice (some ⟨(w.heap.size + 1), 0, none⟩) 2 2)) := ⟨_, rfl⟩
  have hs : W.heap.size = w.heap.size := by rw [hW]; simp [set7, World.setCell]
  have h1 : Blk W gm 25 #[.int .i64 4, .int .i64 0, .int .i64 0, .int .i64 0, .bool false, .slice none 0 0, .slice (some ⟨(w.heap.size + 1), 0, none⟩) 2 2] := by rw [hW]; exact set7_blk hz
  have h2 : CAt W (fun _ => True) t (.agg #[a0, a1, a2, a3, a4, a5, a6]) := by rw [hW]; exact hS.keep (fun b hb hl => ⟨set7_other hb, trivial⟩)
  show LB (((set7 w gm (.int .i64 4) (.int .i64 0) (.int .i64 0) (.int .i64 0) (.bool false) (.slice none 0 0) (.slice (some ⟨(w.heap.size + 1), 0, none⟩) 2 2)).alloc (.cells #[.int .i64 1, .int .i64 tp, .int .i64 0, .int .i64 0, .bool false, .slice none 0 0, .slice none 0 0] 25)).alloc (.cells #[.int .i64 3, .int .i64 tp, .int .i64 0, .int .i64 0, .bool false, .slice none 0 0, .slice (some ⟨w.heap.size, 0, none⟩) 1 1, a0, a1, a2, a3, a4, a5, a6] 25)) gm #[.int .i64 4, .int .i64 0, .int .i64 0, .int .i64 0, .bool false, .slice none 0 0, .slice (some ⟨(w.heap.size + 1), 0, none⟩) 2 2] (appT tp t)
  rw [← hW]
  refine ⟨(h1.alloc _).alloc _, cat_app (gv := w.heap.size) hx trivial trivial ?_ (Blk.new' (by simp [hs]) _ _) (h2.up (al2 _ _ _))⟩
  have := Blk.new W 25 #[.int .i64 1, .int .i64 tp, .int .i64 0, .int .i64 0, .bool false, .slice none 0 0, .slice none 0 0]
  rw [hs] at this
  exact this.alloc _
theorem set7_keep2 {w : World} {g k : Nat} {t : TypeId} {cs : Array Value} {v0 v1 v2 v3 v4 v5 v6 : Value} (h : Blk w k t cs) (hk : k ≠ g) (o o2 : Obj) : Blk (((((((((w.setCell ⟨g, 0, none⟩ v0).setCell ⟨g, 1, none⟩ v1).setCell ⟨g, 2, none⟩ v2).setCell ⟨g, 3, none⟩ v3).setCell ⟨g, 4, none⟩ v4).setCell ⟨g, 5, none⟩ v5).setCell ⟨g, 6, none⟩ v6).alloc o).alloc o2) k t cs := (set7_keep h hk o).alloc o2
theorem set7_low2 {W w : World} {g : Nat} {v0 v1 v2 v3 v4 v5 v6 : Value} (h : Below W.heap.size W w) (hg : W.heap.size ≤ g) (o o2 : Obj) : Below W.heap.size W (((((((((w.setCell ⟨g, 0, none⟩ v0).setCell ⟨g, 1, none⟩ v1).setCell ⟨g, 2, none⟩ v2).setCell ⟨g, 3, none⟩ v3).setCell ⟨g, 4, none⟩ v4).setCell ⟨g, 5, none⟩ v5).setCell ⟨g, 6, none⟩ v6).alloc o).alloc o2) := (set7_low h hg o).alloc ((set7_low h hg o).size) o2
end Go.Proofs.Ytohdaclbgedeiaa
