/-
  THE WALKS OF links.Size AND athanorref15.Size: how many nodes, up to 1025.
-/
import Derived.Test.YtnlifgcnmhakiaaDoorTTree
namespace Go.Proofs.YtnlifgcnmhakiaaDoor
open Go.ChangeShapes Go.WideShapes Go.ChangeAt Go.RowKit

theorem nodesL_split {us : List Ty} {i : Nat} (hi : i < us.length) : nodesL us = nodesL (us.take i) + nodes us[i] + nodesL (us.drop (i + 1)) := by
  have h : ∀ (xs ys : List Ty), nodesL (xs ++ ys) = nodesL xs + nodesL ys := by
    intro xs ys
    induction xs with
    | nil => simp [nodesL]
    | cons x xs ih => simp [nodesL, ih]; omega
  have h2 : us = us.take i ++ us[i] :: us.drop (i + 1) := by rw [← List.drop_eq_getElem_cons hi, List.take_append_drop]
  have h3 := h (us.take i) (us[i] :: us.drop (i + 1))
  rw [← h2, nodesL] at h3
  omega
/-- How many nodes, up to 1025. -/
def sizeT (t : Ty) : Nat := min (nodes t) 1025
/-- What it tells. -/
def links_sizedP (t : Ty) (l : Int) (w : World) (e : Ending) (w' : World) : Prop := e = .returned (.int .i64 (max (-1) (l - (nodes t : Nat)))) ∧ Below w.heap.size w w'
set_option maxHeartbeats 4000000 in
set_option maxRecDepth 100000 in
theorem links_sized_node (q : Int) (s : ByteArray) (k l : Int) (A : Option Addr) (us : List Ty) (c : Nat) (S : Nat → Prop) (w : World) (h0 : 0 ≤ l) (h1 : l ≤ 1024) (hm : us.length ≤ maxLen) (hrow : TRow w S us A 0)
    (ih : ∀ t ∈ us, ∀ (l : Int) (v : Value) (S : Nat → Prop) (w : World), 0 ≤ l → l ≤ 1024 → TAt w S t v → Calls Tryd.prog 50 #[v, .int .i64 l] w (links_sizedP t l w)) :
    Calls Tryd.prog 50 #[.agg #[.int .i64 q, .string s, .int .i64 k, .slice A us.length c], .int .i64 l] w (links_sizedP (.mk q s k us) l w) := by
  have hL : us.length ≤ 9223372036854775807 := by unfold maxLen at hm; omega
  have q1 : IntKind.i64.wrap (l - 1) = l - 1 := IntWalk.i64_in _ (by omega)
  have H := hid (And.intro hm (And.intro hrow ih))
  have HL := hid (And.intro h0 h1)
  clear hm hrow ih
  go_enter Tryd.func50, Tryd.ntmps50
  go_wp2
  go_loopg [1, 5] us.length (fun g nv x wr => ∃ (i : Nat) (m : Int), i + g = us.length ∧ x = .int .i64 i ∧ nv = .int .i64 m ∧ Hid (m = max (-1) (l - (1 + nodesL (us.take i) : Nat))) ∧ Hid (Blk wr w.heap.size 24 #[.int .i64 q, .string s, .int .i64 k, .slice A us.length c]) ∧ Hid (Below w.heap.size w wr))
  case atStart => exact ⟨0, _, by omega, rfl, rfl, hid (by have := HL.out; simp [nodesL]; omega), hid (Blk.new _ _ _), hid ((Below.refl _ _).alloc (Nat.le_refl _) _)⟩
  case round =>
    obtain ⟨i, m, hi, rfl, rfl, hm, hb, hbl⟩ := hrel
    have Hi := hid hi
    have x3 : wr.cell? ⟨w.heap.size, 3, none⟩ = some (.slice A us.length c) := hb.out.cell 3
    by_cases hlt : i < us.length
    · have hlt' : (i : Int) < us.length := by omega
      by_cases hst : m ≥ 0
      · clear hi h0 h1
        have hst2 := hst
        obtain ⟨ad, q', s', n', A', m', c', rfl, hSb, hab, y0, y1, y2, y3, hel⟩ := (H.out.2.1.up hbl.out).elem hlt
        have Q := hid (And.intro hel (And.intro (List.getElem_mem hlt) (nodesL_take hlt)))
        have hm1 : 0 ≤ m ∧ m ≤ 1024 := by have h9 := hm.out; have := HL.out; omega
        have HM := hid hm1
        clear hel hSb hab hm1 hst2
        generalize us[i] = t at Q
        go_wp2_with (go_at_call 50; go_must (refine (H.out.2.2 t Q.out.2.1 _ _ _ _ HM.out.1 HM.out.2 Q.out.1).mono ?_); rintro e w1 ⟨rfl, b1⟩)
        have hgk := Hi.out
        have hbm := hb.out.lt
        go_roundg (gk - 1)
        case rel => exact ⟨i + 1, _, by omega, rfl, rfl, hid (by have h3 := Q.out.2.2; have h4 := hm.out; have h5 := HL.out; rw [h3]; omega), hid (hb.out.below b1 hbm), hid (below_hop b1 hbl.out)⟩
        case measure => omega
      · clear hi h0 h1
        go_wp2
        go_ret
        refine ⟨ret_int ?_, hbl.out⟩
        have h4 := hm.out
        have h5 := HL.out
        have h6 := nodesL_split hlt
        rw [nodes]
        omega
    · obtain rfl : i = us.length := by omega
      clear hi h0 h1
      have h4 := hm.out
      rw [List.take_length] at h4
      have H4 := hid h4
      clear h4
      by_cases hst : m ≥ 0
      all_goals
        go_wp2
        go_ret
        refine ⟨ret_int ?_, hbl.out⟩
        rw [nodes]
        exact H4.out
theorem links_sized : ∀ (N : Nat) (t : Ty), SizeOf.sizeOf t ≤ N → ∀ (l : Int) (v : Value) (S : Nat → Prop) (w : World), 0 ≤ l → l ≤ 1024 → TAt w S t v → Calls Tryd.prog 50 #[v, .int .i64 l] w (links_sizedP t l w) := by
  intro N
  induction N with
  | zero => intro t ht; cases t; simp at ht
  | succ N ih =>
  intro t ht l v S w h0 h1 hv
  obtain ⟨q, s, k, us⟩ := t
  obtain ⟨A, c, rfl, hc, hcm, _, hrow, _⟩ := hv.parts
  exact links_sized_node q s k l A us c S w h0 h1 (Nat.le_trans hc hcm) hrow (fun t hm l v S w => ih t (by have := ty_lt (k := q) (n := k) (s := s) hm; omega) l v S w)
/-- What it tells. -/
def ref15_sizeP (t : Ty) (l : Int) (w : World) (e : Ending) (w' : World) : Prop := e = .returned (.int .i64 (min (l + (nodes t : Nat)) 1025)) ∧ Below w.heap.size w w'
set_option maxHeartbeats 4000000 in
set_option maxRecDepth 100000 in
theorem ref15_size_node (q : Int) (s : ByteArray) (k l : Int) (A : Option Addr) (us : List Ty) (c : Nat) (S : Nat → Prop) (w : World) (h0 : 0 ≤ l) (h1 : l ≤ 1024) (hm : us.length ≤ maxLen) (hrow : TRow w S us A 0)
    (ih : ∀ t ∈ us, ∀ (l : Int) (v : Value) (S : Nat → Prop) (w : World), 0 ≤ l → l ≤ 1024 → TAt w S t v → Calls Tryd.prog 40 #[v, .int .i64 l] w (ref15_sizeP t l w)) :
    Calls Tryd.prog 40 #[.agg #[.int .i64 q, .string s, .int .i64 k, .slice A us.length c], .int .i64 l] w (ref15_sizeP (.mk q s k us) l w) := by
  have hL : us.length ≤ 9223372036854775807 := by unfold maxLen at hm; omega
  have q1 : IntKind.i64.wrap (l + 1) = l + 1 := IntWalk.i64_in _ (by omega)
  have H := hid (And.intro hm (And.intro hrow ih))
  have HL := hid (And.intro h0 h1)
  clear hm hrow ih
  go_enter Tryd.func40, Tryd.ntmps40
  go_wp2
  go_loopg [1, 5] us.length (fun g nv x wr => ∃ (i : Nat) (m : Int), i + g = us.length ∧ x = .int .i64 i ∧ nv = .int .i64 m ∧ Hid (m = min (l + (1 + nodesL (us.take i) : Nat)) 1025) ∧ Hid (Blk wr w.heap.size 24 #[.int .i64 q, .string s, .int .i64 k, .slice A us.length c]) ∧ Hid (Below w.heap.size w wr))
  case atStart => exact ⟨0, _, by omega, rfl, rfl, hid (by have := HL.out; simp [nodesL]; omega), hid (Blk.new _ _ _), hid ((Below.refl _ _).alloc (Nat.le_refl _) _)⟩
  case round =>
    obtain ⟨i, m, hi, rfl, rfl, hm, hb, hbl⟩ := hrel
    have Hi := hid hi
    have x3 : wr.cell? ⟨w.heap.size, 3, none⟩ = some (.slice A us.length c) := hb.out.cell 3
    by_cases hlt : i < us.length
    · have hlt' : (i : Int) < us.length := by omega
      by_cases hst : m ≤ 1024
      · clear hi h0 h1
        have hst2 := hst
        obtain ⟨ad, q', s', n', A', m', c', rfl, hSb, hab, y0, y1, y2, y3, hel⟩ := (H.out.2.1.up hbl.out).elem hlt
        have Q := hid (And.intro hel (And.intro (List.getElem_mem hlt) (nodesL_take hlt)))
        have hm1 : 0 ≤ m ∧ m ≤ 1024 := by have h9 := hm.out; have := HL.out; omega
        have HM := hid hm1
        clear hel hSb hab hm1 hst2
        generalize us[i] = t at Q
        go_wp2_with (go_at_call 40; go_must (refine (H.out.2.2 t Q.out.2.1 _ _ _ _ HM.out.1 HM.out.2 Q.out.1).mono ?_); rintro e w1 ⟨rfl, b1⟩)
        have hgk := Hi.out
        have hbm := hb.out.lt
        go_roundg (gk - 1)
        case rel => exact ⟨i + 1, _, by omega, rfl, rfl, hid (by have h3 := Q.out.2.2; have h4 := hm.out; have h5 := HL.out; rw [h3]; omega), hid (hb.out.below b1 hbm), hid (below_hop b1 hbl.out)⟩
        case measure => omega
      · clear hi h0 h1
        go_wp2
        go_ret
        refine ⟨ret_int ?_, hbl.out⟩
        have h4 := hm.out
        have h5 := HL.out
        have h6 := nodesL_split hlt
        rw [nodes]
        omega
    · obtain rfl : i = us.length := by omega
      clear hi h0 h1
      have h4 := hm.out
      rw [List.take_length] at h4
      have H4 := hid h4
      clear h4
      by_cases hst : m ≤ 1024
      all_goals
        go_wp2
        go_ret
        refine ⟨ret_int ?_, hbl.out⟩
        rw [nodes]
        exact H4.out
theorem ref15_size : ∀ (N : Nat) (t : Ty), SizeOf.sizeOf t ≤ N → ∀ (l : Int) (v : Value) (S : Nat → Prop) (w : World), 0 ≤ l → l ≤ 1024 → TAt w S t v → Calls Tryd.prog 40 #[v, .int .i64 l] w (ref15_sizeP t l w) := by
  intro N
  induction N with
  | zero => intro t ht; cases t; simp at ht
  | succ N ih =>
  intro t ht l v S w h0 h1 hv
  obtain ⟨q, s, k, us⟩ := t
  obtain ⟨A, c, rfl, hc, hcm, _, hrow, _⟩ := hv.parts
  exact ref15_size_node q s k l A us c S w h0 h1 (Nat.le_trans hc hcm) hrow (fun t hm l v S w => ih t (by have := ty_lt (k := q) (n := k) (s := s) hm; omega) l v S w)
set_option maxHeartbeats 4000000 in
set_option maxRecDepth 100000 in
theorem links_Size (t : Ty) (v : Value) (S : Nat → Prop) (w : World) (hv : TAt w S t v) : Calls Tryd.prog 35 #[v] w fun e w' => e = .returned (.int .i64 (sizeT t)) ∧ Below w.heap.size w w' := by
  have HV := hid hv
  obtain ⟨q, s, k, A, m, c, rfl⟩ := hv.agg
  clear hv
  have hz : (sizeT t : Int) = min (nodes t : Int) 1025 := by unfold sizeT; omega
  have HZ := hid hz
  clear hz
  go_enter Tryd.func35, Tryd.ntmps35
  go_wp2_with (go_at_call 50; go_must (refine (links_sized _ t (Nat.le_refl _) _ _ (fun _ => True) _ (by omega) (by omega) (HV.out.all.up (by go_grown : Below w.heap.size w _))).mono ?_); rintro e w1 ⟨rfl, b1⟩; go_must (have b2 := hid (below_then (B := w.heap.size) b1 (by go_grown : Below w.heap.size w _) (by simp)); clear b1))
  all_goals
    go_ret
    refine ⟨ret_int ?_, b2.out⟩
    first | rfl | (rw [HZ.out]; done) | (rw [HZ.out]; omega) | (rw [HZ.out]; unfold wrap64; omega)
set_option maxHeartbeats 4000000 in
set_option maxRecDepth 100000 in
theorem ref15_Size (t : Ty) (v : Value) (S : Nat → Prop) (w : World) (hv : TAt w S t v) : Calls Tryd.prog 26 #[v] w fun e w' => e = .returned (.int .i64 (sizeT t)) ∧ Below w.heap.size w w' := by
  have HV := hid hv
  obtain ⟨q, s, k, A, m, c, rfl⟩ := hv.agg
  clear hv
  have hz : (sizeT t : Int) = min (nodes t : Int) 1025 := by unfold sizeT; omega
  have HZ := hid hz
  clear hz
  go_enter Tryd.func26, Tryd.ntmps26
  go_wp2_with (go_at_call 40; go_must (refine (ref15_size _ t (Nat.le_refl _) _ _ (fun _ => True) _ (by omega) (by omega) (HV.out.all.up (by go_grown : Below w.heap.size w _))).mono ?_); rintro e w1 ⟨rfl, b1⟩; go_must (have b2 := hid (below_then (B := w.heap.size) b1 (by go_grown : Below w.heap.size w _) (by simp)); clear b1))
  all_goals
    go_ret
    refine ⟨ret_int ?_, b2.out⟩
    first | rfl | (rw [HZ.out]; done) | (rw [HZ.out]; omega) | (rw [HZ.out]; unfold wrap64; omega)
set_option maxHeartbeats 4000000 in
set_option maxRecDepth 100000 in
theorem typ_Size (t : Ty) (v : Value) (S : Nat → Prop) (w : World) (hv : TAt w S t v) : Calls Tryd.prog 23 #[v] w fun e w' => e = .returned (.int .i64 (sizeT t)) ∧ Below w.heap.size w w' := by
  have HV := hid hv
  obtain ⟨q, s, k, A, m, c, rfl⟩ := hv.agg
  clear hv
  have hz : (sizeT t : Int) = min (nodes t : Int) 1025 := by unfold sizeT; omega
  have HZ := hid hz
  clear hz
  go_enter Tryd.func23, Tryd.ntmps23
  go_wp2_with (go_at_call 35; go_must (refine (links_Size t _ (fun _ => True) _ (HV.out.all.up (by go_grown : Below w.heap.size w _))).mono ?_); rintro e w1 ⟨rfl, b1⟩; go_must (have b2 := hid (below_then (B := w.heap.size) b1 (by go_grown : Below w.heap.size w _) (by simp)); clear b1))
  all_goals
    go_ret
    refine ⟨ret_int ?_, b2.out⟩
    first | rfl | (rw [HZ.out]; done) | (rw [HZ.out]; omega) | (rw [HZ.out]; unfold wrap64; omega)
end Go.Proofs.YtnlifgcnmhakiaaDoor
