/-
  THE WALK OF athanorref15.good.
-/
import Derived.Test.YtnlifgcnmhakiaaTRTab
import Derived.Test.YtnlifgcnmhakiaaTPart
import Derived.Deep.DeepCutAuto
import Derived.Deep.CutBlock
namespace Go.Proofs.Ytnlifgcnmhakiaa
open Go.ChangeShapes Go.WideShapes Go.ChangeAt Go.RowKit

def GoodC (nv p pv c : Nat) (x : Value) (t : Ty) : Prop := ∀ (v : Value) (S : Nat → Prop) (w : World), Blk w p 65 #[.slice (some ⟨pv, 0, none⟩) nv c, x] → TAt w S t v → Calls Try.prog 36 #[.pointer (some ⟨p, 0, none⟩), v] w (PartP nv t w)
theorem goodL_prefix {nv : Nat} {us : List Ty} {i : Nat} (h : goodL nv (us.take i) = false) : goodL nv us = false := by
  induction us generalizing i with
  | nil => simp [goodL] at h
  | cons t ts ih =>
    cases i with
    | zero => simp [goodL] at h
    | succ i =>
      rw [List.take_succ_cons, goodL] at h
      rw [goodL]
      cases h1 : goodT nv t with
      | false => rfl
      | true => rw [h1, Bool.true_and] at h; rw [ih h]; rfl
set_option maxHeartbeats 8000000 in
set_option maxRecDepth 100000 in
theorem good_node {nv p pv c : Nat} {x : Value} (q : Int) (s : ByteArray) (n : Int) (A : Option Addr) (us : List Ty) (c2 : Nat) (h : ∀ t ∈ us, GoodC nv p pv c x t) (S : Nat → Prop) (w : World) (hb : Blk w p 65 #[.slice (some ⟨pv, 0, none⟩) nv c, x]) (hrow : TRow w S us A 0) (hm : us.length ≤ maxLen) (_hnv : nv ≤ 1000) :
    Calls Try.prog 36 #[.pointer (some ⟨p, 0, none⟩), .agg #[.int .i64 q, .string s, .int .i64 n, .slice A us.length c2]] w (PartP nv (.mk q s n us) w) := by
  have hL : us.length ≤ 9223372036854775807 := by unfold maxLen at hm; omega
  have hB := hid ((Below.refl w.heap.size w).alloc (Nat.le_refl _) (.cells #[.int .i64 q, .string s, .int .i64 n, .slice A us.length c2] 34))
  have HX := hid (Blk.new w 34 #[.int .i64 q, .string s, .int .i64 n, .slice A us.length c2])
  have H := hid (And.intro h (And.intro hb (And.intro hrow hm)))
  have x0 : ∀ o, (w.alloc o).cell? ⟨p, 0, none⟩ = some (.slice (some ⟨pv, 0, none⟩) nv c) := fun o => (hb.alloc o).cell 0
  have hpl := hid hb.lt
  clear h hb hrow hm
  unfold PartP
  rw [goodT]
  have hb0 : ∃ b, b = decide (okN nv q s n us.length) := ⟨_, rfl⟩
  obtain ⟨b, hbb⟩ := hb0
  rw [← hbb]
  have Hbb := hid hbb
  clear hbb
  go_enter Try.func36, Try.ntmps36
  go_upto_block 0 with fail
  go_cut [5] (fun s5 wx => s5 = .bool b ∧ Hid (Below w.heap.size w wx) ∧ Hid (Blk wx w.heap.size 34 #[.int .i64 q, .string s, .int .i64 n, .slice A us.length c2]))
  case first =>
    by_cases h1 : q = 1
    · subst h1
      by_cases hs : s.toList = []
      case neg =>
        have He := hid (Hbb.out.trans (decide_eq_false (by rw [ok1]; simp [hs])))
        (have hs2 : (s.toList == []) = false := by simpa using hs); (have hs3 : s.toList.isEmpty = false := by simpa using hs); (have hs4 : decide (s.toList = []) = false := by simpa using hs)
        (go_wp2; (try go_quiet (fail)); (try go_wp2_with fail); go_meet; exact ⟨by rw [He.out], hid (by first | exact hB.out | exact below_drewN hB.out _), hid (by first | exact HX.out | exact HX.out.drewN _)⟩)
      (have hs2 : (s.toList == []) = true := by rw [hs]; rfl); (have hs3 : s.toList.isEmpty = true := by rw [hs]; rfl)
      by_cases hn : n = 0
      case neg =>
        have He := hid (Hbb.out.trans (decide_eq_false (by rw [ok1]; simp [hn])))
        have hn2 : (n == 0) = false := by simpa using hn
        (go_wp2; (try go_quiet (fail)); (try go_wp2_with fail); go_meet; exact ⟨by rw [He.out], hid (by first | exact hB.out | exact below_drewN hB.out _), hid (by first | exact HX.out | exact HX.out.drewN _)⟩)
      subst hn
      (by_cases hl : us.length = 0; rotate_left; (have He := hid (Hbb.out.trans (decide_eq_false (by rw [ok1]; simp [hl])))); (have hn8 : ((us.length : Int) == 0) = false := beq_eq_false_iff_ne.2 (by omega)); (have hn9 : (us.length == 0) = false := beq_eq_false_iff_ne.2 hl); (go_wp2; (try go_quiet (fail)); (try go_wp2_with fail); go_meet; exact ⟨by rw [He.out], hid (by first | exact hB.out | exact below_drewN hB.out _), hid (by first | exact HX.out | exact HX.out.drewN _)⟩); (have He := hid (Hbb.out.trans (decide_eq_true (by rw [ok1]; exact ⟨hs, rfl, hl⟩)))); (have hn8 : ((us.length : Int) == 0) = true := beq_iff_eq.2 (by omega)); (have hn9 : (us.length == 0) = true := beq_iff_eq.2 hl); (have Hl := hid hl); clear hl; (go_wp2; (try go_quiet (fail)); (try go_wp2_with fail); go_meet; exact ⟨by rw [He.out], hid (by first | exact hB.out | exact below_drewN hB.out _ | (have h8 := hB.out; rw [Hl.out] at h8; first | exact h8 | exact below_drewN h8 _)), hid (by first | exact HX.out | exact HX.out.drewN _ | (have h8 := HX.out; rw [Hl.out] at h8; rw [Hl.out]; first | exact h8 | exact h8.drewN _))⟩))
    by_cases h2 : q = 2
    · subst h2
      by_cases hs : s.toList = []
      case neg =>
        have He := hid (Hbb.out.trans (decide_eq_false (by rw [ok2]; simp [hs])))
        (have hs2 : (s.toList == []) = false := by simpa using hs); (have hs3 : s.toList.isEmpty = false := by simpa using hs); (have hs4 : decide (s.toList = []) = false := by simpa using hs)
        (go_wp2; (try go_quiet (fail)); (try go_wp2_with fail); go_meet; exact ⟨by rw [He.out], hid (by first | exact hB.out | exact below_drewN hB.out _), hid (by first | exact HX.out | exact HX.out.drewN _)⟩)
      (have hs2 : (s.toList == []) = true := by rw [hs]; rfl); (have hs3 : s.toList.isEmpty = true := by rw [hs]; rfl)
      by_cases hn : 1 ≤ n
      case neg =>
        have He := hid (Hbb.out.trans (decide_eq_false (by rw [ok2]; simp [hn])))
        have hn2 : decide (1 ≤ n) = false := by simpa using hn
        (go_wp2; (try go_quiet (fail)); (try go_wp2_with fail); go_meet; exact ⟨by rw [He.out], hid (by first | exact hB.out | exact below_drewN hB.out _), hid (by first | exact HX.out | exact HX.out.drewN _)⟩)
      by_cases hn2 : n ≤ nv
      case neg =>
        have He := hid (Hbb.out.trans (decide_eq_false (by rw [ok2]; simp [hn2])))
        have hn3 : decide (n ≤ (nv : Int)) = false := by simpa using hn2
        (go_wp2; (try go_quiet (fail)); (try go_wp2_with fail); go_meet; exact ⟨by rw [He.out], hid (by first | exact hB.out | exact below_drewN hB.out _), hid (by first | exact HX.out | exact HX.out.drewN _)⟩)
      (by_cases hl : us.length = 0; rotate_left; (have He := hid (Hbb.out.trans (decide_eq_false (by rw [ok2]; simp [hl])))); (have hn8 : ((us.length : Int) == 0) = false := beq_eq_false_iff_ne.2 (by omega)); (have hn9 : (us.length == 0) = false := beq_eq_false_iff_ne.2 hl); (go_wp2; (try go_quiet (fail)); (try go_wp2_with fail); go_meet; exact ⟨by rw [He.out], hid (by first | exact hB.out | exact below_drewN hB.out _), hid (by first | exact HX.out | exact HX.out.drewN _)⟩); (have He := hid (Hbb.out.trans (decide_eq_true (by rw [ok2]; exact ⟨hs, hn, hn2, hl⟩)))); (have hn8 : ((us.length : Int) == 0) = true := beq_iff_eq.2 (by omega)); (have hn9 : (us.length == 0) = true := beq_iff_eq.2 hl); (have Hl := hid hl); clear hl; (go_wp2; (try go_quiet (fail)); (try go_wp2_with fail); go_meet; exact ⟨by rw [He.out], hid (by first | exact hB.out | exact below_drewN hB.out _ | (have h8 := hB.out; rw [Hl.out] at h8; first | exact h8 | exact below_drewN h8 _)), hid (by first | exact HX.out | exact HX.out.drewN _ | (have h8 := HX.out; rw [Hl.out] at h8; rw [Hl.out]; first | exact h8 | exact h8.drewN _))⟩))
    by_cases h3 : q = 3
    · subst h3
      by_cases hs : s.toList = []
      case neg =>
        have He := hid (Hbb.out.trans (decide_eq_false (by rw [ok3]; simp [hs])))
        (have hs2 : (s.toList == []) = false := by simpa using hs); (have hs3 : s.toList.isEmpty = false := by simpa using hs); (have hs4 : decide (s.toList = []) = false := by simpa using hs)
        (go_wp2; (try go_quiet (fail)); (try go_wp2_with fail); go_meet; exact ⟨by rw [He.out], hid (by first | exact hB.out | exact below_drewN hB.out _), hid (by first | exact HX.out | exact HX.out.drewN _)⟩)
      (have hs2 : (s.toList == []) = true := by rw [hs]; rfl); (have hs3 : s.toList.isEmpty = true := by rw [hs]; rfl)
      by_cases hn : n = 0
      case neg =>
        have He := hid (Hbb.out.trans (decide_eq_false (by rw [ok3]; simp [hn])))
        have hn2 : (n == 0) = false := by simpa using hn
        (go_wp2; (try go_quiet (fail)); (try go_wp2_with fail); go_meet; exact ⟨by rw [He.out], hid (by first | exact hB.out | exact below_drewN hB.out _), hid (by first | exact HX.out | exact HX.out.drewN _)⟩)
      subst hn
      (by_cases hl : us.length = 2; rotate_left; (have He := hid (Hbb.out.trans (decide_eq_false (by rw [ok3]; simp [hl])))); (have hn8 : ((us.length : Int) == 2) = false := beq_eq_false_iff_ne.2 (by omega)); (have hn9 : (us.length == 2) = false := beq_eq_false_iff_ne.2 hl); (go_wp2; (try go_quiet (fail)); (try go_wp2_with fail); go_meet; exact ⟨by rw [He.out], hid (by first | exact hB.out | exact below_drewN hB.out _), hid (by first | exact HX.out | exact HX.out.drewN _)⟩); (have He := hid (Hbb.out.trans (decide_eq_true (by rw [ok3]; exact ⟨hs, rfl, hl⟩)))); (have hn8 : ((us.length : Int) == 2) = true := beq_iff_eq.2 (by omega)); (have hn9 : (us.length == 2) = true := beq_iff_eq.2 hl); (have Hl := hid hl); clear hl; (go_wp2; (try go_quiet (fail)); (try go_wp2_with fail); go_meet; exact ⟨by rw [He.out], hid (by first | exact hB.out | exact below_drewN hB.out _ | (have h8 := hB.out; rw [Hl.out] at h8; first | exact h8 | exact below_drewN h8 _)), hid (by first | exact HX.out | exact HX.out.drewN _ | (have h8 := HX.out; rw [Hl.out] at h8; rw [Hl.out]; first | exact h8 | exact h8.drewN _))⟩))
    by_cases h4 : q = 4
    · subst h4
      by_cases hs : s.toList = []
      case pos =>
        have He := hid (Hbb.out.trans (decide_eq_false (by rw [ok4]; simp [hs])))
        (have hs2 : (s.toList == []) = true := by rw [hs]; rfl); (have hs3 : s.toList.isEmpty = true := by rw [hs]; rfl)
        (go_wp2; (try go_quiet (fail)); (try go_wp2_with fail); go_meet; exact ⟨by rw [He.out], hid (by first | exact hB.out | exact below_drewN hB.out _), hid (by first | exact HX.out | exact HX.out.drewN _)⟩)
      (have hs2 : (s.toList == []) = false := by simpa using hs); (have hs3 : s.toList.isEmpty = false := by simpa using hs); (have hs4 : decide (s.toList = []) = false := by simpa using hs)
      by_cases hn : n = 0
      case neg =>
        have He := hid (Hbb.out.trans (decide_eq_false (by rw [ok4]; simp [hn])))
        have hn2 : (n == 0) = false := by simpa using hn
        (go_wp2; (try go_quiet (fail)); (try go_wp2_with fail); go_meet; exact ⟨by rw [He.out], hid (by first | exact hB.out | exact below_drewN hB.out _), hid (by first | exact HX.out | exact HX.out.drewN _)⟩)
      subst hn
      have He := hid (Hbb.out.trans (decide_eq_true (by rw [ok4]; exact ⟨hs, rfl⟩)))
      (go_wp2; (try go_quiet (fail)); (try go_wp2_with fail); go_meet; exact ⟨by rw [He.out], hid (by first | exact hB.out | exact below_drewN hB.out _), hid (by first | exact HX.out | exact HX.out.drewN _)⟩)
    have He := hid (Hbb.out.trans (decide_eq_false (ok0 h1 h2 h3 h4)))
    (go_wp2; (try go_quiet (fail)); (try go_wp2_with fail); go_meet; exact ⟨by rw [He.out], hid (by first | exact hB.out | exact below_drewN hB.out _), hid (by first | exact HX.out | exact HX.out.drewN _)⟩)
  case rest =>
    clear HX hB x0
    obtain ⟨rfl, hB, HX⟩ := hcut
    go_wp2
    go_loopg [5, 6] us.length (fun g y z wr => ∃ i : Nat, i + g = us.length ∧ z = .int .i64 i ∧ y = .bool (b && goodL nv (us.take i)) ∧ Hid (Below w.heap.size w wr) ∧ Hid (Blk wr w.heap.size 34 #[.int .i64 q, .string s, .int .i64 n, .slice A us.length c2]))
    case atStart => exact ⟨0, by omega, rfl, by simp [goodL], hB, HX⟩
    case round =>
      clear hB HX
      obtain ⟨i, hi, rfl, rfl, hB, HX⟩ := hrel
      have Hi := hid hi
      have x3 : wr.cell? ⟨w.heap.size, 3, none⟩ = some (.slice A us.length c2) := HX.out.cell 3
      by_cases hlt : i < us.length
      case neg =>
        obtain rfl : i = us.length := by omega
        have e9 : (b && goodL nv (us.take us.length)) = (b && goodL nv us) := by rw [List.take_length]
        generalize (b && goodL nv (us.take us.length)) = r at e9
        have He := hid e9
        clear hi e9
        go_wp2
        go_ret
        exact ⟨ret_bool He.out, hB.out⟩
      have hlt' : (i : Int) < us.length := by omega
      cases hr : (b && goodL nv (us.take i)) with
      | false =>
        have He : Hid (false = (b && goodL nv us)) := hid (by
          cases hb9 : b with
          | false => rfl
          | true => rw [hb9, Bool.true_and] at hr; rw [goodL_prefix hr]; rfl)
        clear hi hr
        go_wp2
        go_ret
        exact ⟨ret_bool He.out, hB.out⟩
      | true =>
        obtain ⟨ad, q', s', n', A3, m', c3, rfl, hSb, hab, y0, y1, y2, y3, hel⟩ := (H.out.2.2.1.up hB.out).elem hlt
        have hb9 : b = true := by cases hb8 : b with | true => rfl | false => rw [hb8] at hr; simp at hr
        have hpr : goodL nv (us.take i) = true := by rw [hb9, Bool.true_and] at hr; exact hr
        have Q := hid (And.intro hel (And.intro (List.getElem_mem hlt) (And.intro (goodL_take (nv := nv) hlt) (And.intro hb9 hpr))))
        have hiw : IntKind.i64.wrap ((i : Int) + 1) = i + 1 := IntWalk.i64_in _ (by omega)
        clear hi hr hSb hab hel hb9 hpr
        generalize us[i] = t at Q
        go_wp2_with (go_at_call 36; go_must (refine (H.out.1 t Q.out.2.1 _ S wr (H.out.2.1.below hB.out hpl.out) Q.out.1).mono ?_); rintro e w1 ⟨rfl, b1⟩)
        have hgk := Hi.out
        go_roundg (gk - 1)
        case rel => exact ⟨i + 1, by omega, rfl, by rw [Q.out.2.2.1, Q.out.2.2.2.1, Q.out.2.2.2.2]; rfl, hid (below_hop b1 hB.out), hid (HX.out.below b1 HX.out.lt)⟩
        case measure => omega
theorem ref15_good {nv p pv c : Nat} {x : Value} (hnv : nv ≤ 1000) : ∀ (N : Nat) (t : Ty), SizeOf.sizeOf t ≤ N → GoodC nv p pv c x t := by
  intro N
  induction N with
  | zero => intro t ht; cases t; simp at ht
  | succ N ih =>
  intro t ht v S w hb hv
  obtain ⟨q, s, k, us⟩ := t
  obtain ⟨A, c2, rfl, hc, hcm, _, hrow, _⟩ := hv.parts
  exact good_node q s k A us c2 (fun t hm => ih t (by have := ty_lt (k := q) (n := k) (s := s) hm; omega)) S w hb hrow (Nat.le_trans hc hcm) hnv
end Go.Proofs.Ytnlifgcnmhakiaa
