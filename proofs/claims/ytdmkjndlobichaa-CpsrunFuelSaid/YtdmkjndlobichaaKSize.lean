/-
  THE WALKS OF cps.sized AND Size.
-/
import Derived.Test.YtdmkjndlobichaaKWeigh
namespace Go.Proofs.Ytdmkjndlobichaa
set_option linter.all false
open Go.ChangeShapes Go.WideShapes Go.ChangeAt Go.RowKit
open Tm (Te nodes nodesL)
def SizedT (t : Te) (n : Int) (w : World) (e : Ending) (w' : World) : Prop := (∃ r : Int, e = .returned (.int .i64 r) ∧ (nodes t ≤ n → r = n - nodes t) ∧ (n < nodes t → r = -1)) ∧ Below w.heap.size w w'
set_option maxHeartbeats 8000000 in
set_option maxRecDepth 100000 in
theorem sizet_node (k x m : Int) (b : Bool) (T A F U : Option Addr) (tl tc al ac fc uc : Nat) (fh : List (Int × List Int)) (fb us : List Te) (n : Int) (S : Nat → Prop) (w : World) (hn0 : 0 ≤ n) (hn : n ≤ 65536) (hu : us.length ≤ 17592186044416) (hf : fb.length ≤ 17592186044416) (hfl : fh.length = fb.length) (hfr : FRow w S fh fb F 0) (hrow : TRow w S us U 0)
    (ih : ∀ t, t ∈ fb ∨ t ∈ us → ∀ (n : Int) (v : Value) (S : Nat → Prop) (w : World), 0 ≤ n → n ≤ 65536 → TAt w S t v → Calls Try.prog 36 #[v, .int .i64 n] w (SizedT t n w)) (ts : List Int) (ats : List (Bool × Int)) :
    Calls Try.prog 36 #[.agg #[.int .i64 k, .int .i64 x, .int .i64 m, .bool b, .slice T tl tc, .slice A al ac, .slice F fb.length fc, .slice U us.length uc], .int .i64 n] w (SizedT (.mk k x m b ts ats fh fb us) n w) := by
  have hL : us.length ≤ 281474976710656 := by omega
  have hF : fb.length ≤ 281474976710656 := by omega
  have q4 : IntKind.i64.wrap (n - 1) = n - 1 := IntWalk.i64_in _ (by omega)
  have H := hid (And.intro hfr (And.intro hrow (And.intro ih hn0)))
  have HFL := hid hfl
  clear hfr hrow ih hn0 hu hf hfl
  go_enter Try.func36, Try.ntmps36
  go_wp2
  go_loopg [1, 5] fb.length (fun g nv z wr => ∃ (i : Nat) (m9 : Int), i + g = fb.length ∧ z = .int .i64 i ∧ nv = .int .i64 m9 ∧ m9 ≤ 65536 ∧ Hid ((1 + (nodesL (fb.take i) : Int) ≤ n → m9 = n - 1 - nodesL (fb.take i)) ∧ (n < 1 + (nodesL (fb.take i) : Int) → m9 = -1)) ∧ Hid (Blk wr w.heap.size 27 #[.int .i64 k, .int .i64 x, .int .i64 m, .bool b, .slice T tl tc, .slice A al ac, .slice F fb.length fc, .slice U us.length uc]) ∧ Hid (Below w.heap.size w wr))
  case atStart => exact ⟨0, _, by omega, rfl, rfl, by omega, hid (by have := H.out.2.2.2; simp [nodesL]; omega), hid (Blk.new _ _ _), hid ((Below.refl _ _).alloc (Nat.le_refl _) _)⟩
  case round =>
    obtain ⟨i, m9, hi, rfl, rfl, hm0, hm, hb, hbl⟩ := hrel
    have Hi := hid hi
    have HM9 := hid hm0
    obtain ⟨x0, x1, x2, x3, x4, x5, x6, x7⟩ := hb.out.eight
    have hlen := Tm.nodesL_le fb i
    by_cases hlt : i < fb.length ∧ 0 ≤ m9
    · have hlt1 := hlt.1
      have hlt' : (i : Int) < fb.length := by omega
      have m0 := hlt.2
      have hlt2 : i < fh.length := by rw [HFL.out]; exact hlt1
      have HNT := hid (And.intro (Tm.nodesL_take hlt1) (Tm.nodesL_part hlt1))
      obtain ⟨ad, P, pc, k2, x2', n2, i2, T2, tl2, tc2, A2, al2, ac2, F2, fl2, fc2, U2, ul2, uc2, rfl, hSb, hab, ⟨y0, y1, y2, y3, y4, y5, y6, y7, y8, y9⟩, hIp, hwp, hel⟩ := (H.out.1.up hbl.out).elem hlt1 hlt2
      have Q := hid (And.intro hel (And.intro (List.getElem_mem hlt1) HNT.out))
      clear hi hel hSb hab hm0 hIp hwp y0 y1 hlt hlen
      generalize fb[i] = t at Q
      go_wp2_with (go_at_call 36; go_must (refine (H.out.2.2.1 t (.inl Q.out.2.1) _ _ _ _ m0 HM9.out Q.out.1).mono ?_); rintro e w1 ⟨⟨r, rfl, hr⟩, b1⟩)
      have hgk := Hi.out
      have hbm := hb.out.lt
      have hm0 := HM9.out
      have hm9 := hm.out
      have h4 := Q.out.2.2.1
      go_roundg (gk - 1)
      case rel => exact ⟨i + 1, r, by omega, by go_num, rfl, by omega, hid (by rw [h4]; omega), hid (hb.out.below b1 hbm), hid (below_hop b1 hbl.out)⟩
      case measure => omega
    · have hx : Hid ((1 + (nodesL fb : Int) ≤ n → m9 = n - 1 - nodesL fb) ∧ (n < 1 + (nodesL fb : Int) → m9 = -1)) := by
        have h1 := hm.out
        by_cases h2 : i = fb.length
        · rw [h2, List.take_length] at h1; exact h1
        · constructor <;> intro h3 <;> omega
      have hi2 : ((i : Int) < fb.length ∧ ¬ 0 ≤ m9) ∨ (¬ (i : Int) < fb.length) := by omega
      clear hi hm hlt hm0 hlen
      rcases hi2 with ⟨hi2, hi3⟩ | hi2
      · go_wp2
        go_loopg [1, 6] us.length (fun g nv z wq => ∃ (j : Nat) (m8 : Int), j + g = us.length ∧ z = .int .i64 j ∧ nv = .int .i64 m8 ∧ m8 ≤ 65536 ∧ Hid ((1 + (nodesL fb : Int) + nodesL (us.take j) ≤ n → m8 = n - 1 - nodesL fb - nodesL (us.take j)) ∧ (n < 1 + (nodesL fb : Int) + nodesL (us.take j) → m8 = -1)) ∧ Hid (Blk wq w.heap.size 27 #[.int .i64 k, .int .i64 x, .int .i64 m, .bool b, .slice T tl tc, .slice A al ac, .slice F fb.length fc, .slice U us.length uc]) ∧ Hid (Below w.heap.size w wq))
        case atStart => exact ⟨0, m9, by omega, rfl, rfl, HM9.out, hid (by have h1 := hx.out; simp [nodesL]; omega), hb, hbl⟩
        case round =>
          clear x0 x1 x2 x3 x4 x5 x6 x7
          obtain ⟨j, m8, hj, rfl, rfl, hm0, hm, hb, hbl⟩ := hrel
          have Hj := hid hj
          have HM0 := hid hm0
          have x7 : wr.cell? ⟨w.heap.size, 7, none⟩ = some (.slice U us.length uc) := hb.out.cell 7
          by_cases hlt : j < us.length
          · have hlt' : (j : Int) < us.length := by omega
            have HNT := hid (And.intro (Tm.nodesL_take hlt) (Tm.nodesL_part hlt))
            by_cases hbig : 0 ≤ m8
            · obtain ⟨ad, k2, x2', n2, i2, T2, tl2, tc2, A2, al2, ac2, F2, fl2, fc2, U2, ul2, uc2, rfl, hSb, hab, ⟨y0, y1, y2, y3, y4, y5, y6, y7⟩, hel⟩ := (H.out.2.1.up hbl.out).elem hlt
              have Q := hid (And.intro hel (And.intro (List.getElem_mem hlt) HNT.out))
              clear hj hel hSb hab hm0
              generalize us[j] = t at Q
              go_wp2_with (go_at_call 36; go_must (refine (H.out.2.2.1 t (.inr Q.out.2.1) _ _ _ _ hbig HM0.out Q.out.1).mono ?_); rintro e w1 ⟨⟨r, rfl, hr⟩, b1⟩)
              have hgk := Hj.out
              have hbm := hb.out.lt
              have hm0 := HM0.out
              have hm9 := hm.out
              have h4 := Q.out.2.2.1
              go_roundg (gk - 1)
              case rel => exact ⟨j + 1, r, by omega, by go_num, rfl, by omega, hid (by rw [h4]; omega), hid (hb.out.below b1 hbm), hid (below_hop b1 hbl.out)⟩
              case measure => omega
            · clear hj
              go_wp2
              go_ret
              refine ⟨⟨m8, rfl, ?_⟩, hbl.out⟩
              have h1 := hm.out
              have h2 := HNT.out
              rw [nodes]
              omega
          · obtain rfl : j = us.length := by omega
            clear hj
            have h1 := hm.out
            rw [List.take_length] at h1
            have H1 := hid h1
            clear h1
            go_wp2
            all_goals
              go_ret
              refine ⟨⟨m8, rfl, ?_⟩, hbl.out⟩
              have h1 := H1.out
              rw [nodes]
              omega
      · go_wp2
        go_loopg [1, 6] us.length (fun g nv z wq => ∃ (j : Nat) (m8 : Int), j + g = us.length ∧ z = .int .i64 j ∧ nv = .int .i64 m8 ∧ m8 ≤ 65536 ∧ Hid ((1 + (nodesL fb : Int) + nodesL (us.take j) ≤ n → m8 = n - 1 - nodesL fb - nodesL (us.take j)) ∧ (n < 1 + (nodesL fb : Int) + nodesL (us.take j) → m8 = -1)) ∧ Hid (Blk wq w.heap.size 27 #[.int .i64 k, .int .i64 x, .int .i64 m, .bool b, .slice T tl tc, .slice A al ac, .slice F fb.length fc, .slice U us.length uc]) ∧ Hid (Below w.heap.size w wq))
        case atStart => exact ⟨0, m9, by omega, rfl, rfl, HM9.out, hid (by have h1 := hx.out; simp [nodesL]; omega), hb, hbl⟩
        case round =>
          clear x0 x1 x2 x3 x4 x5 x6 x7
          obtain ⟨j, m8, hj, rfl, rfl, hm0, hm, hb, hbl⟩ := hrel
          have Hj := hid hj
          have HM0 := hid hm0
          have x7 : wr.cell? ⟨w.heap.size, 7, none⟩ = some (.slice U us.length uc) := hb.out.cell 7
          by_cases hlt : j < us.length
          · have hlt' : (j : Int) < us.length := by omega
            have HNT := hid (And.intro (Tm.nodesL_take hlt) (Tm.nodesL_part hlt))
            by_cases hbig : 0 ≤ m8
            · obtain ⟨ad, k2, x2', n2, i2, T2, tl2, tc2, A2, al2, ac2, F2, fl2, fc2, U2, ul2, uc2, rfl, hSb, hab, ⟨y0, y1, y2, y3, y4, y5, y6, y7⟩, hel⟩ := (H.out.2.1.up hbl.out).elem hlt
              have Q := hid (And.intro hel (And.intro (List.getElem_mem hlt) HNT.out))
              clear hj hel hSb hab hm0
              generalize us[j] = t at Q
              go_wp2_with (go_at_call 36; go_must (refine (H.out.2.2.1 t (.inr Q.out.2.1) _ _ _ _ hbig HM0.out Q.out.1).mono ?_); rintro e w1 ⟨⟨r, rfl, hr⟩, b1⟩)
              have hgk := Hj.out
              have hbm := hb.out.lt
              have hm0 := HM0.out
              have hm9 := hm.out
              have h4 := Q.out.2.2.1
              go_roundg (gk - 1)
              case rel => exact ⟨j + 1, r, by omega, by go_num, rfl, by omega, hid (by rw [h4]; omega), hid (hb.out.below b1 hbm), hid (below_hop b1 hbl.out)⟩
              case measure => omega
            · clear hj
              go_wp2
              go_ret
              refine ⟨⟨m8, rfl, ?_⟩, hbl.out⟩
              have h1 := hm.out
              have h2 := HNT.out
              rw [nodes]
              omega
          · obtain rfl : j = us.length := by omega
            clear hj
            have h1 := hm.out
            rw [List.take_length] at h1
            have H1 := hid h1
            clear h1
            go_wp2
            all_goals
              go_ret
              refine ⟨⟨m8, rfl, ?_⟩, hbl.out⟩
              have h1 := H1.out
              rw [nodes]
              omega
theorem cps_sized : ∀ (N : Nat) (t : Te), SizeOf.sizeOf t ≤ N → ∀ (n : Int) (v : Value) (S : Nat → Prop) (w : World), 0 ≤ n → n ≤ 65536 → TAt w S t v → Calls Try.prog 36 #[v, .int .i64 n] w (SizedT t n w) := by
  intro N
  induction N with
  | zero => intro t ht; cases t; simp at ht
  | succ N ih =>
  intro t ht n v S w h0 h1 hv
  obtain ⟨k, x, m, i, ts, ats, fh, fb, us⟩ := t
  obtain ⟨T, tc, A, ac, F, fc, U, uc, rfl, hI, hA, hF, hfl, hfr, hU, hrow, _⟩ := hv.parts
  refine sizet_node k x m i T A F U ts.length tc ats.length ac fc uc fh fb us n S w h0 h1 hU.2.2.2 hF.2.2.2 hfl hfr hrow (fun t hm n9 v S w => ih t ?_ n9 v S w) ts ats
  rcases hm with hm | hm
  · have := Tm.fn_lt (k := k) (x := x) (n := m) (i := i) (ts := ts) (ats := ats) (fh := fh) (us := us) hm
    omega
  · have := Tm.te_lt (k := k) (x := x) (n := m) (i := i) (ts := ts) (ats := ats) (fh := fh) (fb := fb) hm
    omega
/-- How many terms, at most one more than there may be. -/
def sizeTe (t : Te) : Int := if nodes t ≤ 65536 then nodes t else 65537
theorem cps_Size (t : Te) (v : Value) (S : Nat → Prop) (w : World) (hv : TAt w S t v) : Calls Try.prog 19 #[v] w fun e w' => e = .returned (.int .i64 (sizeTe t)) ∧ Below w.heap.size w w' := by
  have hv0 := hv
  obtain ⟨k, x, m, b, ts, ats, fh, fb, us⟩ := t
  obtain ⟨T, tc, A, ac, F, fc, U, uc, rfl, _⟩ := hv.parts
  go_enter Try.func19, Try.ntmps19
  go_wp2_with (go_at_call 36; go_must (refine (cps_sized _ _ (Nat.le_refl _) _ _ S _ (by omega) (by omega) (hv0.up (by go_grown : Below w.heap.size w _))).mono ?_); rintro e w1 ⟨⟨r, rfl, hr⟩, b1⟩; have hr2 : -1 ≤ r ∧ r ≤ 65536 := (by omega); have q4 : IntKind.i64.wrap (65536 - r) = 65536 - r := IntWalk.i64_in _ (by omega); have HR := hid hr; clear hr)
  all_goals
    go_ret
    refine ⟨ret_int ?_, below_hop b1 ((Below.refl _ _).alloc (Nat.le_refl _) _)⟩
    have h := HR.out
    unfold sizeTe
    split <;> omega
end Go.Proofs.Ytdmkjndlobichaa
