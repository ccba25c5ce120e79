/-
  THE WALKS OF athanorlaw22.weigh AND Large.
-/
import Derived.Test.YtdmkjndlobichaaKAt
import Derived.BigQuiet
import Derived.Deep.RegionHeld3
namespace Go.Proofs.Ytdmkjndlobichaa
set_option linter.all false
open Go.ChangeShapes Go.WideShapes Go.ChangeAt Go.RowKit
open Tm (Te heft heftL heftF)
theorem drew_below (w : World) : Below w.heap.size w w.drew := Below.drew (Below.refl _ _)

/-- What weigh tells. -/
def WeighT (t : Te) (n : Int) (w : World) (e : Ending) (w' : World) : Prop :=
  (∃ r : Int, e = .returned (.int .i64 r) ∧ (r = -1 ∨ (0 ≤ r ∧ r ≤ 6000 ∧ n + heft t ≤ r))) ∧ Below w.heap.size w w'
set_option maxHeartbeats 8000000 in
set_option maxRecDepth 100000 in
theorem weight_node (k x m : Int) (b : Bool) (T A F U : Option Addr) (tl tc al ac fc uc : Nat) (fh : List (Int × List Int)) (fb us : List Te) (n : Int) (d : Nat) (S : Nat → Prop) (w : World) (hn0 : 0 ≤ n) (hn : n ≤ 100000000000000) (hd : d ≤ 6001) (hu : us.length ≤ 17592186044416) (hf : fb.length ≤ 17592186044416) (ht : tl ≤ 17592186044416) (ha : al ≤ 17592186044416) (hfl : fh.length = fb.length) (hfr : FRow w S fh fb F 0) (hrow : TRow w S us U 0)
    (hps : ∀ h ∈ fh, h.2.length ≤ 17592186044416)
    (ih : ∀ t, t ∈ fb ∨ t ∈ us → ∀ (d : Nat) (x n : Int) (v : Value) (S : Nat → Prop) (w : World), x = d → 0 ≤ n → n ≤ 100000000000000 → d ≤ 6001 → TAt w S t v → Calls Try.prog 26 #[v, .int .i64 x, .int .i64 n] w (WeighT t n w)) (ts : List Int) (ats : List (Bool × Int)) (htl : ts.length = tl) (hal : ats.length = al) :
    Calls Try.prog 26 #[.agg #[.int .i64 k, .int .i64 x, .int .i64 m, .bool b, .slice T tl tc, .slice A al ac, .slice F fb.length fc, .slice U us.length uc], .int .i64 d, .int .i64 n] w (WeighT (.mk k x m b ts ats fh fb us) n w) := by
  have hL : us.length ≤ 281474976710656 := by omega
  have hF : fb.length ≤ 281474976710656 := by omega
  have hT : tl ≤ 281474976710656 := by omega
  have hA : al ≤ 281474976710656 := by omega
  obtain ⟨l1, hl1⟩ : ∃ l : Int, l = (al : Int) + tl := ⟨_, rfl⟩
  obtain ⟨l2, hl2⟩ : ∃ l : Int, l = l1 + fb.length := ⟨_, rfl⟩
  obtain ⟨l, hl⟩ : ∃ l : Int, l = l2 + us.length := ⟨_, rfl⟩
  have q0 : IntKind.i64.wrap ((al : Int) + tl) = l1 := by rw [hl1]; exact IntWalk.i64_in _ (by omega)
  have q01 : IntKind.i64.wrap (l1 + fb.length) = l2 := by rw [hl2]; exact IntWalk.i64_in _ (by omega)
  have q02 : IntKind.i64.wrap (l2 + us.length) = l := by rw [hl]; exact IntWalk.i64_in _ (by omega)
  have hl0 : 0 ≤ l ∧ l ≤ 1000000000000000 := by omega
  have q1 : l.tdiv 10 = l / 10 := Int.tdiv_eq_ediv_of_nonneg hl0.1
  have q2 : IntKind.i64.wrap (l / 10) = l / 10 := IntWalk.i64_in _ (by omega)
  have q3 : IntKind.i64.wrap (1 + l / 10) = 1 + l / 10 := IntWalk.i64_in _ (by omega)
  have q4 : IntKind.i64.wrap (n + (1 + l / 10)) = n + (1 + l / 10) := IntWalk.i64_in _ (by omega)
  have H := hid (And.intro hfr (And.intro hrow (And.intro ih (And.intro hn0 (And.intro hps hfl)))))
  have HTL := hid (show l = ((ats.length + ts.length + fh.length + us.length : Nat) : Int) by rw [hl, hl2, hl1, htl, hal, hfl]; omega)
  have HL0 := hid hl0
  have hfl9 := hfl
  clear hfr hrow ih hn0 hl hl1 hl2 ht ha hu hf hl0 htl hal hfl hps
  have HFL := hid hfl9
  clear hfl9
  by_cases hbig : n + (1 + l / 10) > 6000
  · go_enter Try.func26, Try.ntmps26
    go_wp2
    go_ret
    exact ⟨⟨-1, rfl, .inl rfl⟩, (Below.refl _ _).alloc (Nat.le_refl _) _⟩
  · by_cases hdp : (d : Int) > 6000
    · go_enter Try.func26, Try.ntmps26
      go_wp2
      go_ret
      exact ⟨⟨-1, rfl, .inl rfl⟩, (Below.refl _ _).alloc (Nat.le_refl _) _⟩
    · have q5 : IntKind.i64.wrap ((d : Int) + 1) = d + 1 := IntWalk.i64_in _ (by omega)
      have HD := hid (show d + 1 ≤ 6001 by omega)
      go_enter Try.func26, Try.ntmps26
      go_wp2
      go_loopg [2, 7] fb.length (fun g nv z wr => ∃ (i : Nat) (m9 : Int), i + g = fb.length ∧ z = .int .i64 i ∧ nv = .int .i64 m9 ∧ Hid (m9 = -1 ∨ (0 ≤ m9 ∧ m9 ≤ 6000 ∧ n + 1 + ((ats.length + ts.length + fh.length + us.length) / 10 : Nat) + heftF (fh.take i) (fb.take i) ≤ m9)) ∧ Hid (Blk wr w.heap.size 27 #[.int .i64 k, .int .i64 x, .int .i64 m, .bool b, .slice T tl tc, .slice A al ac, .slice F fb.length fc, .slice U us.length uc]) ∧ Hid (Below w.heap.size w wr))
      case atStart => exact ⟨0, _, by omega, rfl, rfl, hid (.inr ⟨by have := H.out.2.2.2.1; have := HL0.out; omega, by omega, by simp [heftF]; have := HL0.out; have := HTL.out; omega⟩), hid (Blk.new _ _ _), hid ((Below.refl _ _).alloc (Nat.le_refl _) _)⟩
      case round =>
        obtain ⟨i, m9, hi, rfl, rfl, hm, hb, hbl⟩ := hrel
        have Hi := hid hi
        obtain ⟨x0, x1, x2, x3, x4, x5, x6, x7⟩ := hb.out.eight
        have key : ∀ (P : Prop), (i < fb.length ∧ 0 ≤ m9 → P) → ((i = fb.length ∨ m9 = -1) → P) → P := by
          intro P h1 h2
          have := hm.out
          by_cases h : i < fb.length ∧ 0 ≤ m9
          · exact h1 h
          · exact h2 (by omega)
        by_cases hlt : i < fb.length ∧ 0 ≤ m9
        · have hlt1 := hlt.1
          have hlt' : (i : Int) < fb.length := by omega
          have m0 := hlt.2
          have hm2 : m9 ≤ 6000 ∧ n + 1 + ((ats.length + ts.length + fh.length + us.length) / 10 : Nat) + heftF (fh.take i) (fb.take i) ≤ m9 := by have := hm.out; omega
          have hlt2 : i < fh.length := by rw [HFL.out]; exact hlt1
          obtain ⟨ad, P, pc, k2, x2', n2, i2, T2, tl2, tc2, A2, al2, ac2, F2, fl2, fc2, U2, ul2, uc2, rfl, hSb, hab, ⟨y0, y1, y2, y3, y4, y5, y6, y7, y8, y9⟩, hIp, hwp, hel⟩ := (H.out.1.up hbl.out).elem hlt1 hlt2
          have hpl := H.out.2.2.2.2.1 _ (List.getElem_mem hlt2)
          obtain ⟨pn, hpn⟩ : ∃ pn : Nat, pn = fh[i].2.length := ⟨_, rfl⟩
          obtain ⟨hv, hhv⟩ : ∃ hv : Int, hv = fh[i].1 := ⟨_, rfl⟩
          obtain ⟨t, htt⟩ : ∃ t : Te, t = fb[i] := ⟨_, rfl⟩
          have hmem := List.getElem_mem hlt1
          have hnx := Tm.heftF_take HFL.out hlt1
          rw [← hpn] at y1 hpl hnx
          rw [← hhv] at y0
          rw [← htt] at hel hmem hnx
          have r1 : (pn : Int).tdiv 10 = pn / 10 := Int.tdiv_eq_ediv_of_nonneg (by omega)
          have r2 : IntKind.i64.wrap ((pn : Int) / 10) = pn / 10 := IntWalk.i64_in _ (by omega)
          have r3 : IntKind.i64.wrap (m9 + (pn : Int) / 10) = m9 + pn / 10 := IntWalk.i64_in _ (by omega)
          have hpm : pn ≤ 281474976710656 := by omega
          have Q := hid (And.intro hel (And.intro hmem (And.intro hm2 (And.intro hnx hpl))))
          have YY := hid (And.intro hab (And.intro y0 (And.intro y1 (And.intro y2 (And.intro y3 (And.intro y4 (And.intro y5 (And.intro y6 (And.intro y7 (And.intro y8 y9))))))))))
          clear hi hm hel hSb hab hIp hwp hpl hm2 hmem hnx hpn hhv htt hlt key
          go_wp2
          go_region_held3 (fun w' => (w').cell? ⟨w.heap.size, 0, none⟩ = some (.int .i64 k) ∧ (w').cell? ⟨w.heap.size, 1, none⟩ = some (.int .i64 x) ∧ (w').cell? ⟨w.heap.size, 2, none⟩ = some (.int .i64 m) ∧ (w').cell? ⟨w.heap.size, 3, none⟩ = some (.bool b) ∧ (w').cell? ⟨w.heap.size, 4, none⟩ = some (.slice T tl tc) ∧ (w').cell? ⟨w.heap.size, 5, none⟩ = some (.slice A al ac) ∧ (w').cell? ⟨w.heap.size, 6, none⟩ = some (.slice (some ad) fb.length fc) ∧ (w').cell? ⟨w.heap.size, 7, none⟩ = some (.slice U us.length uc) ∧ w'.cell? ⟨(ad.add (i * 10)).block, (ad.add (i * 10)).off + 1, none⟩ = some (.slice P pn pc) ∧ w'.cell? ⟨(ad.add (i * 10)).block, (ad.add (i * 10)).off + 2, none⟩ = some (.int .i64 k2) ∧ w'.cell? ⟨(ad.add (i * 10)).block, (ad.add (i * 10)).off + 3, none⟩ = some (.int .i64 x2') ∧ w'.cell? ⟨(ad.add (i * 10)).block, (ad.add (i * 10)).off + 4, none⟩ = some (.int .i64 n2) ∧ w'.cell? ⟨(ad.add (i * 10)).block, (ad.add (i * 10)).off + 5, none⟩ = some (.bool i2) ∧ w'.cell? ⟨(ad.add (i * 10)).block, (ad.add (i * 10)).off + 6, none⟩ = some (.slice T2 tl2 tc2) ∧ w'.cell? ⟨(ad.add (i * 10)).block, (ad.add (i * 10)).off + 7, none⟩ = some (.slice A2 al2 ac2) ∧ w'.cell? ⟨(ad.add (i * 10)).block, (ad.add (i * 10)).off + 8, none⟩ = some (.slice F2 fl2 fc2) ∧ w'.cell? ⟨(ad.add (i * 10)).block, (ad.add (i * 10)).off + 9, none⟩ = some (.slice U2 ul2 uc2)) (first | with_reducible exact ⟨x0, x1, x2, x3, x4, x5, x6, x7, y1, y2, y3, y4, y5, y6, y7, y8, y9⟩ | go_keep) (first | (go_at_call 26; (refine (H.out.2.2.1 t (.inl Q.out.2.1) (d + 1) _ _ _ _ _ (by omega) (by omega) (by have := Q.out.2.2.2.2; have := Q.out.2.2.1.1; omega) HD.out (Q.out.1.up (drew_below wr))).mono ?_); rintro e w1 ⟨⟨r, rfl, hr⟩, b1⟩; have HR := hid hr; have BX := hid ((hb.out.drew).below b1 (hb.out.lt)); have BL := hid (below_hop b1 hbl.out.drew); have YK := hid (at10_keep (b1.block _ (cell_lt (w := wr) YY.out.2.1)) rfl YY.out.2); clear hr b1 x0 x1 x2 x3 x4 x5 x6 x7 y0 y1 y2 y3 y4 y5 y6 y7 y8 y9; obtain ⟨x0, x1, x2, x3, x4, x5, x6, x7⟩ := BX.out.eight; obtain ⟨y0, y1, y2, y3, y4, y5, y6, y7, y8, y9⟩ := YK.out))
          all_goals
            go_wp2
            have hgk := Hi.out
            go_roundg (gk - 1)
            case rel => exact ⟨i + 1, r, by omega, by go_num, rfl, hid (by have h1 := HR.out; have h2 := Q.out.2.2.1.2; have h3 := Q.out.2.2.2.1; rw [h3]; rcases h1 with h1 | h1; exact .inl h1; right; omega), BX, BL⟩
            case measure => omega
        · have hx : Hid (m9 = -1 ∨ (0 ≤ m9 ∧ m9 ≤ 6000 ∧ n + 1 + ((ats.length + ts.length + fh.length + us.length) / 10 : Nat) + heftF fh fb ≤ m9)) := by
            rcases hm.out with h1 | h1
            · exact .inl h1
            · have h2 : i = fb.length := by omega
              rw [h2, List.take_length, ← HFL.out, List.take_length] at h1
              exact .inr h1
          have hcase : (¬ (i : Int) < fb.length) ∨ (¬ 0 ≤ m9) := by omega
          have hi2 : ((i : Int) < fb.length) ∨ (¬ (i : Int) < fb.length) := by omega
          clear hi hm hlt key
          rcases hi2 with hi2 | hi2
          · have hm3 : ¬ 0 ≤ m9 := by omega
            clear hcase
            go_wp2
            go_loopg [2, 8] us.length (fun g nv z wq => ∃ (j : Nat) (m8 : Int), j + g = us.length ∧ z = .int .i64 j ∧ nv = .int .i64 m8 ∧ Hid (m8 = -1 ∨ (0 ≤ m8 ∧ m8 ≤ 6000 ∧ n + 1 + ((ats.length + ts.length + fh.length + us.length) / 10 : Nat) + heftF fh fb + heftL (us.take j) ≤ m8)) ∧ Hid (Blk wq w.heap.size 27 #[.int .i64 k, .int .i64 x, .int .i64 m, .bool b, .slice T tl tc, .slice A al ac, .slice F fb.length fc, .slice U us.length uc]) ∧ Hid (Below w.heap.size w wq))
            case atStart => exact ⟨0, m9, by omega, rfl, rfl, hid (by have h1 := hx.out; simp [heftL]; omega), hb, hbl⟩
            case round =>
              clear x0 x1 x2 x3 x4 x5 x6 x7
              obtain ⟨j, m8, hj, rfl, rfl, hm, hb, hbl⟩ := hrel
              have Hj := hid hj
              have x7 : wr.cell? ⟨w.heap.size, 7, none⟩ = some (.slice U us.length uc) := hb.out.cell 7
              by_cases hlt : j < us.length
              · have hlt' : (j : Int) < us.length := by omega
                rcases hm.out with rfl | ⟨m0, m1, m2⟩
                · clear hj
                  go_wp2
                  go_ret
                  exact ⟨⟨-1, rfl, .inl rfl⟩, hbl.out⟩
                · obtain ⟨ad, k2, x2', n2, i2, T2, tl2, tc2, A2, al2, ac2, F2, fl2, fc2, U2, ul2, uc2, rfl, hSb, hab, ⟨y0, y1, y2, y3, y4, y5, y6, y7⟩, hel⟩ := (H.out.2.1.up hbl.out).elem hlt
                  have Q := hid (And.intro hel (And.intro (List.getElem_mem hlt) (And.intro m2 (And.intro (Tm.heftL_take hlt) m1))))
                  clear hj hm hel hSb hab
                  generalize us[j] = t at Q
                  go_wp2_with (go_at_call 26; go_must (refine (H.out.2.2.1 t (.inr Q.out.2.1) (d + 1) _ _ _ _ _ (by omega) m0 (by omega) HD.out Q.out.1).mono ?_); rintro e w1 ⟨⟨r, rfl, hr⟩, b1⟩)
                  have hgk := Hj.out
                  have hbm := hb.out.lt
                  go_roundg (gk - 1)
                  case rel => exact ⟨j + 1, r, by omega, by go_num, rfl, hid (by have h3 := Q.out.2.2.1; have h4 := Q.out.2.2.2.1; rw [h4]; rcases hr with hr | hr; exact .inl hr; right; omega), hid (hb.out.below b1 hbm), hid (below_hop b1 hbl.out)⟩
                  case measure => omega
              · obtain rfl : j = us.length := by omega
                clear hj
                have h1 := hm.out
                rw [List.take_length] at h1
                have H1 := hid h1
                clear h1
                go_wp2
                go_ret
                refine ⟨⟨m8, rfl, ?_⟩, hbl.out⟩
                have h1 := H1.out
                rw [heft]
                rcases h1 with h1 | h1
                · exact .inl h1
                · right; omega
          · clear hcase
            go_wp2
            go_loopg [2, 8] us.length (fun g nv z wq => ∃ (j : Nat) (m8 : Int), j + g = us.length ∧ z = .int .i64 j ∧ nv = .int .i64 m8 ∧ Hid (m8 = -1 ∨ (0 ≤ m8 ∧ m8 ≤ 6000 ∧ n + 1 + ((ats.length + ts.length + fh.length + us.length) / 10 : Nat) + heftF fh fb + heftL (us.take j) ≤ m8)) ∧ Hid (Blk wq w.heap.size 27 #[.int .i64 k, .int .i64 x, .int .i64 m, .bool b, .slice T tl tc, .slice A al ac, .slice F fb.length fc, .slice U us.length uc]) ∧ Hid (Below w.heap.size w wq))
            case atStart => exact ⟨0, m9, by omega, rfl, rfl, hid (by have h1 := hx.out; simp [heftL]; omega), hb, hbl⟩
            case round =>
              clear x0 x1 x2 x3 x4 x5 x6 x7
              obtain ⟨j, m8, hj, rfl, rfl, hm, hb, hbl⟩ := hrel
              have Hj := hid hj
              have x7 : wr.cell? ⟨w.heap.size, 7, none⟩ = some (.slice U us.length uc) := hb.out.cell 7
              by_cases hlt : j < us.length
              · have hlt' : (j : Int) < us.length := by omega
                rcases hm.out with rfl | ⟨m0, m1, m2⟩
                · clear hj
                  go_wp2
                  go_ret
                  exact ⟨⟨-1, rfl, .inl rfl⟩, hbl.out⟩
                · obtain ⟨ad, k2, x2', n2, i2, T2, tl2, tc2, A2, al2, ac2, F2, fl2, fc2, U2, ul2, uc2, rfl, hSb, hab, ⟨y0, y1, y2, y3, y4, y5, y6, y7⟩, hel⟩ := (H.out.2.1.up hbl.out).elem hlt
                  have Q := hid (And.intro hel (And.intro (List.getElem_mem hlt) (And.intro m2 (And.intro (Tm.heftL_take hlt) m1))))
                  clear hj hm hel hSb hab
                  generalize us[j] = t at Q
                  go_wp2_with (go_at_call 26; go_must (refine (H.out.2.2.1 t (.inr Q.out.2.1) (d + 1) _ _ _ _ _ (by omega) m0 (by omega) HD.out Q.out.1).mono ?_); rintro e w1 ⟨⟨r, rfl, hr⟩, b1⟩)
                  have hgk := Hj.out
                  have hbm := hb.out.lt
                  go_roundg (gk - 1)
                  case rel => exact ⟨j + 1, r, by omega, by go_num, rfl, hid (by have h3 := Q.out.2.2.1; have h4 := Q.out.2.2.2.1; rw [h4]; rcases hr with hr | hr; exact .inl hr; right; omega), hid (hb.out.below b1 hbm), hid (below_hop b1 hbl.out)⟩
                  case measure => omega
              · obtain rfl : j = us.length := by omega
                clear hj
                have h1 := hm.out
                rw [List.take_length] at h1
                have H1 := hid h1
                clear h1
                go_wp2
                go_ret
                refine ⟨⟨m8, rfl, ?_⟩, hbl.out⟩
                have h1 := H1.out
                rw [heft]
                rcases h1 with h1 | h1
                · exact .inl h1
                · right; omega
theorem law22_weigh : ∀ (N : Nat) (t : Te), SizeOf.sizeOf t ≤ N → ∀ (d : Nat) (x n : Int) (v : Value) (S : Nat → Prop) (w : World), x = d → 0 ≤ n → n ≤ 100000000000000 → d ≤ 6001 → TAt w S t v → Calls Try.prog 26 #[v, .int .i64 x, .int .i64 n] w (WeighT t n w) := by
  intro N
  induction N with
  | zero => intro t ht; cases t; simp at ht
  | succ N ih =>
  intro t ht d x n v S w hx h0 h1 h2 hv
  subst hx
  obtain ⟨k, x, m, i, ts, ats, fh, fb, us⟩ := t
  obtain ⟨T, tc, A, ac, F, fc, U, uc, rfl, hI, hA, hF, hfl, hfr, hU, hrow, _⟩ := hv.parts
  refine weight_node k x m i T A F U ts.length tc ats.length ac fc uc fh fb us n d S w h0 h1 h2 hU.2.2.2 hF.2.2.2 hI.1.2.2.2 hA.1.2.2.2 hfl hfr hrow (fun h hm => ?_) (fun t hm d x9 n9 v S w => ih t ?_ d x9 n9 v S w) ts ats rfl rfl
  · obtain ⟨j, hj, rfl⟩ := List.getElem_of_mem hm
    obtain ⟨_, _, _, _, _, _, _, _, _, _, _, _, _, _, h4, _⟩ := hfr.get (by rw [← hfl]; exact hj) hj
    exact h4.1.2.2.2
  · rcases hm with hm | hm
    · have := Tm.fn_lt (k := k) (x := x) (n := m) (i := i) (ts := ts) (ats := ats) (fh := fh) (us := us) hm
      omega
    · have := Tm.te_lt (k := k) (x := x) (n := m) (i := i) (ts := ts) (ats := ats) (fh := fh) (fb := fb) hm
      omega
theorem law22_Large (t : Te) (v : Value) (S : Nat → Prop) (w : World) (hv : TAt w S t v) :
    Calls Try.prog 7 #[v] w fun e w' => (∃ b : Bool, e = .returned (.bool b) ∧ (b = false → heft t ≤ 6000)) ∧ Below w.heap.size w w' := by
  have hv0 := hv
  obtain ⟨k, x, m, b, ts, ats, fh, fb, us⟩ := t
  obtain ⟨T, tc, A, ac, F, fc, U, uc, rfl, _⟩ := hv.parts
  go_enter Try.func7, Try.ntmps7
  go_wp2_with (go_at_call 26; go_must (refine (law22_weigh _ _ (Nat.le_refl _) 0 _ _ _ S _ rfl (by omega) (by omega) (by omega) (hv0.up (by go_grown : Below w.heap.size w _))).mono ?_); rintro e w1 ⟨⟨r, rfl, hr⟩, b1⟩)
  all_goals
    go_ret
    refine ⟨⟨_, rfl, fun h => ?_⟩, below_hop b1 ((Below.refl _ _).alloc (Nat.le_refl _) _)⟩
    simp at h
    omega
end Go.Proofs.Ytdmkjndlobichaa
