/-
  THE WALK OF athanorref15.met.
-/
import Derived.Test.YtnlifgcnmhakiaaTRGood
namespace Go.Proofs.Ytnlifgcnmhakiaa
open Go.ChangeShapes Go.WideShapes Go.ChangeAt Go.RowKit

def MetP (r : Nat × Int) (w : World) (e : Ending) (w' : World) : Prop := e = .returned (.tuple #[.int .i64 r.1, .int .i64 r.2]) ∧ Below w.heap.size w w'
def MetC (S : Nat → Prop) (p pv c : Nat) (np : Int) (σ : Sg) (cur : Array Value) (x : Int) (k : Nat) : Prop :=
  ∀ (t u : Ty) (v : Value) (w : World) (cnt : Nat), cnt ≤ 1024 → wrF σ k t = some u → goodT σ.length t = true → TAt w S t v → Rb S w p pv c np σ cur →
    Calls Try.prog 39 #[.pointer (some ⟨p, 0, none⟩), v, .int .i64 x, .int .i64 cnt] w (MetP (metT x u cnt) w)
set_option maxHeartbeats 8000000 in
set_option maxRecDepth 100000 in
theorem met_node (S : Nat → Prop) (p pv c : Nat) (np : Int) (σ : Sg) (cur : Array Value) (x : Int) (k : Nat) (hok : Ok σ) (ih : MetC S p pv c np σ cur x k) : MetC S p pv c np σ cur x (k + 1) := by
  intro t u v w cnt hc hw hg hv hT
  obtain ⟨h, hH, hw2⟩ := Hd.of_wrF hw
  have hgh := hH.good hok hg
  have hfree := hH.end_
  obtain ⟨q2, s2, n2, us⟩ := h
  obtain ⟨vs, rfl, hvl, hkid⟩ := wrF_parts hgh hfree hw2
  have hgl := kids_good hgh
  have HV := hid hv
  obtain ⟨q, s, m, A, m9, c9, rfl⟩ := hv.agg
  have HT := hid hT
  have HL := hid (And.intro hT.blk.lt hT.row.lt)
  have HG := hid (And.intro hok (And.intro hg (And.intro (hd_eq hH) (And.intro hvl (And.intro hkid hgl)))))
  have HI := hid ih
  rw [metT_lit]
  clear hv hT hok hg hH hw hw2 hgh hfree hvl hkid hgl ih
  by_cases hc1 : cnt = 1024
  · have e1 : litR x cnt q2 n2 = (cnt, 3) := by unfold litR; rw [if_pos hc1]
    rw [e1, if_neg (by simp)]
    subst hc1
    clear e1
    go_enter Try.func39, Try.ntmps39
    go_wp2
    refine bodyPost_ret (results_tmp2 rfl _ _ _) rfl ?_
    exact ⟨rfl, (Below.refl _ _).alloc (Nat.le_refl _) _⟩
  have g1 : ((cnt : Int) == 1024) = false := beq_eq_false_iff_ne.2 (by omega)
  have g1' : (cnt == 1024) = false := beq_eq_false_iff_ne.2 hc1
  have q5 : IntKind.i64.wrap ((cnt : Int) + 1) = cnt + 1 := IntWalk.i64_in _ (by omega)
  by_cases ho : q2 = 2 ∧ n2 = x
  · have e1 : litR x cnt q2 n2 = (cnt + 1, 151) := by unfold litR; rw [if_neg hc1, if_pos ho]
    rw [e1, if_neg (by simp)]
    have h8 : (q2 == 2) = true := by simpa using ho.1
    have h9 : (n2 == x) = true := by simpa using ho.2
    clear e1 hc1 ho
    go_enter Try.func39, Try.ntmps39
    go_wp2_with (first | (go_at_call 53; go_must (refine (ref15_head (fun b => S b ∧ b < w.heap.size) p pv c np σ cur t _ _ (HT.out.narrow.up (by go_grown : Below w.heap.size w _)) HG.out.1 HG.out.2.1 (HV.out.narrow2.up (by go_grown : Below w.heap.size w _))).mono ?_); rintro e w1 ⟨⟨v', rfl, hv'⟩, b1⟩; go_must (rw [HG.out.2.2.1] at hv'; obtain ⟨A2, c2, rfl, k1, k2, k3, k4, k5, k6⟩ := hv'.parts; have b2 := hid (below_then (B := w.heap.size) b1 (by go_grown : Below w.heap.size w _) (by simp)); have X1 := hid ((Blk.new w 34 #[.int .i64 q, .string s, .int .i64 m, .slice A m9 c9]).below b1 (by simp)); have x0 : w1.cell? ⟨w.heap.size, 0, none⟩ = some (.int .i64 q) := X1.out.cell 0; have x1 : w1.cell? ⟨w.heap.size, 1, none⟩ = some (.string s) := X1.out.cell 1; have x2 : w1.cell? ⟨w.heap.size, 2, none⟩ = some (.int .i64 m) := X1.out.cell 2; have x3 : w1.cell? ⟨w.heap.size, 3, none⟩ = some (.slice A m9 c9) := X1.out.cell 3; have f0 := X1.out.frozen 0; have f1 := X1.out.frozen 1; have f2 := X1.out.frozen 2; have f3 := X1.out.frozen 3; have Y1 := hid (set4_blk (v0 := .int .i64 q2) (v1 := .string s2) (v2 := .int .i64 n2) (v3 := .slice A2 us.length c2) X1.out); have y0 : _ = some (Value.int .i64 q2) := Y1.out.cell 0; have y1 : _ = some (Value.string s2) := Y1.out.cell 1; have y2 : _ = some (Value.int .i64 n2) := Y1.out.cell 2; have y3 : _ = some (Value.slice A2 us.length c2) := Y1.out.cell 3; have KB := hid (And.intro (TRow.mono (T := fun b => S b ∧ b < w.heap.size) k4 (fun b hb _ => hb.1)) (And.intro k1 k2)); clear k1 k2 k3 k4 k5 k6 b1 hv')))
    refine bodyPost_ret (results_tmp2 rfl _ _ _) rfl ?_
    exact ⟨by simp, set4_below b2.out (Nat.le_refl _)⟩
  have e1 : litR x cnt q2 n2 = (cnt + 1, 0) := by unfold litR; rw [if_neg hc1, if_neg ho]
  rw [e1, if_pos rfl]
  have hno : (q2 == 2) = false ∨ ((q2 == 2) = true ∧ (n2 == x) = false) := by
    by_cases h1 : q2 = 2
    · right; exact ⟨by simpa using h1, by simpa using fun h2 => ho ⟨h1, h2⟩⟩
    · left; simpa using h1
  have Hcnt := hid (show cnt + 1 ≤ 1024 by omega)
  clear e1 hc1 ho hc
  rcases hno with hno | ⟨hno, hno2⟩
  all_goals
    go_enter Try.func39, Try.ntmps39
    go_wp2_with (first | (go_at_call 53; go_must (refine (ref15_head (fun b => S b ∧ b < w.heap.size) p pv c np σ cur t _ _ (HT.out.narrow.up (by go_grown : Below w.heap.size w _)) HG.out.1 HG.out.2.1 (HV.out.narrow2.up (by go_grown : Below w.heap.size w _))).mono ?_); rintro e w1 ⟨⟨v', rfl, hv'⟩, b1⟩; go_must (rw [HG.out.2.2.1] at hv'; obtain ⟨A2, c2, rfl, k1, k2, k3, k4, k5, k6⟩ := hv'.parts; have b2 := hid (below_then (B := w.heap.size) b1 (by go_grown : Below w.heap.size w _) (by simp)); have X1 := hid ((Blk.new w 34 #[.int .i64 q, .string s, .int .i64 m, .slice A m9 c9]).below b1 (by simp)); have x0 : w1.cell? ⟨w.heap.size, 0, none⟩ = some (.int .i64 q) := X1.out.cell 0; have x1 : w1.cell? ⟨w.heap.size, 1, none⟩ = some (.string s) := X1.out.cell 1; have x2 : w1.cell? ⟨w.heap.size, 2, none⟩ = some (.int .i64 m) := X1.out.cell 2; have x3 : w1.cell? ⟨w.heap.size, 3, none⟩ = some (.slice A m9 c9) := X1.out.cell 3; have f0 := X1.out.frozen 0; have f1 := X1.out.frozen 1; have f2 := X1.out.frozen 2; have f3 := X1.out.frozen 3; have Y1 := hid (set4_blk (v0 := .int .i64 q2) (v1 := .string s2) (v2 := .int .i64 n2) (v3 := .slice A2 us.length c2) X1.out); have y0 : _ = some (Value.int .i64 q2) := Y1.out.cell 0; have y1 : _ = some (Value.string s2) := Y1.out.cell 1; have y2 : _ = some (Value.int .i64 n2) := Y1.out.cell 2; have y3 : _ = some (Value.slice A2 us.length c2) := Y1.out.cell 3; have KB := hid (And.intro (TRow.mono (T := fun b => S b ∧ b < w.heap.size) k4 (fun b hb _ => hb.1)) (And.intro k1 k2)); clear k1 k2 k3 k4 k5 k6 b1 hv')))
    have hS0 : ¬ (S w.heap.size ∧ w.heap.size < w.heap.size) := fun h => by have := h.2; omega
    have B3 := hid (And.intro (KB.out.1.set4 (v0 := .int .i64 q2) (v1 := .string s2) (v2 := .int .i64 n2) (v3 := .slice A2 us.length c2) hS0) (And.intro Y1.out (And.intro (set4_below (v0 := .int .i64 q2) (v1 := .string s2) (v2 := .int .i64 n2) (v3 := .slice A2 us.length c2) b2.out (Nat.le_refl _))
      ((((HT.out.narrow.up b2.out).keep (w' := ((((w1.setCell ⟨w.heap.size, 0, none⟩ (.int .i64 q2)).setCell ⟨w.heap.size, 1, none⟩ (.string s2)).setCell ⟨w.heap.size, 2, none⟩ (.int .i64 n2)).setCell ⟨w.heap.size, 3, none⟩ (.slice A2 us.length c2))) (fun k _ hk => set4_other (by rcases hk with hk | rfl | rfl; exact (by have := hk.2; omega); exact (by have := HL.out; omega); exact (by have := HL.out; omega)))).widen (T := S) (fun _ hk _ => hk.1) HT.out.pS HT.out.vS)))))
    have KW := hid KB.out.2
    clear X1 Y1 KB x0 x1 x2 x3 f0 f1 f2 f3 y0 y1 y2 y3 b2 hS0
    revert B3
    generalize ((((w1.setCell ⟨w.heap.size, 0, none⟩ (.int .i64 q2)).setCell ⟨w.heap.size, 1, none⟩ (.string s2)).setCell ⟨w.heap.size, 2, none⟩ (.int .i64 n2)).setCell ⟨w.heap.size, 3, none⟩ (.slice A2 us.length c2)) = w3
    intro B3
    have hL : us.length ≤ 9223372036854775807 := by have h1 := KW.out.1; have h2 := KW.out.2; unfold maxLen at h2; omega
    go_loopg [3, 10] us.length (fun g y z wr => ∃ (i ci : Nat), i + g = us.length ∧ z = .int .i64 i ∧ y = .int .i64 ci ∧ Hid (ci ≤ 1024) ∧ Hid (metL x vs (cnt + 1) = metL x (vs.drop i) ci) ∧ Hid (Below w3.heap.size w3 wr))
    case atStart => exact ⟨0, cnt + 1, by omega, rfl, by first | rfl | (simp; done), Hcnt, hid rfl, hid (Below.refl _ _)⟩
    case round =>
      obtain ⟨i, ci, hi, rfl, rfl, hci, hm, hB⟩ := hrel
      have Hi := hid hi
      have hX := hid (B3.out.2.1.below hB.out B3.out.2.1.lt)
      have x3 : wr.cell? ⟨w.heap.size, 3, none⟩ = some (.slice A2 us.length c2) := hX.out.cell 3
      by_cases hlt : i < us.length
      · have hlt' : (i : Int) < us.length := by omega
        have hiw : IntKind.i64.wrap ((i : Int) + 1) = i + 1 := IntWalk.i64_in _ (by omega)
        obtain ⟨ad, q', s', n', A3, m', c3, rfl, hSb, hab, y0, y1, y2, y3, hel⟩ := (B3.out.1.up hB.out).elem hlt
        have hlv : i < vs.length := by have := HG.out.2.2.2.1; omega
        have hmd := metL_drop (x := x) (c := ci) hlv
        have Q := hid (And.intro (hel.mono (T := S) (fun _ hk _ => hk.1)) (And.intro (HG.out.2.2.2.2.1 i hlt hlv) (goodL_mem HG.out.2.2.2.2.2 _ (List.getElem_mem hlt))))
        have C := hid (HI.out us[i] vs[i] _ wr ci hci.out Q.out.2.1 Q.out.2.2 Q.out.1 (B3.out.2.2.2.up hB.out))
        have hle := metT_ok x vs[i] ci hci.out
        clear hi hSb hab hel
        generalize metT x vs[i] ci = r at C hmd hle
        by_cases hr : r.2 = 0
        · have hd : (r.2 != 0) = false := by simpa using hr
          have Hr := hid (And.intro hr (And.intro (show r.1 ≤ 1024 by have h1 := hle hr; omega) (hmd.trans (if_pos hr))))
          clear hr hmd hle
          go_wp2_with (go_at_call 39; go_must (refine C.out.mono ?_); rintro e w4 ⟨rfl, b1⟩)
          have hgk := Hi.out
          go_roundg (gk - 1)
          case rel => exact ⟨i + 1, r.1, by omega, rfl, rfl, hid Hr.out.2.1, hid (hm.out.trans Hr.out.2.2), hid (below_hop b1 hB.out)⟩
          case measure => omega
        · have hd : (r.2 != 0) = true := by simpa using hr
          have Hr := hid (hmd.trans (if_neg hr))
          clear hr hmd hle
          go_wp2_with (go_at_call 39; go_must (refine C.out.mono ?_); rintro e w4 ⟨rfl, b1⟩)
          refine bodyPost_ret (results_tmp2 rfl _ _ _) rfl ?_
          exact ⟨by rw [hm.out, Hr.out]; rfl, (B3.out.2.2.1.trans ((hB.out.trans (b1.mono hB.out.size)).mono (by have := B3.out.2.1.lt; omega)))⟩
      · obtain rfl : i = us.length := by omega
        clear hi
        go_wp2
        refine bodyPost_ret (results_tmp2 rfl _ _ _) rfl ?_
        have e9 : metL x vs (cnt + 1) = (ci, 0) := by rw [hm.out, List.drop_of_length_le (by have := HG.out.2.2.2.1; omega), metL]
        exact ⟨by rw [e9]; rfl, B3.out.2.2.1.trans (hB.out.mono (by have := B3.out.2.1.lt; omega))⟩
theorem ref15_met (S : Nat → Prop) (p pv c : Nat) (np : Int) (σ : Sg) (cur : Array Value) (x : Int) (hok : Ok σ) : ∀ k, MetC S p pv c np σ cur x k
  | 0 => fun t u v w cnt _ hw => by cases hw
  | k + 1 => met_node S p pv c np σ cur x k hok (ref15_met S p pv c np σ cur x hok k)
end Go.Proofs.Ytnlifgcnmhakiaa
