/-
  THE WALK OF athanorref11.one: signs.
-/
import Derived.Test.YtngbaghkjaibeaaDoorXRef4
namespace Go.Proofs.YtngbaghkjaibeaaDoor
set_option linter.all false
open Go.ChangeShapes Go.WideShapes Go.ChangeAt Go.RowKit

theorem signF_two {l : List UInt8} (h : 2 ≤ l.length) (hs : isSign (l.take 2) = true) : Lx.signF l = .ok 6 (l.take 2) 0 2 := by
  match l, h with
  | a :: b :: t, _ =>
    have hs2 : [a, b] ∈ Lx.signsL := by unfold isSign at hs; simpa using hs
    simp only [Lx.signsL, List.mem_cons, List.cons.injEq, and_true, List.not_mem_nil, or_false, reduceCtorEq, and_false, or_self, false_or] at hs2
    rcases hs2 with ⟨rfl, rfl⟩ | ⟨rfl, rfl⟩ <;> rfl
theorem signF_one {l : List UInt8} (h : 1 ≤ l.length) (h2 : 2 ≤ l.length → isSign (l.take 2) = false) (hs : isSign (l.take 1) = true) : Lx.signF l = .ok 6 (l.take 1) 0 1 := by
  match l, h with
  | [a], _ =>
    have hs2 : [a] ∈ Lx.signsL := by unfold isSign at hs; simpa using hs
    simp only [Lx.signsL, List.mem_cons, List.cons.injEq, and_true, List.not_mem_nil, or_false, reduceCtorEq, and_false, or_self, false_or] at hs2
    rcases hs2 with rfl | rfl | rfl | rfl | rfl | rfl | rfl | rfl | rfl | rfl | rfl | rfl <;> rfl
  | a :: b :: t, _ =>
    have h3 := h2 (by simp)
    have h3' : ¬ [a, b] ∈ Lx.signsL := by unfold isSign at h3; simpa using h3
    have hs2 : [a] ∈ Lx.signsL := by unfold isSign at hs; simpa using hs
    simp only [Lx.signsL, List.mem_cons, List.cons.injEq, and_true, List.not_mem_nil, or_false, reduceCtorEq, and_false, or_self, false_or] at hs2 h3'
    have k1 : a = 45 → b ≠ 62 := fun h h' => h3' (.inl ⟨h, h'⟩)
    have k2 : a = 61 → b ≠ 61 := fun h h' => h3' (.inr ⟨h, h'⟩)
    clear h3' hs h2 h3
    rcases hs2 with rfl | rfl | rfl | rfl | rfl | rfl | rfl | rfl | rfl | rfl | rfl | rfl
    all_goals
      first
        | rfl
        | (have k3 := k1 rfl; simp [Lx.signF, Lx.signsL, List.find?, List.isPrefixOf, Ne.symm k3])
        | (have k3 := k2 rfl; have k4 : ((61 : UInt8) == b) = false := beq_eq_false_iff_ne.2 (Ne.symm k3); simp [Lx.signF, Lx.signsL, List.find?, List.isPrefixOf, k4])
theorem signF_no {l : List UInt8} (h2 : 2 ≤ l.length → isSign (l.take 2) = false) (h1 : 1 ≤ l.length → isSign (l.take 1) = false) : Lx.signF l = .bad 110 := by
  unfold Lx.signF
  rw [List.find?_eq_none.2]
  intro x hx hp
  have hpre : x <+: l := List.isPrefixOf_iff_prefix.1 hp
  have hlen : x.length = 1 ∨ x.length = 2 := by
    have : ∀ y ∈ Lx.signsL, y.length = 1 ∨ y.length = 2 := by decide
    exact this x hx
  have hx2 : l.take x.length = x := (List.prefix_iff_eq_take.1 hpre).symm
  have hle := hpre.length_le
  have hsx : isSign x = true := by unfold isSign; simpa using hx
  rcases hlen with h | h
  · rw [h] at hx2 hle
    have := h1 hle
    rw [hx2, hsx] at this; cases this
  · rw [h] at hx2 hle
    have := h2 hle
    rw [hx2, hsx] at this; cases this
theorem one_sgR {S : ByteArray} {p n : Nat} : OneR (.ok 6 S.data.toList 0 n) p (.tuple #[.agg #[.int .i64 6, .string S, .int .i64 0, .int .i64 p], .int .i64 ((p : Int) + n), .int .i64 0]) := by
  show _ = Value.tuple #[.agg #[.int .i64 6, .string ⟨S.data.toList.toArray⟩, .int .i64 0, .int .i64 p], .int .i64 (p + n : Nat), .int .i64 0]
  rw [mk_data']
  rfl
set_option maxHeartbeats 8000000 in
set_option maxRecDepth 100000 in
theorem one_sign (s : ByteArray) (p : Nat) (w : World) (hp : p < s.size) (hm : s.size ≤ 100000) (hs : Lx.smI ((s[p]'hp).toNat : Int) = false) (hg : Lx.grI ((s[p]'hp).toNat : Int) = false) (hq : (((s[p]'hp).toNat : Int) == 39) = false) (hq2 : (((s[p]'hp).toNat : Int) == 126) = false) (h4 : Lx.dgI ((s[p]'hp).toNat : Int) = false)
    (r : Lx.TR) (hr : r = Lx.signF (s.data.toList.drop p)) :
    Calls Tryd.prog 18 #[.string s, .int .i64 p] w (OneP r p w) := by
  have HR := hid hr
  have HS := hid hs
  have HG := hid hg
  have hp1 : (p : Int) < s.size := by omega
  have hl3 : (p : Int) ≤ 1000000 := by omega
  clear hr hs hg
  have H4 := hid h4
  have hlen : (s.data.toList.drop p).length = s.size - p := by rw [List.length_drop, size_list]
  have HLN := hid hlen
  clear h4 hlen
  go_enter Tryd.func18, Tryd.ntmps18
  go_wp2_with (first | (go_at_call 33; (with_reducible refine (rf_small _ _).mono ?_); rw [HS.out]; rintro e w' ⟨rfl, h9⟩; subst h9) | (go_at_call 34; (with_reducible refine (rf_capital _ _).mono ?_); rw [HG.out]; rintro e w' ⟨rfl, h9⟩; subst h9) | (go_at_call 37; (with_reducible refine (rf_digit _ _).mono ?_); rw [H4.out]; rintro e w' ⟨rfl, h9⟩; subst h9))
  go_loopg [15] 2 (fun g i wr => ∃ k : Nat, k = g ∧ k ≤ 2 ∧ i = .int .i64 k ∧ Hid (k < 2 → 2 ≤ (s.data.toList.drop p).length → isSign ((s.data.toList.drop p).take 2) = false) ∧ Hid (k < 1 → 1 ≤ (s.data.toList.drop p).length → isSign ((s.data.toList.drop p).take 1) = false) ∧ Hid (Below w.heap.size w wr) ∧ Hid (Blk wr w.heap.size 32 #[.int .i64 0, .string ⟨#[]⟩, .int .i64 0, .int .i64 0]))
  case atStart => exact ⟨2, rfl, by omega, rfl, hid (fun h => by omega), hid (fun h => by omega), hid (alB w _), hid (Blk.new _ _ _)⟩
  case round =>
    obtain ⟨k, hkg, hk2, rfl, h2, h1, b8, BR⟩ := hrel
    have HK := hid hkg
    clear hkg
    obtain ⟨x0, x1, x2, x3, f0, f1, f2, f3⟩ := BR.out.cells4
    match k, hk2 with
    | 0, _ =>
      go_wp2_with fail
      exact bodyPost_ret (v := .tuple #[.agg #[.int .i64 0, .string ⟨#[]⟩, .int .i64 0, .int .i64 0], .int .i64 0, .int .i64 110]) (by simp [results, Tryd.results18, go_sem, x0, x1, x2, x3]) rfl ⟨by have hb := b8.out; go_grown, _, rfl, by rw [HR.out, signF_no (h2.out (by omega)) (h1.out (by omega))]; rfl⟩
    | 1, _ =>
      obtain ⟨b, hb⟩ : ∃ b, isSign (s.extract p (p + 1)).data.toList = b := ⟨_, rfl⟩
      have HB := hid hb
      have e1 : (p : Int) + 1 ≤ s.size := by omega
      clear hb
      have hx : (s.extract p (p + 1)).data.toList = (s.data.toList.drop p).take 1 := by rw [ext_list, List.drop_take]; congr 1; omega
      have HX := hid hx
      clear hx
      cases b
      · go_wp2_with (go_at_call 39; go_must (with_reducible refine (rf_Sign _ _).mono ?_); go_must (rw [HB.out]); rintro e w2 ⟨rfl, b⟩; have BR2 := hid (BR.out.up2 b); clear BR; have BR := BR2; clear BR2; have b9 := hid (below_hop b b8.out); clear b; clear x0 x1 x2 x3 f0 f1 f2 f3; obtain ⟨x0, x1, x2, x3, f0, f1, f2, f3⟩ := BR.out.cells4)
        have hgk := HK.out
        go_roundg 0
        case rel => exact ⟨0, by omega, by omega, by rfl, hid (fun _ => h2.out (by omega)), hid (fun _ _ => by rw [← HX.out]; exact HB.out), b9, BR⟩
        case measure => omega
      · go_wp2_with (go_at_call 39; go_must (with_reducible refine (rf_Sign _ _).mono ?_); go_must (rw [HB.out]); rintro e w2 ⟨rfl, b⟩; have BR2 := hid (BR.out.up2 b); clear BR; have BR := BR2; clear BR2; have b9 := hid (below_hop b b8.out); clear b; clear x0 x1 x2 x3 f0 f1 f2 f3; obtain ⟨x0, x1, x2, x3, f0, f1, f2, f3⟩ := BR.out.cells4)
        exact bodyPost_ret (v := .tuple #[.agg #[.int .i64 6, .string (s.extract p (p + 1)), .int .i64 0, .int .i64 p], .int .i64 (p + 1), .int .i64 0]) (by simp [results, Tryd.results18, go_sem, x0, x1, x2, x3]) rfl ⟨by have hb := b9.out; go_grown, _, rfl, by rw [HR.out, signF_one (by have := HLN.out; omega) (h2.out (by omega)) (by rw [← HX.out]; exact HB.out), ← HX.out]; exact one_sgR (n := 1)⟩
    | 2, _ =>
      obtain ⟨b, hb⟩ : ∃ b, isSign (s.extract p (p + 2)).data.toList = b := ⟨_, rfl⟩
      have HB := hid hb
      have hx : (s.extract p (p + 2)).data.toList = (s.data.toList.drop p).take 2 := by rw [ext_list, List.drop_take]; congr 1; omega
      have HX := hid hx
      clear hx hb
      by_cases hps : p + 2 ≤ s.size
      · have e1 : (p : Int) + 2 ≤ s.size := by omega
        have HPS := hid hps
        clear hps
        cases b
        · go_wp2_with (go_at_call 39; go_must (with_reducible refine (rf_Sign _ _).mono ?_); go_must (rw [HB.out]); rintro e w2 ⟨rfl, b⟩; have BR2 := hid (BR.out.up2 b); clear BR; have BR := BR2; clear BR2; have b9 := hid (below_hop b b8.out); clear b; clear x0 x1 x2 x3 f0 f1 f2 f3; obtain ⟨x0, x1, x2, x3, f0, f1, f2, f3⟩ := BR.out.cells4)
          have hgk := HK.out
          go_roundg 1
          case rel => exact ⟨1, by omega, by omega, by rfl, hid (fun _ _ => by rw [← HX.out]; exact HB.out), hid (fun h => by omega), b9, BR⟩
          case measure => omega
        · go_wp2_with (go_at_call 39; go_must (with_reducible refine (rf_Sign _ _).mono ?_); go_must (rw [HB.out]); rintro e w2 ⟨rfl, b⟩; have BR2 := hid (BR.out.up2 b); clear BR; have BR := BR2; clear BR2; have b9 := hid (below_hop b b8.out); clear b; clear x0 x1 x2 x3 f0 f1 f2 f3; obtain ⟨x0, x1, x2, x3, f0, f1, f2, f3⟩ := BR.out.cells4)
          exact bodyPost_ret (v := .tuple #[.agg #[.int .i64 6, .string (s.extract p (p + 2)), .int .i64 0, .int .i64 p], .int .i64 (p + 2), .int .i64 0]) (by simp [results, Tryd.results18, go_sem, x0, x1, x2, x3]) rfl ⟨by have hb := b9.out; go_grown, _, rfl, by rw [HR.out, signF_two (by have := HLN.out; have := HPS.out; omega) (by rw [← HX.out]; exact HB.out), ← HX.out]; exact one_sgR (n := 2)⟩
      · have e1 : ¬ (p : Int) + 2 ≤ s.size := by omega
        have HPS := hid hps
        clear hps
        go_wp2_with fail
        have hgk := HK.out
        go_roundg 1
        case rel => exact ⟨1, by omega, by omega, by rfl, hid (fun _ h => by have := HLN.out; have := HPS.out; omega), hid (fun h => by omega), b8, BR⟩
        case measure => omega
end Go.Proofs.YtngbaghkjaibeaaDoor
