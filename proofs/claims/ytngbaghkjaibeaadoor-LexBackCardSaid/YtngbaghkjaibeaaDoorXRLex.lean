/-
  THE WALK OF athanorref11.Lex.
-/
import Derived.Test.YtngbaghkjaibeaaDoorXSkip
namespace Go.Proofs.YtngbaghkjaibeaaDoor
set_option linter.all false
open Go.ChangeShapes Go.WideShapes Go.ChangeAt Go.RowKit

theorem rlex_long (s : ByteArray) (w : World) (h : 8192 < s.size) : Calls Tryd.prog 11 #[.string s] w (LexR (Lx.lexT s.data.toList) w) := by
  have hr : Lx.lexT s.data.toList = .bad 0 2 := by unfold Lx.lexT; rw [if_pos (by rw [size_list]; exact h)]
  rw [hr]
  clear hr
  go_enter Tryd.func11, Tryd.ntmps11
  go_wp2_with fail
  go_ret3
  exact ⟨Below.refl _ _, rfl⟩
theorem SkipTo.zero {s : ByteArray} {q : Nat} (h : SkipTo s 0 q) : Lx.lexA s.data.toList 0 0 = Lx.LR.app [] (Lx.lexA (s.data.toList.drop q) q ([] : List Lx.Tok).length) := by
  have := h.2.2 0
  rw [List.drop_zero] at this
  rw [this, Lx.LR.app_nil]; rfl
theorem rf_skip0 (s : ByteArray) (w : World) (hm : s.size ≤ 100000) : Calls Tryd.prog 17 #[.string s, .int .i64 0] w (SkipP s 0 w) := rf_skip s 0 w (Nat.zero_le _) hm
set_option maxHeartbeats 8000000 in
set_option maxRecDepth 100000 in
theorem rlex_short (s : ByteArray) (w : World) (h : s.size ≤ 8192) : Calls Tryd.prog 11 #[.string s] w (LexR (Lx.lexA s.data.toList 0 0) w) := by
  go_enter Tryd.func11, Tryd.ntmps11
  go_wp2_with (go_at_call 17; go_must (with_reducible refine (rf_skip0 s _ (by omega)).mono ?_); rintro e w9 ⟨h9, q, rfl, hs, hq⟩; subst h9; have HSK := hid hs; have HNB := hid hq; clear hs hq)
  go_loopg [5, 6] (s.size - q) (fun g lv x wr => ∃ (l : List Lx.Tok) (p : Nat) (A : Option Addr) (c : Nat), p + g = s.size ∧ x = .int .i64 p ∧ lv = .slice A l.length c ∧ Hid (TRowT wr w.heap.size (.slice A l.length c) l) ∧ Hid (Below w.heap.size w wr) ∧ Hid (l.length ≤ 4096) ∧ Hid (∀ h : p < s.size, Lx.isBlank (s[p]'h) = false ∧ s[p]'h ≠ 35) ∧ Hid (Lx.lexA s.data.toList 0 0 = Lx.LR.app l (Lx.lexA (s.data.toList.drop p) p l.length)))
  case atStart => exact ⟨[], q, none, 0, by have := HSK.out.2.1; omega, rfl, rfl, hid (World.ownsRow_nil _ _ _ _), hid (Below.refl _ _), hid (by simp), HNB, hid HSK.out.zero⟩
  case round =>
    obtain ⟨l, p, A, c, hp, rfl, rfl, hrow, hB, hL, hnb, hlex⟩ := hrel
    have Hp := hid hp
    by_cases hlt : p < s.size
    · clear hp
      have hp0 : (p : Int) < s.size := by omega
      have hnb2 := hnb.out hlt
      have hdr : s.data.toList.drop p = s[p]'hlt :: s.data.toList.drop (p + 1) := List.drop_eq_getElem_cons (by rw [size_list]; exact hlt)
      have hstep := (congrArg (fun x => Lx.lexA x p l.length) hdr).trans (Lx.lexA_cons (s[p]'hlt) (s.data.toList.drop (p + 1)) p l.length)
      rw [if_neg (by simp [hnb2.1]), if_neg hnb2.2, ← hdr] at hstep
      clear hnb2
      cases ht0 : Lx.tokF (s.data.toList.drop p) with
      | bad er =>
        rw [ht0] at hstep
        have HS := hid hstep
        have HT := hid ht0
        have her := tokF_err ht0
        clear hstep ht0 hdr
        rcases her with rfl | rfl
        all_goals
          go_wp2_with (go_at_call 18; go_must (with_reducible refine (rf_one s p _ hlt (by omega)).mono ?_); rintro e w1 ⟨b, v, rfl, ht⟩; rw [HT.out] at ht; obtain rfl := ht; have b9 := below_hop b hB.out; clear b)
          go_ret3
          rw [hlex.out, HS.out]
          exact ⟨by have hz := b9.size; go_grown, rfl⟩
      | ok kd tx n len =>
        rw [ht0] at hstep
        simp only at hstep
        have HS := hid hstep
        have HT := hid ht0
        obtain ⟨g1, g2, _⟩ := Lx.tokF_take ht0
        have g3 : p + len ≤ s.size := by
          have e1 : (s.data.toList.drop p).length = s.size - p := by rw [List.length_drop, size_list]
          omega
        obtain ⟨E, hE⟩ : ∃ E, E = p + len := ⟨_, rfl⟩
        have HG := hid (And.intro g1 (And.intro g3 hE))
        have HPE := hid (show E ≤ s.size by omega)
        clear hstep ht0 g1 g2 g3 hdr hE
        obtain ⟨tb, htb⟩ : ∃ tb : ByteArray, tb = ⟨tx.toArray⟩ := ⟨_, rfl⟩
        have HTB := hid htb
        clear htb
        by_cases h4 : l.length = 4096
        · have hq : ((l.length : Int) == 4096) = true := by simp; omega
          have H4 := hid h4
          clear h4
          go_wp2_with (go_at_call 18; go_must (with_reducible refine (rf_one s p _ hlt (by omega)).mono ?_); rintro e w1 ⟨b, v, rfl, ht⟩; rw [HT.out] at ht; have ht2 : v = .tuple #[.agg #[.int .i64 kd, .string ⟨tx.toArray⟩, .int .i64 n, .int .i64 p], .int .i64 (p + len : Nat), .int .i64 0] := ht; rw [← HTB.out, ← HG.out.2.2] at ht2; subst ht2; have b9 := below_hop b hB.out; clear b ht)
          go_ret3
          rw [hlex.out, HS.out, if_pos H4.out]
          exact ⟨by have hz := b9.size; go_grown, rfl⟩
        · have hq : ((l.length : Int) == 4096) = false := by simp; omega
          have H4 := hid h4
          clear h4
          go_wp2_with (first
            | (go_at_call 18; go_must (with_reducible refine (rf_one s p _ hlt (by omega)).mono ?_); rintro e w1 ⟨b, v, rfl, ht⟩; rw [HT.out] at ht; have ht2 : v = .tuple #[.agg #[.int .i64 kd, .string ⟨tx.toArray⟩, .int .i64 n, .int .i64 p], .int .i64 (p + len : Nat), .int .i64 0] := ht; rw [← HTB.out, ← HG.out.2.2] at ht2; subst ht2; have b9 := below_hop b hB.out; have HR := hid (hrow.out.up b); have HZ := hid b9.size; have B9 := hid b9; clear b ht b9)
            | (at_builtin; go_must (refine wpList_app (by rfl) _ _ 23 (by rfl) w.heap.size Tryd.underlying23 info_tok rfl (by omega) (by rfl) (World.ownsRow.alloc HR.out _) (by rw [show (World.alloc w1 (.cells #[.int .i64 kd, .string tb, .int .i64 n, .int .i64 p] 32)).heap.size = w1.heap.size + 1 by simp]; rfl) (by rfl) (by simp [Value.oneCell']) (by omega) (by have := hL.out; omega) (by have := HZ.out; simp; omega) ?_); intro v1 w2 hown hg; have HO := hid hown; have HGR := hid hg; clear hown hg)
            | (go_at_call 17; go_must (with_reducible refine (rf_skip s (E) _ HPE.out (by omega)).mono ?_); rintro e w9 ⟨h9, q, rfl, hs, hq⟩; subst h9; have HSK := hid hs; have HNB := hid hq; clear hs hq))
          have hst := HG.out
          have hgk := Hp.out
          have hn := TRowT.snoc (t := ⟨kd, tx, n, p⟩) HO.out (by rw [HTB.out]; rfl)
          obtain ⟨A', c', rfl⟩ := rowT_slice hn
          have HN2 := hid hn
          have hb2 := below_grown (B9.out.alloc (Nat.le_trans HZ.out (Nat.le_refl _)) (.cells #[.int .i64 kd, .string tb, .int .i64 n, .int .i64 p] 32)) HGR.out (by have := HZ.out; simp; omega) (World.ownsRow.alloc HR.out _)
          have HB2 := hid hb2
          have hl9 := hL.out
          have h49 := H4.out
          have hsk := HSK.out
          clear hn hb2
          go_roundg (s.size - q)
          case rel => exact ⟨l ++ [⟨kd, tx, n, p⟩], q, A', c', by have := hsk.2.1; omega, by rfl, rfl, HN2, HB2, hid (by simp; omega), HNB, hid (by rw [hlex.out, HS.out, if_neg H4.out, LR_cons_eq, LR_app_app, List.length_append, List.drop_drop, show p + 1 + (len - 1) = E by omega, show p + len = E by omega, hsk.2.2]; rfl)⟩
          case measure => have := hsk.1; omega
    · obtain rfl : p = s.size := by omega
      clear hp
      go_wp2_with fail
      go_ret3
      have e := hlex.out
      rw [List.drop_of_length_le (by rw [size_list]; omega), Lx.lexA_nil] at e
      rw [e]
      exact ⟨hB.out, _, rfl, by rw [List.append_nil]; exact hrow.out⟩
theorem rf_Lex (s : ByteArray) (w : World) : Calls Tryd.prog 11 #[.string s] w (LexR (Lx.lexT s.data.toList) w) := by
  by_cases h : 8192 < s.size
  · exact rlex_long s w h
  · have e : Lx.lexT s.data.toList = Lx.lexA s.data.toList 0 0 := by unfold Lx.lexT; rw [if_neg (by rw [size_list]; exact h)]
    rw [e]
    exact rlex_short s w (by omega)
end Go.Proofs.YtngbaghkjaibeaaDoor
