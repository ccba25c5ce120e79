/-
  THE LAW LexJoins: two texts with a line's end between have the tokens of both; its tied card.
-/
import Derived.Test.YtngbaghkjaibeaaDoorXWake
import Derived.Test.YtngbaghkjaibeaaDoorXJoin
import Derived.Deep.LoopGhost
import Derived.Test.YtngbaghkjaibeaaDoorTie
import Derived.Test.YtngbaghkjaibeaaDoorCards
import Derived.SevenTiedAt
namespace Go.Proofs.YtngbaghkjaibeaaDoor.lexJoins
set_option linter.all false
open Go.ChangeShapes Go.WideShapes Go.ChangeAt Go.RowKit Go.ChangeMaps

theorem joined {S T : List UInt8} (h : S.length + T.length ≤ 4000) : Lx.lexT (S ++ 10 :: T) = match Lx.lexT S with | .bad q e => .bad q e | .ok l => Lx.LR.app l ((Lx.lexT T).move (S.length + 1)) := by
  have e1 : Lx.lexT S = Lx.lexA S 0 0 := by unfold Lx.lexT; rw [if_neg (by omega)]
  have e2 : Lx.lexT T = Lx.lexA T 0 0 := by unfold Lx.lexT; rw [if_neg (by omega)]
  have e3 : Lx.lexT (S ++ 10 :: T) = Lx.lexA (S ++ 10 :: T) 0 0 := by unfold Lx.lexT; rw [if_neg (by simp; omega)]
  rw [e3, Lx.lexA_join T S.length S 0 0 (Nat.le_refl _), ← e1]
  cases hs : Lx.lexT S with
  | bad q e => rfl
  | ok l =>
    simp only
    have hl : l.length ≤ S.length := Lx.lexA_count _ _ _ _ _ (Nat.le_refl _) (e1 ▸ hs)
    have hm := Lx.lexA_move (S.length + 1) T.length T 0 0 (0 + l.length) (Nat.le_refl _) (by omega) (by omega)
    rw [show 0 + S.length + 1 = 0 + (S.length + 1) by omega, hm, e2]
set_option maxHeartbeats 8000000 in
set_option maxRecDepth 100000 in
theorem walk (w : World) (s : ByteArray) (hs : s.size ≤ 140737488351232) (t : ByteArray) (ht : t.size ≤ 140737488351232) (hE : ErrVars w) : Calls Tryd.prog 5 #[.string s, .string t] w fun e w' => e = .returned (.bool true) ∧ Below w.heap.size w w' := by
  have HE := hid hE
  clear hE
  by_cases hl : 4000 < s.size + t.size
  · have hl2 : (4000 : Int) < (s.size : Int) + t.size := by omega
    have hs2 : (s.size : Int) ≤ 140737488351232 := by omega
    have ht2 : (t.size : Int) ≤ 140737488351232 := by omega
    go_enter Tryd.func5, Tryd.ntmps5
    go_wp2_with (go_at_call 9; (with_reducible refine (law_wakes _ (HE.out.up (Below.refl w.heap.size w))).mono ?_); rintro e w9 ⟨rfl, b⟩; have B9 := hid (below_hop b (Below.refl w.heap.size w)); clear b)
    go_ret
    exact ⟨rfl, B9.out⟩
  · have hl2 : ¬ (4000 : Int) < (s.size : Int) + t.size := by omega
    have hs2 : (s.size : Int) ≤ 4000 := by omega
    have ht2 : (t.size : Int) ≤ 4000 := by omega
    obtain ⟨all, hall⟩ : ∃ all : ByteArray, s ++ ⟨#[10]⟩ ++ t = all := ⟨_, rfl⟩
    have hz1 : ¬ 9223372036854775807 < s.size + (⟨#[10]⟩ : ByteArray).size := by show ¬ 9223372036854775807 < s.size + 1; omega
    have hz2 : ¬ 9223372036854775807 < (s ++ ⟨#[10]⟩ : ByteArray).size + t.size := by rw [ByteArray.size_append]; show ¬ 9223372036854775807 < s.size + 1 + t.size; omega
    have hj := joined (S := s.data.toList) (T := t.data.toList) (by rw [size_list, size_list]; omega)
    have hal : all.data.toList = s.data.toList ++ 10 :: t.data.toList := by rw [← hall, cat_list, cat_list, List.append_assoc]; rfl
    rw [← hal, size_list] at hj
    have HALL := hid hall
    obtain ⟨r, hr⟩ : ∃ r, Lx.lexT s.data.toList = r := ⟨_, rfl⟩
    obtain ⟨r2, hr2⟩ : ∃ r2, Lx.lexT t.data.toList = r2 := ⟨_, rfl⟩
    rw [hr, hr2] at hj
    have HS := hid hr
    have HT := hid hr2
    clear hall hal
    have hall2 := HALL.out
    cases r with
    | bad q er =>
      have hj2 : Lx.lexT all.data.toList = .bad q er := hj
      have HJ := hid hj2
      have hq := bad_lt hr (by rw [size_list]; omega)
      rw [size_list] at hq
      have hq2 : q < s.size := hq.2
      have her := bad_er hr
      clear hj hj2 hr hr2 hq
      cases r2 with
      | bad q2 er2 =>
        rcases her with rfl | rfl | rfl
        all_goals
          go_enter Tryd.func5, Tryd.ntmps5
          go_wp2_with (first
            | (go_at_call 10; first
              | (((with_reducible refine (lex_Lex s _ HE.out).mono ?_); rw [HS.out]; rintro e w1 ⟨b, rfl⟩); have B1 := hid b; clear b)
              | (((with_reducible refine (lex_Lex t _ (HE.out.up B1.out)).mono ?_); rw [HT.out]; rintro e w2 ⟨b, rfl⟩); have B2 := hid (below_hop b B1.out); clear b)
              | (((with_reducible refine (lex_Lex all _ (HE.out.up B2.out)).mono ?_); rw [HJ.out]; rintro e w3 ⟨b, rfl⟩); have B3 := hid (below_hop b B2.out); clear b))
            | (go_at_call 9; (with_reducible refine (law_wakes _ (HE.out.up B3.out)).mono ?_); rintro e w9 ⟨rfl, b⟩; have B9 := hid (below_hop b B3.out); clear b))
          go_ret
          exact ⟨rfl, B9.out⟩
      | ok k =>
        rcases her with rfl | rfl | rfl
        all_goals
          go_enter Tryd.func5, Tryd.ntmps5
          go_wp2_with (first
            | (go_at_call 10; first
              | (((with_reducible refine (lex_Lex s _ HE.out).mono ?_); rw [HS.out]; rintro e w1 ⟨b, rfl⟩); have B1 := hid b; clear b)
              | (((with_reducible refine (lex_Lex t _ (HE.out.up B1.out)).mono ?_); rw [HT.out]; rintro e w2 ⟨b, v, rfl, hr⟩; obtain ⟨A2, c2, rfl⟩ := rowT_slice hr); have B2 := hid (below_hop b B1.out); clear b hr)
              | (((with_reducible refine (lex_Lex all _ (HE.out.up B2.out)).mono ?_); rw [HJ.out]; rintro e w3 ⟨b, rfl⟩); have B3 := hid (below_hop b B2.out); clear b))
            | (go_at_call 9; (with_reducible refine (law_wakes _ (HE.out.up B3.out)).mono ?_); rintro e w9 ⟨rfl, b⟩; have B9 := hid (below_hop b B3.out); clear b))
          go_ret
          exact ⟨rfl, B9.out⟩
    | ok l =>
      have HLL := hid (show l.length ≤ 4000 from Nat.le_trans (count_le hr) (by rw [size_list]; omega))
      cases r2 with
      | bad q2 er2 =>
        have hj2 : Lx.lexT all.data.toList = .bad (q2 + (s.data.toList.length + 1 : Nat)) er2 := hj
        rw [size_list] at hj2
        obtain ⟨q3, hq3⟩ : ∃ q3 : Int, q2 + (s.size + 1 : Nat) = q3 := ⟨_, rfl⟩
        rw [hq3] at hj2
        have HJ := hid hj2
        have hq := bad_lt hr2 (by rw [size_list]; omega)
        have hq2 : (s.size : Int) < q3 := by omega
        have her := bad_er hr2
        clear hj hj2 hr hr2 hq hq3
        rcases her with rfl | rfl | rfl
        all_goals
          go_enter Tryd.func5, Tryd.ntmps5
          go_wp2_with (first
            | (go_at_call 10; first
              | (((with_reducible refine (lex_Lex s _ HE.out).mono ?_); rw [HS.out]; rintro e w1 ⟨b, v, rfl, hr⟩; obtain ⟨A1, c1, rfl⟩ := rowT_slice hr); have B1 := hid b; clear b hr)
              | (((with_reducible refine (lex_Lex t _ (HE.out.up B1.out)).mono ?_); rw [HT.out]; rintro e w2 ⟨b, rfl⟩); have B2 := hid (below_hop b B1.out); clear b)
              | (((with_reducible refine (lex_Lex all _ (HE.out.up B2.out)).mono ?_); rw [HJ.out]; rintro e w3 ⟨b, rfl⟩); have B3 := hid (below_hop b B2.out); clear b))
            | (go_at_call 9; (with_reducible refine (law_wakes _ (HE.out.up B3.out)).mono ?_); rintro e w9 ⟨rfl, b⟩; have B9 := hid (below_hop b B3.out); clear b))
          go_ret
          exact ⟨rfl, B9.out⟩
      | ok k =>
        have hj2 : Lx.lexT all.data.toList = .ok (l ++ k.map (Lx.Tok.move (s.data.toList.length + 1))) := hj
        rw [size_list] at hj2
        exact walk_both w s t all l k (by omega) hall2 hz1 hz2 hr hr2 hj2 HE.out
set_option maxRecDepth 100000 in
theorem answers {H : Type} (enc : TypeId × Value → H) : AnswersL enc Tryd.prog 5 Tryd.f5 Rows.lexJoinsRow.laid := by
  intro W base args ds ps hA hval hlt hwt hX
  rw [Tryd.params5] at hA hval
  obtain ⟨v0, vs0, d0, ds0, p0, q0, hargs, rfl, rfl, h0, r0⟩ := trodAll_cons hA
  obtain ⟨v1, vs1, d1, ds1, p1, q1, rfl, rfl, rfl, h1, r1⟩ := trodAll_cons r0
  obtain ⟨rfl, rfl, rfl⟩ := trodAll_nil r1
  obtain rfl : args = #[v0, v1] := Array.ext' hargs
  obtain ⟨a0, rfl, rfl, rfl, w0⟩ := open_string Tryd.underlying9 (hval 0 9 v0 rfl rfl) h0
  obtain ⟨a1, rfl, rfl, rfl, w1⟩ := open_string Tryd.underlying9 (hval 1 9 v1 rfl rfl) h1
  exact walk W a0 (str_reach hwt (j := 0) rfl rfl) a1 (str_reach hwt (j := 1) rfl rfl) (laid_ok hX)
theorem hspec {H : Type} (ds : List (DataW H)) (h : ds.length = (Tryd.f5).params.toList.length) : Rows.lexJoinsSpec.fn H ds = { results := [.lit (.bool true)], args := ds } := by
  rw [Tryd.params5] at h
  match ds, h with
  | [_, _], _ => rfl
theorem lifted (os : Os) (started : os.Started) (H : Type) (enc : TypeId × Value → H) : ReturnsInHanded {} Tryd.checked os 5 .any (fun w args => (Rows.lexJoinsSpec.pre enc Tryd.prog Tryd.f5 Rows.lexJoinsRow.domain false w args ∧ laidMetH Tryd.prog Rows.lexJoinsRow.laid w) ∧ sizedMet enc Tryd.prog Tryd.f5 (OpenSpec.ofChange Rows.lexJoinsSpec) false w args) (Rows.lexJoinsSpec.post enc Tryd.prog Tryd.f5 false true false false) :=
  lifted_of_walk_laid (C := Tryd.checked) (tb := 4) (by kernel_rfl) started (by kernel_rfl) Tryd.func5 rfl hspec rfl Tryd.underlying4 (by kernel_rfl) (by kernel_rfl)
    (ChangeSpec.witness_shaped (enc := enc) (C := Tryd.checked) (os := os) (X := fun w _ => laidMetH Tryd.prog Rows.lexJoinsRow.laid w) false (World.doorLaid Tryd.prog 62 os) #[.string ⟨#[]⟩, .string ⟨#[]⟩] 8 rfl (World.shaped_of_RefB (by kernel_rfl) (by kernel_rfl)) (by kernel_rfl) (by kernel_rfl) (by kernel_rfl) (door_met os _)) (answers enc)
theorem over : Rows.lexJoinsRow.holds Tryd.pinned (OpenSpec.ofChange Rows.lexJoinsSpec) :=
  OpenClaim.holds_of_wide 5 Tryd.f5 rfl rfl rfl rfl rfl rfl rfl ⟨rfl, rfl, rfl, rfl, rfl⟩ rfl rfl rfl rfl rfl (by kernel_rfl) Tryd.func5 (by kernel_rfl)
    (of_decide_eq_true (by kernel_rfl)) (by unfold Func.isWrapper; first | (rw [if_pos (by decide +kernel)]; kernel_rfl) | (rw [if_neg (by decide +kernel)]; exact ⟨rfl, rfl⟩))
    (fun os started H enc _ => lifted os started H enc)
/-- THE STATEMENT: THE TIED CARD. -/
theorem proved : Rows.LexJoinsCardSaid :=
  Claim7.holds_tied_plain_at .later [] Rows.lexJoinsCard.laidKinds true Rows.lexJoinsCard.stood.harness true
    over (fun _ h => by cases h) (by kernel_rfl) (fun _ h => by cases h) lexJoins_row_tie rfl ⟨rfl, rfl⟩ (by kernel_rfl) rfl
    (fun f fn hf hfn => by
      obtain rfl : f = 5 := Option.some.inj ((show Tryd.prog.funcNamed Rows.lexJoinsRow.func = some 5 by kernel_rfl).symm.trans hf) |>.symm
      obtain rfl : fn = Tryd.f5 := (Option.some.inj (Tryd.func5.symm.trans hfn)).symm
      exact ⟨by kernel_rfl, fun j t ht => by
        have hall : (Tryd.f5.params.toList.all fun u => !Tryd.prog.wantsStandIn u) = true := by kernel_rfl
        have hm : t ∈ Tryd.f5.params.toList := Array.mem_toList_iff.2 (Array.mem_of_getElem? ht)
        exact (show Tryd.prog.wantsStandIn t = false by simpa using List.all_eq_true.1 hall t hm)⟩)
    (by kernel_rfl)
#print axioms proved
end Go.Proofs.YtngbaghkjaibeaaDoor.lexJoins
