/-
  THE LAW LexReads: lex.Lex answers as the document says, of every text; its tied card.
-/
import Derived.Test.YtngbaghkjaibeaaDoorXWake
import Derived.Test.YtngbaghkjaibeaaDoorTie
import Derived.Test.YtngbaghkjaibeaaDoorCards
import Derived.SevenTiedAt
namespace Go.Proofs.YtngbaghkjaibeaaDoor.lexReads
set_option linter.all false
open Go.ChangeShapes Go.WideShapes Go.ChangeAt Go.RowKit Go.ChangeMaps

set_option maxHeartbeats 4000000 in
set_option maxRecDepth 100000 in
theorem walk (w : World) (s : ByteArray) (hs : s.size ≤ 140737488351232) (hE : ErrVars w) : Calls Tryd.prog 3 #[.string s] w fun e w' => e = .returned (.bool true) ∧ Below w.heap.size w w' := by
  have HE := hid hE
  clear hE
  by_cases hl : 20000 < s.size
  · go_enter Tryd.func3, Tryd.ntmps3
    go_wp2_with (go_at_call 9; (with_reducible refine (law_wakes _ (HE.out.up (Below.refl w.heap.size w))).mono ?_); rintro e w9 ⟨rfl, b⟩; have B9 := hid (below_hop b (Below.refl w.heap.size w)); clear b)
    go_ret
    exact ⟨rfl, B9.out⟩
  · obtain ⟨r, hr⟩ : ∃ r, Lx.lexT s.data.toList = r := ⟨_, rfl⟩
    have HR := hid hr
    clear hr
    cases r with
    | bad p er =>
      go_enter Tryd.func3, Tryd.ntmps3
      go_wp2_with (first
        | (go_at_call 10; (with_reducible refine (lex_Lex _ _ HE.out).mono ?_); rw [HR.out]; rintro e w1 ⟨b, rfl⟩; have B1 := hid b; clear b)
        | (go_at_call 11; (with_reducible refine (rf_Lex _ _).mono ?_); rw [HR.out]; rintro e w2 ⟨b, rfl⟩; have B2 := hid (below_hop b B1.out); clear b)
        | (go_at_call 12; go_must (with_reducible refine (rf_Same_nil _).mono ?_); rintro e w3 ⟨rfl, b⟩; have B3 := hid (below_hop b B2.out); clear b)
        | (go_at_call 9; (with_reducible refine (law_wakes _ (HE.out.up B3.out)).mono ?_); rintro e w9 ⟨rfl, b⟩; have B9 := hid (below_hop b B3.out); clear b))
      go_ret
      exact ⟨rfl, B9.out⟩
    | ok l =>
      have HL := hid (Lx.lexT_count HR.out)
      go_enter Tryd.func3, Tryd.ntmps3
      go_wp2_with (first
        | (go_at_call 10; (with_reducible refine (lex_Lex _ _ HE.out).mono ?_); rw [HR.out]; rintro e w1 ⟨b, v, rfl, hr⟩; obtain ⟨A1, c1, rfl⟩ := rowT_slice hr; have B1 := hid b; have R1 := hid hr.rd; clear b hr)
        | (go_at_call 11; (with_reducible refine (rf_Lex _ _).mono ?_); rw [HR.out]; rintro e w2 ⟨b, v, rfl, hr⟩; obtain ⟨A2, c2, rfl⟩ := rowT_slice hr; have B2 := hid (below_hop b B1.out); have R2 := hid hr.rd; have R3 := hid (R1.out.up b); clear b hr)
        | (go_at_call 12; go_must (with_reducible refine (rf_Same l l A1 A2 c1 c2 true _ R3.out R2.out rfl (Nat.le_trans HL.out (by omega)) (fun i _ _ => ⟨same_self _, fun _ => rfl⟩)).mono ?_); rintro e w3 ⟨rfl, b⟩; have B3 := hid (below_hop b B2.out); clear b)
        | (go_at_call 9; (with_reducible refine (law_wakes _ (HE.out.up B3.out)).mono ?_); rintro e w9 ⟨rfl, b⟩; have B9 := hid (below_hop b B3.out); clear b))
      go_ret
      exact ⟨rfl, B9.out⟩
set_option maxRecDepth 100000 in
theorem answers {H : Type} (enc : TypeId × Value → H) : AnswersL enc Tryd.prog 3 Tryd.f3 Rows.lexReadsRow.laid := by
  intro W base args ds ps hA hval hlt hwt hX
  rw [Tryd.params3] at hA hval
  obtain ⟨v0, vs0, d0, ds0, p0, q0, hargs, rfl, rfl, h0, r0⟩ := trodAll_cons hA
  obtain ⟨rfl, rfl, rfl⟩ := trodAll_nil r0
  obtain rfl : args = #[v0] := Array.ext' hargs
  obtain ⟨a0, rfl, rfl, rfl, w0⟩ := open_string Tryd.underlying9 (hval 0 9 v0 rfl rfl) h0
  exact walk W a0 (str_reach hwt (j := 0) rfl rfl) (laid_ok hX)
theorem hspec {H : Type} (ds : List (DataW H)) (h : ds.length = (Tryd.f3).params.toList.length) : Rows.lexReadsSpec.fn H ds = { results := [.lit (.bool true)], args := ds } := by
  rw [Tryd.params3] at h
  match ds, h with
  | [_], _ => rfl
theorem lifted (os : Os) (started : os.Started) (H : Type) (enc : TypeId × Value → H) : ReturnsInHanded {} Tryd.checked os 3 .any (fun w args => (Rows.lexReadsSpec.pre enc Tryd.prog Tryd.f3 Rows.lexReadsRow.domain false w args ∧ laidMetH Tryd.prog Rows.lexReadsRow.laid w) ∧ sizedMet enc Tryd.prog Tryd.f3 (OpenSpec.ofChange Rows.lexReadsSpec) false w args) (Rows.lexReadsSpec.post enc Tryd.prog Tryd.f3 false true false false) :=
  lifted_of_walk_laid (C := Tryd.checked) (tb := 4) (by kernel_rfl) started (by kernel_rfl) Tryd.func3 rfl hspec rfl Tryd.underlying4 (by kernel_rfl) (by kernel_rfl)
    (ChangeSpec.witness_shaped (enc := enc) (C := Tryd.checked) (os := os) (X := fun w _ => laidMetH Tryd.prog Rows.lexReadsRow.laid w) false (World.doorLaid Tryd.prog 62 os) #[.string ⟨#[]⟩] 8 rfl (World.shaped_of_RefB (by kernel_rfl) (by kernel_rfl)) (by kernel_rfl) (by kernel_rfl) (by kernel_rfl) (door_met os _)) (answers enc)
theorem over : Rows.lexReadsRow.holds Tryd.pinned (OpenSpec.ofChange Rows.lexReadsSpec) :=
  OpenClaim.holds_of_wide 3 Tryd.f3 rfl rfl rfl rfl rfl rfl rfl ⟨rfl, rfl, rfl, rfl, rfl⟩ rfl rfl rfl rfl rfl (by kernel_rfl) Tryd.func3 (by kernel_rfl)
    (of_decide_eq_true (by kernel_rfl)) (by unfold Func.isWrapper; first | (rw [if_pos (by decide +kernel)]; kernel_rfl) | (rw [if_neg (by decide +kernel)]; exact ⟨rfl, rfl⟩))
    (fun os started H enc _ => lifted os started H enc)
/-- THE STATEMENT: THE TIED CARD. -/
theorem proved : Rows.LexReadsCardSaid :=
  Claim7.holds_tied_plain_at .later [] Rows.lexReadsCard.laidKinds true Rows.lexReadsCard.stood.harness true
    over (fun _ h => by cases h) (by kernel_rfl) (fun _ h => by cases h) lexReads_row_tie rfl ⟨rfl, rfl⟩ (by kernel_rfl) rfl
    (fun f fn hf hfn => by
      obtain rfl : f = 3 := Option.some.inj ((show Tryd.prog.funcNamed Rows.lexReadsRow.func = some 3 by kernel_rfl).symm.trans hf) |>.symm
      obtain rfl : fn = Tryd.f3 := (Option.some.inj (Tryd.func3.symm.trans hfn)).symm
      exact ⟨by kernel_rfl, fun j t ht => by
        have hall : (Tryd.f3.params.toList.all fun u => !Tryd.prog.wantsStandIn u) = true := by kernel_rfl
        have hm : t ∈ Tryd.f3.params.toList := Array.mem_toList_iff.2 (Array.mem_of_getElem? ht)
        exact (show Tryd.prog.wantsStandIn t = false by simpa using List.all_eq_true.1 hall t hm)⟩)
    (by kernel_rfl)
#print axioms proved
end Go.Proofs.YtngbaghkjaibeaaDoor.lexReads
