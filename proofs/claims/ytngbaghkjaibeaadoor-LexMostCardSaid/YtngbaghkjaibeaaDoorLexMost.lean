/-
  THE LAW LexMost: behind as many tokens as there may be, what comes next is told as the document says; its tied card.
-/
import Derived.Test.YtngbaghkjaibeaaDoorXWake
import Derived.Test.YtngbaghkjaibeaaDoorTie
import Derived.Test.YtngbaghkjaibeaaDoorCards
import Derived.SevenTiedAt
import Derived.Laws.MakeOwn
import Derived.Laws.IdiomStrings
import Derived.Deep.LoopGhost
import Derived.Lib.BufferRead
namespace Go.Proofs.YtngbaghkjaibeaaDoor.lexMost
set_option linter.all false
open Go.ChangeShapes Go.WideShapes Go.ChangeAt Go.RowKit Go.ChangeMaps

theorem info_u8 : InfoIs Tryd.prog 5 (.int .u8 0) 1 1 := by unfold InfoIs; kernel_rfl
def plus (j : Nat) : List Value := List.replicate j (.int .u8 43)
theorem plus_succ (j : Nat) : plus (j + 1) = plus j ++ [.int .u8 43] := by unfold plus; rw [List.replicate_succ']
theorem plus_len (j : Nat) : (plus j).length = j := by unfold plus; simp
def PRow (w : World) (B : Nat) (v : Value) (j : Nat) : Prop := w.ownsRow B 5 1 v j (plus j)
theorem PRow.slice {w : World} {B j : Nat} {v : Value} (h : PRow w B v j) : ∃ A c, v = .slice A j c := by
  rcases h.2 with ⟨h1, h2⟩ | ⟨g, cap, cur, h1, _⟩
  · rw [h2, h1]; exact ⟨none, 0, rfl⟩
  · exact ⟨_, _, h1⟩
theorem PRow.text {w : World} {B j c : Nat} {A : Option Addr} (h : PRow w B (.slice A j c) j) : (convert 34 9 (.slice A j c)).run Tryd.prog w = .ok (.string ⟨(List.replicate j 43).toArray⟩) w := by
  cases A with
  | none =>
    have h0 : j = 0 := by
      rcases h.2 with ⟨_, h2⟩ | ⟨g, cap, cur, h1, _⟩
      · exact h2
      · cases h1
    subst h0
    exact Lib.run_convert_nil_bytes w 34 9 5 c Tryd.underlying34 Tryd.underlying5 Tryd.underlying9
  | some a =>
    rcases h.2 with ⟨h1, _⟩ | ⟨g, cap, cur, h1, _⟩
    · cases h1
    · have e1 : some a = some ⟨g, 0, none⟩ := congrArg (fun v => match v with | Value.slice x _ _ => x | _ => none) h1
      have e2 := Option.some.inj e1
      subst e2
      have hadd : ∀ k, (⟨g, 0, none⟩ : Addr).add k = ⟨g, k, none⟩ := fun k => by unfold Addr.add; split <;> simp_all
      have hr := run_convert_bytes_back (P := Tryd.prog) w 34 9 5 ⟨g, 0, none⟩ c (List.replicate j 43) Tryd.underlying34 Tryd.underlying5 Tryd.underlying9 (fun i hi => by
        have hi' : i < j := by simpa using hi
        have := World.ownsRow.cells h (g := g) rfl i (.int .u8 43) (by unfold plus; simp [hi'])
        rw [this]
        simp)
      simpa using hr
set_option maxHeartbeats 8000000 in
set_option maxRecDepth 100000 in
theorem walk_few (w : World) (n : Nat) (hn : n ≤ 4100) (tail : ByteArray) (ht : tail.size ≤ 3000) (hE : ErrVars w) : Calls Tryd.prog 6 #[.int .i64 n, .string tail] w fun e w' => e = .returned (.bool true) ∧ Below w.heap.size w w' := by
  have HE := hid hE
  obtain ⟨i, hi0, hi1, hi2, hi3⟩ := info_u8.parts
  obtain ⟨w0, hmk, hrow0, hg0⟩ := run_make_own (P := Tryd.prog) w w.heap.size 34 5 i (.int .u8 0) 1 Tryd.underlying34 hi0 hi1 hi2 .i64 .i64 (n + tail.size) (by rw [hi3]; omega) (by unfold maxLen; omega) (Nat.le_refl _)
  have hmk2 : (Instr.makeSlice 34 (.int .i64 0) (.int .i64 ((n : Int) + tail.size))).run Tryd.prog w = .ok (.slice (some ⟨w.heap.size, 0, none⟩) 0 (n + tail.size)) w0 := hmk
  have HR0 := hid (show PRow w0 w.heap.size (.slice (some ⟨w.heap.size, 0, none⟩) 0 (n + tail.size)) 0 from hrow0)
  have HB0 := hid (show Below w.heap.size w w0 from below_grown (Below.refl _ _) (v := .slice none 0 0) hg0 (Nat.le_refl _) (World.ownsRow_nil w w.heap.size 5 1))
  have hn2 : (n : Int) ≤ 4100 := by omega
  have ht2 : (tail.size : Int) ≤ 3000 := by omega
  have hn3 : ¬ (n : Int) < 0 := by omega
  clear hE hmk hi0 hi1 hi2 hi3 hrow0 hg0
  go_enter Tryd.func6, Tryd.ntmps6
  go_wp2_with fail
  go_loopg [5, 6] n (fun g v x wr => ∃ (j : Nat) (A : Option Addr) (c : Nat), j + g = n ∧ x = .int .i64 j ∧ v = .slice A j c ∧ Hid (PRow wr w.heap.size (.slice A j c) j) ∧ Hid (Below w.heap.size w wr))
  case atStart => exact ⟨0, _, _, by omega, rfl, rfl, HR0, HB0⟩
  case round =>
    obtain ⟨j, A, c, hj, rfl, rfl, hrow, hb⟩ := hrel
    have HJ := hid hj
    by_cases hlt : j < n
    · have hlt2 : (j : Int) < n := by omega
      clear hj
      go_wp2_with (at_builtin; go_must (refine wpList_app (by rfl) _ _ 34 (by rfl) w.heap.size Tryd.underlying34 info_u8 rfl (by omega) (by rfl) (by exact hrow.out) (by rfl) (by rfl) (by simp [Value.oneCell']) (by omega) (by omega) hb.out.size ?_); intro v1 w1 hown hg; have HO := hid hown; have HG := hid hg; clear hown hg)
      have hn1 : PRow w1 w.heap.size v1 (j + 1) := by have h9 := HO.out; unfold PRow; rw [plus_succ]; exact h9
      obtain ⟨A', c', rfl⟩ := hn1.slice
      have hb2 := below_grown hb.out HG.out hb.out.size hrow.out
      have hjg := HJ.out
      go_roundg (gk - 1)
      case rel => exact ⟨j + 1, A', c', by omega, by go_num, rfl, hid hn1, hid hb2⟩
      case measure => omega
    obtain rfl : j = n := by omega
    have hcv := hrow.out.text
    obtain ⟨T, hT⟩ : ∃ T : ByteArray, (⟨(List.replicate j 43).toArray⟩ : ByteArray) = T := ⟨_, rfl⟩
    rw [hT] at hcv
    have hTs : T.size = j := by rw [← hT]; simp [ByteArray.size]
    have hz : ¬ 9223372036854775807 < T.size + tail.size := by omega
    obtain ⟨S, hS⟩ : ∃ S : ByteArray, T ++ tail = S := ⟨_, rfl⟩
    clear hj hT hTs
    obtain ⟨r, hr⟩ : ∃ r, Lx.lexT S.data.toList = r := ⟨_, rfl⟩
    have HR := hid hr
    clear hr
    cases r with
    | bad p er =>
      go_wp2_with (first
        | (go_at_call 10; (with_reducible refine (lex_Lex S _ (HE.out.up hb.out)).mono ?_); rw [HR.out]; rintro e w1 ⟨b, rfl⟩; have B1 := hid (below_hop b hb.out); clear b)
        | (go_at_call 11; (with_reducible refine (rf_Lex S _).mono ?_); rw [HR.out]; rintro e w2 ⟨b, rfl⟩; have B2 := hid (below_hop b B1.out); clear b)
        | (go_at_call 12; go_must (with_reducible refine (rf_Same_nil _).mono ?_); rintro e w3 ⟨rfl, b⟩; have B3 := hid (below_hop b B2.out); clear b)
        | (go_at_call 9; (with_reducible refine (law_wakes _ (HE.out.up B3.out)).mono ?_); rintro e w9 ⟨rfl, b⟩; have B9 := hid (below_hop b B3.out); clear b))
      go_ret
      exact ⟨rfl, B9.out⟩
    | ok l =>
      have HL := hid (Lx.lexT_count HR.out)
      go_wp2_with (first
        | (go_at_call 10; (with_reducible refine (lex_Lex S _ (HE.out.up hb.out)).mono ?_); rw [HR.out]; rintro e w1 ⟨b, v, rfl, hr⟩; obtain ⟨A1, c1, rfl⟩ := rowT_slice hr; have B1 := hid (below_hop b hb.out); have R1 := hid hr.rd; clear b hr)
        | (go_at_call 11; (with_reducible refine (rf_Lex S _).mono ?_); rw [HR.out]; rintro e w2 ⟨b, v, rfl, hr⟩; obtain ⟨A2, c2, rfl⟩ := rowT_slice hr; have B2 := hid (below_hop b B1.out); have R2 := hid hr.rd; have R3 := hid (R1.out.up b); clear b hr)
        | (go_at_call 12; go_must (with_reducible refine (rf_Same l l A1 A2 c1 c2 true _ R3.out R2.out rfl (Nat.le_trans HL.out (by omega)) (fun i _ _ => ⟨same_self _, fun _ => rfl⟩)).mono ?_); rintro e w3 ⟨rfl, b⟩; have B3 := hid (below_hop b B2.out); clear b)
        | (go_at_call 9; (with_reducible refine (law_wakes _ (HE.out.up B3.out)).mono ?_); rintro e w9 ⟨rfl, b⟩; have B9 := hid (below_hop b B3.out); clear b))
      go_ret
      exact ⟨rfl, B9.out⟩
set_option maxHeartbeats 4000000 in
theorem walk (w : World) (n : Int) (hn : (Lit.int .i64 n).wf = true) (tail : ByteArray) (ht : tail.size ≤ 140737488351232) (hE : ErrVars w) : Calls Tryd.prog 6 #[.int .i64 n, .string tail] w fun e w' => e = .returned (.bool true) ∧ Below w.heap.size w w' := by
  have key : (n < 0 ∨ 4100 < n ∨ 3000 < tail.size) → Calls Tryd.prog 6 #[.int .i64 n, .string tail] w fun e w' => e = .returned (.bool true) ∧ Below w.heap.size w w' := by
    intro h
    have HE := hid hE
    clear hE hn
    by_cases h1 : n < 0
    · clear h
      go_enter Tryd.func6, Tryd.ntmps6
      go_wp2_with (go_at_call 9; (with_reducible refine (law_wakes _ (HE.out.up (Below.refl w.heap.size w))).mono ?_); rintro e w9 ⟨rfl, b⟩; have B9 := hid (below_hop b (Below.refl w.heap.size w)); clear b)
      go_ret
      exact ⟨rfl, B9.out⟩
    by_cases h2 : 4100 < n
    · clear h
      go_enter Tryd.func6, Tryd.ntmps6
      go_wp2_with (go_at_call 9; (with_reducible refine (law_wakes _ (HE.out.up (Below.refl w.heap.size w))).mono ?_); rintro e w9 ⟨rfl, b⟩; have B9 := hid (below_hop b (Below.refl w.heap.size w)); clear b)
      go_ret
      exact ⟨rfl, B9.out⟩
    · have h3 : 3000 < (tail.size : Int) := by omega
      clear h
      go_enter Tryd.func6, Tryd.ntmps6
      go_wp2_with (go_at_call 9; (with_reducible refine (law_wakes _ (HE.out.up (Below.refl w.heap.size w))).mono ?_); rintro e w9 ⟨rfl, b⟩; have B9 := hid (below_hop b (Below.refl w.heap.size w)); clear b)
      go_ret
      exact ⟨rfl, B9.out⟩
  by_cases h : n < 0 ∨ 4100 < n ∨ 3000 < tail.size
  · exact key h
  · obtain ⟨m, rfl⟩ := Int.eq_ofNat_of_zero_le (show 0 ≤ n by omega)
    exact walk_few w m (by omega) tail (by omega) hE
set_option maxRecDepth 100000 in
theorem answers {H : Type} (enc : TypeId × Value → H) : AnswersL enc Tryd.prog 6 Tryd.f6 Rows.lexMostRow.laid := by
  intro W base args ds ps hA hval hlt hwt hX
  rw [Tryd.params6] at hA hval
  obtain ⟨v0, vs0, d0, ds0, p0, q0, hargs, rfl, rfl, h0, r0⟩ := trodAll_cons hA
  obtain ⟨v1, vs1, d1, ds1, p1, q1, rfl, rfl, rfl, h1, r1⟩ := trodAll_cons r0
  obtain ⟨rfl, rfl, rfl⟩ := trodAll_nil r1
  obtain rfl : args = #[v0, v1] := Array.ext' hargs
  obtain ⟨a0, rfl, rfl, rfl, w0⟩ := open_int Tryd.underlying3 (hval 0 3 v0 rfl rfl) h0
  obtain ⟨a1, rfl, rfl, rfl, w1⟩ := open_string Tryd.underlying9 (hval 1 9 v1 rfl rfl) h1
  exact walk W a0 w0 a1 (str_reach hwt (j := 1) rfl rfl) (laid_ok hX)
theorem hspec {H : Type} (ds : List (DataW H)) (h : ds.length = (Tryd.f6).params.toList.length) : Rows.lexMostSpec.fn H ds = { results := [.lit (.bool true)], args := ds } := by
  rw [Tryd.params6] at h
  match ds, h with
  | [_, _], _ => rfl
theorem lifted (os : Os) (started : os.Started) (H : Type) (enc : TypeId × Value → H) : ReturnsInHanded {} Tryd.checked os 6 .any (fun w args => (Rows.lexMostSpec.pre enc Tryd.prog Tryd.f6 Rows.lexMostRow.domain false w args ∧ laidMetH Tryd.prog Rows.lexMostRow.laid w) ∧ sizedMet enc Tryd.prog Tryd.f6 (OpenSpec.ofChange Rows.lexMostSpec) false w args) (Rows.lexMostSpec.post enc Tryd.prog Tryd.f6 false true false false) :=
  lifted_of_walk_laid (C := Tryd.checked) (tb := 4) (by kernel_rfl) started (by kernel_rfl) Tryd.func6 rfl hspec rfl Tryd.underlying4 (by kernel_rfl) (by kernel_rfl)
    (ChangeSpec.witness_shaped (enc := enc) (C := Tryd.checked) (os := os) (X := fun w _ => laidMetH Tryd.prog Rows.lexMostRow.laid w) false (World.doorLaid Tryd.prog 62 os) #[.int .i64 0, .string ⟨#[]⟩] 8 rfl (World.shaped_of_RefB (by kernel_rfl) (by kernel_rfl)) (by kernel_rfl) (by kernel_rfl) (by kernel_rfl) (door_met os _)) (answers enc)
theorem over : Rows.lexMostRow.holds Tryd.pinned (OpenSpec.ofChange Rows.lexMostSpec) :=
  OpenClaim.holds_of_wide 6 Tryd.f6 rfl rfl rfl rfl rfl rfl rfl ⟨rfl, rfl, rfl, rfl, rfl⟩ rfl rfl rfl rfl rfl (by kernel_rfl) Tryd.func6 (by kernel_rfl)
    (of_decide_eq_true (by kernel_rfl)) (by unfold Func.isWrapper; first | (rw [if_pos (by decide +kernel)]; kernel_rfl) | (rw [if_neg (by decide +kernel)]; exact ⟨rfl, rfl⟩))
    (fun os started H enc _ => lifted os started H enc)
/-- THE STATEMENT: THE TIED CARD. -/
theorem proved : Rows.LexMostCardSaid :=
  Claim7.holds_tied_plain_at .later [] Rows.lexMostCard.laidKinds true Rows.lexMostCard.stood.harness true
    over (fun _ h => by cases h) (by kernel_rfl) (fun _ h => by cases h) lexMost_row_tie rfl ⟨rfl, rfl⟩ (by kernel_rfl) rfl
    (fun f fn hf hfn => by
      obtain rfl : f = 6 := Option.some.inj ((show Tryd.prog.funcNamed Rows.lexMostRow.func = some 6 by kernel_rfl).symm.trans hf) |>.symm
      obtain rfl : fn = Tryd.f6 := (Option.some.inj (Tryd.func6.symm.trans hfn)).symm
      exact ⟨by kernel_rfl, fun j t ht => by
        have hall : (Tryd.f6.params.toList.all fun u => !Tryd.prog.wantsStandIn u) = true := by kernel_rfl
        have hm : t ∈ Tryd.f6.params.toList := Array.mem_toList_iff.2 (Array.mem_of_getElem? ht)
        exact (show Tryd.prog.wantsStandIn t = false by simpa using List.all_eq_true.1 hall t hm)⟩)
    (by kernel_rfl)
#print axioms proved
end Go.Proofs.YtngbaghkjaibeaaDoor.lexMost
