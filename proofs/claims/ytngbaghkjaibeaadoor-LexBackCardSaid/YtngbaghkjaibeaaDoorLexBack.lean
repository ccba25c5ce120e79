/-
  THE LAW LexBack: tokens that were written are read as they were, but for places; its tied card.
-/
import Derived.Test.YtngbaghkjaibeaaDoorXCopy
import Derived.Test.YtngbaghkjaibeaaDoorXRText
import Derived.Test.YtngbaghkjaibeaaDoorTie
import Derived.Test.YtngbaghkjaibeaaDoorCards
import Derived.SevenTiedAt
namespace Go.Proofs.YtngbaghkjaibeaaDoor.lexBack
set_option linter.all false
open Go.ChangeShapes Go.WideShapes Go.ChangeAt Go.RowKit Go.ChangeMaps

theorem sames_get : ∀ {l k : List Lx.Tok}, Lx.sames l k → l.length = k.length ∧ ∀ i, (h : i < l.length) → (h' : i < k.length) → l[i].same k[i]
  | [], [], _ => ⟨rfl, fun i h => by simp at h⟩
  | a :: l, b :: k, h => by
    have ih := sames_get h.2
    refine ⟨by simp [ih.1], fun i hi hi' => ?_⟩
    cases i with
    | zero => exact h.1
    | succ i => exact ih.2 i (by simpa using hi) (by simpa using hi')
  | [], _ :: _, h => h.elim
  | _ :: _, [], h => h.elim
theorem text_cases (l : List Lx.Tok) : (∃ er : Int, Lx.textF l = ([], er) ∧ (er != 0) = true) ∨ (Lx.textF l = (Lx.joinF Lib.decDigits l, 0) ∧ ∃ k, Lx.lexT (Lx.joinF Lib.decDigits l) = .ok k ∧ Lx.sames l k) := by
  by_cases h1 : 4096 < l.length
  · exact .inl ⟨3, Lx.text_many h1, by decide⟩
  by_cases h2 : l.all Lx.goodB = true
  · by_cases h3 : 8192 < (Lx.joinF Lib.decDigits l).length
    · exact .inl ⟨2, Lx.text_long h1 h2 h3, by decide⟩
    · refine .inr ⟨Lx.text_ok h1 h2 h3, ?_⟩
      have e : Lx.lexT (Lx.joinF Lib.decDigits l) = Lx.lexA (Lx.joinF Lib.decDigits l) 0 0 := by unfold Lx.lexT; rw [if_neg h3]
      rw [e]
      exact Lx.lexA_back Lib.decDigits l 0 0 (fun t ht => Lx.good_of (List.all_eq_true.1 h2 t ht)) (by omega)
  · left
    refine ⟨1, ?_, by decide⟩
    unfold Lx.textF
    rw [if_neg h1, if_pos (by simpa using h2)]
set_option maxHeartbeats 8000000 in
set_option maxRecDepth 100000 in
theorem walk (w : World) {v : Value} {l : List Lx.Tok} {B : Nat} (h : ToksAt w B l v) (hE : ErrVars w) (hT : TabW w) : Calls Tryd.prog 8 #[v] w fun e w' => e = .returned (.bool true) ∧ Below w.heap.size w w' := by
  obtain ⟨A, c, rfl, hc1, hc2, hA, _, hR, hok⟩ := h
  have HE := hid hE
  have HTAB := hid hT
  have HR := hid hR
  have HA := hid hA
  have HOK := hid hok
  have hlm : (l.length : Int) ≤ 9223372036854775807 := by unfold maxLen at hc2; omega
  clear hE hT hR hok hc1 hc2 hA
  by_cases hl : 5000 < l.length
  · have hl2 : (5000 : Int) < l.length := by omega
    clear hl
    go_enter Tryd.func8, Tryd.ntmps8
    go_wp2_with (go_at_call 9; (with_reducible refine (law_wakes _ (HE.out.up (Below.refl w.heap.size w))).mono ?_); rintro e w9 ⟨rfl, b⟩; have B9 := hid (below_hop b (Below.refl w.heap.size w)); clear b)
    go_ret
    exact ⟨rfl, B9.out⟩
  have hl2 : ¬ (5000 : Int) < l.length := by omega
  have HL := hid (show l.length ≤ 5000 by omega)
  clear hl
  go_enter Tryd.func8, Tryd.ntmps8
  go_wp2_with fail
  go_loopg [3] l.length (fun g i wr => ∃ (j : Nat), j + g = l.length ∧ i = .int .i64 j ∧ wr = w ∧ Hid (∀ i, (h : i < l.length) → i < j → l[i].text.length ≤ 200))
  case atStart => exact ⟨0, by omega, rfl, rfl, hid (fun i _ h => by omega)⟩
  case round =>
    obtain ⟨j, hj, rfl, rfl, hall⟩ := hrel
    have HJ := hid hj
    by_cases hlt : j < l.length
    · have hlt' : (j : Int) < l.length := by omega
      obtain ⟨a1, rfl, p0, y0, y1, y2, y3⟩ := HR.out j hlt
      obtain ⟨tk, htk⟩ : ∃ tk, tk = l[j] := ⟨_, rfl⟩
      have HTK := hid htk
      have hm := (HOK.out _ (List.getElem_mem hlt)).2.2.2
      rw [← htk] at y0 y1 y2 y3 hm
      obtain ⟨tb, htb⟩ : ∃ tb : ByteArray, tb = ⟨tk.text.toArray⟩ := ⟨_, rfl⟩
      have HTB := hid htb
      have hsz : tb.size = tk.text.length := by rw [htb]; rfl
      rw [← htb] at y1
      unfold maxLen at hm
      have hs1 : (tb.size : Int) ≤ 9223372036854775807 := by omega
      have HSZ := hid hsz
      clear hj htk htb hm hsz y0 y2 y3
      by_cases hlong : (200 : Int) < tb.size
      · go_wp2_with (go_at_call 9; (with_reducible refine (law_wakes _ (HE.out.up (Below.refl wr.heap.size wr))).mono ?_); rintro e w9 ⟨rfl, b⟩; have B9 := hid (below_hop b (Below.refl wr.heap.size wr)); clear b)
        go_ret
        exact ⟨rfl, B9.out⟩
      · have HS := hid (show tb.size ≤ 200 by omega)
        clear hs1
        go_wp2_with fail
        have hjg := HJ.out
        go_roundg (gk - 1)
        case rel => exact ⟨j + 1, by omega, by go_num, rfl, hid (fun i h hi => (Nat.lt_or_eq_of_le (Nat.le_of_lt_succ hi)).elim (fun h3 => hall.out i h h3) (fun h3 => by subst h3; rw [← HTK.out, ← HSZ.out]; exact HS.out))⟩
        case measure => omega
    · obtain rfl : j = l.length := by omega
      have HM := hid (fun t ht => (by
        obtain ⟨i, hi, rfl⟩ := List.getElem_of_mem ht
        exact ⟨hall.out i hi hi, (HOK.out _ (List.getElem_mem hi)).n_in⟩) : ∀ t ∈ l, TokM t)
      clear hj hall HJ
      rcases text_cases l with ⟨er, hf, her⟩ | ⟨hf, k, hk, hsm⟩
      · have HF := hid hf
        clear hf
        go_wp2_with (first
          | (at_builtin; go_must (refine wpList_copyT (by rfl) _ _ (by rfl) (by rfl) (l := l) (by rfl) HA.out HR.out HL.out ?_); intro A1 c1 w1 r1 b1; have R1 := hid r1; have B1 := hid b1; clear r1 b1)
          | (go_at_call 13; go_must (with_reducible refine (lx_Text l A1 c1 w1 HL.out R1.out HM.out (HE.out.up B1.out) (HTAB.out.up B1.out)).mono ?_); rintro e w2 ⟨rfl, b⟩; rw [HF.out]; have B2 := hid (below_hop b B1.out); clear b)
          | (go_at_call 9; (with_reducible refine (law_wakes _ (HE.out.up B2.out)).mono ?_); rintro e w9 ⟨rfl, b⟩; have B9 := hid (below_hop b B2.out); clear b))
        go_ret
        exact ⟨rfl, B9.out⟩
      · obtain ⟨S, hS⟩ : ∃ S : ByteArray, (⟨(Lx.joinF Lib.decDigits l).toArray⟩ : ByteArray) = S := ⟨_, rfl⟩
        have hk2 : Lx.lexT S.data.toList = .ok k := by rw [← hS]; exact hk
        have HF := hid hf
        have HS := hid hS
        have HK := hid hk2
        have HSM := hid (sames_get hsm)
        clear hf hS hk2 hk hsm
        go_wp2_with (first
          | (at_builtin; go_must (refine wpList_copyT (by rfl) _ _ (by rfl) (by rfl) (l := l) (by rfl) HA.out HR.out HL.out ?_); intro A1 c1 w1 r1 b1; have R1 := hid r1; have B1 := hid b1; clear r1 b1)
          | (go_at_call 13; go_must (with_reducible refine (lx_Text l A1 c1 w1 HL.out R1.out HM.out (HE.out.up B1.out) (HTAB.out.up B1.out)).mono ?_); rintro e w2 ⟨rfl, b⟩; rw [HF.out]; dsimp only; rw [HS.out]; have B2 := hid (below_hop b B1.out); clear b)
          | (go_at_call 10; go_must (with_reducible refine (lex_Lex S _ (HE.out.up B2.out)).mono ?_); rw [HK.out]; rintro e w3 ⟨b, v, rfl, hr⟩; obtain ⟨A3, c3, rfl⟩ := rowT_slice hr; have B3 := hid (below_hop b B2.out); have R3 := hid hr.rd; clear b hr)
          | (go_at_call 12; go_must (with_reducible refine (rf_Same l k A A3 c c3 false _ (HR.out.up B3.out) R3.out HSM.out.1 (Nat.le_trans HL.out (by omega)) (fun i h h' => ⟨HSM.out.2 i h h', fun h9 => by cases h9⟩)).mono ?_); rintro e w4 ⟨rfl, b⟩; have B4 := hid (below_hop b B3.out); clear b)
          | (go_at_call 9; (with_reducible refine (law_wakes _ (HE.out.up B4.out)).mono ?_); rintro e w9 ⟨rfl, b⟩; have B9 := hid (below_hop b B4.out); clear b))
        go_ret
        exact ⟨rfl, B9.out⟩
set_option maxRecDepth 100000 in
theorem answers {H : Type} (enc : TypeId × Value → H) : AnswersL enc Tryd.prog 8 Tryd.f8 Rows.lexBackRow.laid := by
  intro W base args ds ps hA hval hlt hwt hX
  rw [Tryd.params8] at hA hval
  obtain ⟨v0, vs0, d0, ds0, p0, q0, hargs, rfl, rfl, h0, r0⟩ := trodAll_cons hA
  obtain ⟨rfl, rfl, rfl⟩ := trodAll_nil r0
  obtain rfl : args = #[v0] := Array.ext' hargs
  obtain ⟨x0, i0⟩ := open_toks (B := W.heap.size) (hval 0 23 v0 rfl rfl) h0 (fun p hp => hlt p (by simp [hp]))
  exact walk W i0 (laid_ok hX) (laid_tab hX)
theorem hspec {H : Type} (ds : List (DataW H)) (h : ds.length = (Tryd.f8).params.toList.length) : Rows.lexBackSpec.fn H ds = { results := [.lit (.bool true)], args := ds } := by
  rw [Tryd.params8] at h
  match ds, h with
  | [_], _ => rfl
theorem lifted (os : Os) (started : os.Started) (H : Type) (enc : TypeId × Value → H) : ReturnsInHanded {} Tryd.checked os 8 .any (fun w args => (Rows.lexBackSpec.pre enc Tryd.prog Tryd.f8 Rows.lexBackRow.domain false w args ∧ laidMetH Tryd.prog Rows.lexBackRow.laid w) ∧ sizedMet enc Tryd.prog Tryd.f8 (OpenSpec.ofChange Rows.lexBackSpec) false w args) (Rows.lexBackSpec.post enc Tryd.prog Tryd.f8 false true false false) :=
  lifted_of_walk_laid (C := Tryd.checked) (tb := 4) (by kernel_rfl) started (by kernel_rfl) Tryd.func8 rfl hspec rfl Tryd.underlying4 (by kernel_rfl) (by kernel_rfl)
    (ChangeSpec.witness_shaped (enc := enc) (C := Tryd.checked) (os := os) (X := fun w _ => laidMetH Tryd.prog Rows.lexBackRow.laid w) false (World.doorLaid Tryd.prog 62 os) #[.slice none 0 0] 8 rfl (World.shaped_of_RefB (by kernel_rfl) (by kernel_rfl)) (by kernel_rfl) (by kernel_rfl) (by kernel_rfl) (door_met os _)) (answers enc)
theorem over : Rows.lexBackRow.holds Tryd.pinned (OpenSpec.ofChange Rows.lexBackSpec) :=
  OpenClaim.holds_of_wide 8 Tryd.f8 rfl rfl rfl rfl rfl rfl rfl ⟨rfl, rfl, rfl, rfl, rfl⟩ rfl rfl rfl rfl rfl (by kernel_rfl) Tryd.func8 (by kernel_rfl)
    (of_decide_eq_true (by kernel_rfl)) (by unfold Func.isWrapper; first | (rw [if_pos (by decide +kernel)]; kernel_rfl) | (rw [if_neg (by decide +kernel)]; exact ⟨rfl, rfl⟩))
    (fun os started H enc _ => lifted os started H enc)
/-- THE STATEMENT: THE TIED CARD. -/
theorem proved : Rows.LexBackCardSaid :=
  Claim7.holds_tied_plain_at .later [] Rows.lexBackCard.laidKinds true Rows.lexBackCard.stood.harness true
    over (fun _ h => by cases h) (by kernel_rfl) (fun _ h => by cases h) lexBack_row_tie rfl ⟨rfl, rfl⟩ (by kernel_rfl) rfl
    (fun f fn hf hfn => by
      obtain rfl : f = 8 := Option.some.inj ((show Tryd.prog.funcNamed Rows.lexBackRow.func = some 8 by kernel_rfl).symm.trans hf) |>.symm
      obtain rfl : fn = Tryd.f8 := (Option.some.inj (Tryd.func8.symm.trans hfn)).symm
      exact ⟨by kernel_rfl, fun j t ht => by
        have hall : (Tryd.f8.params.toList.all fun u => !Tryd.prog.wantsStandIn u) = true := by kernel_rfl
        have hm : t ∈ Tryd.f8.params.toList := Array.mem_toList_iff.2 (Array.mem_of_getElem? ht)
        exact (show Tryd.prog.wantsStandIn t = false by simpa using List.all_eq_true.1 hall t hm)⟩)
    (by kernel_rfl)
#print axioms proved
end Go.Proofs.YtngbaghkjaibeaaDoor.lexBack
