/-
  THE LAW LexBlanks: blanks between tokens change nothing but places, and places rise within the text; its tied card.
-/
import Derived.Test.YtngbaghkjaibeaaDoorXLaws
import Derived.Test.YtngbaghkjaibeaaDoorTie
import Derived.Test.YtngbaghkjaibeaaDoorCards
import Derived.SevenTiedAt
import Derived.BigQuiet
import Derived.IntWalk
import Derived.Deep.QuietTactic
import Derived.Deep.LoopGhost
namespace Go.Proofs.YtngbaghkjaibeaaDoor.lexBlanks
set_option linter.all false
open Go.ChangeShapes Go.WideShapes Go.ChangeAt Go.RowKit Go.ChangeMaps

theorem rising_next : ∀ {l : List Lx.Tok} {p e : Int}, Lx.Rising p e l → ∀ i, (h : i + 1 < l.length) → l[i].pos < l[i + 1].pos
  | t :: l, p, e, h, 0, hi => by
    have := rising_get h.2.2 0 (by simpa using hi)
    simp only [List.getElem_cons_zero, List.getElem_cons_succ]
    omega
  | t :: l, p, e, h, i + 1, hi => by
    have := rising_next h.2.2 i (by simpa using hi)
    simpa using this
theorem bld_step {S bl b0 : List UInt8} {l : List Lx.Tok} {q j : Nat} (h : j < l.length) : Lx.bldS S bl b0 q (l.drop j) = (S.take l[j].pos.toNat).drop q ++ (b0 ++ Lx.bldS S bl bl l[j].pos.toNat (l.drop (j + 1))) := by
  rw [List.drop_eq_getElem_cons h]; rfl
theorem blank_cases {c : UInt8} (h : Lx.isBlank c = true) : c = 9 ∨ c = 10 ∨ c = 13 ∨ c = 32 := by
  unfold Lx.isBlank at h
  simp only [Bool.or_eq_true, beq_iff_eq] at h
  rcases h with ((h | h) | h) | h <;> simp [h]
/-- Where the law stands behind i tokens. -/
structure BAt (s bl : ByteArray) (l : List Lx.Tok) (i q : Nat) (T : ByteArray) : Prop where
  text : T.data.toList ++ Lx.bldS s.data.toList bl.data.toList (if i = 0 then [] else bl.data.toList) q (l.drop i) = bl.data.toList ++ Lx.bldS s.data.toList bl.data.toList [] 0 l
  size : T.size ≤ 3 + q + 3 * i
  q0 : i = 0 → q = 0
  last : ∀ h : 0 < i, ∀ h2 : i - 1 < l.length, l[i - 1].pos = q
theorem BAt.first {s bl : ByteArray} {l : List Lx.Tok} (hb : bl.size ≤ 3) : BAt s bl l 0 0 bl := ⟨by simp, by omega, fun _ => rfl, fun h => by omega⟩
theorem BAt.step0 {s bl T : ByteArray} {l : List Lx.Tok} {q : Nat} (h : BAt s bl l 0 q T) (hl : 0 < l.length) {q2 : Nat} (hq : l[0].pos = q2) (hq2 : q2 ≤ s.size) : BAt s bl l 1 q2 (T ++ s.extract 0 q2) := by
  have h0 := h.q0 rfl
  subst h0
  have e := h.text
  rw [if_pos rfl, bld_step hl, hq, Int.toNat_natCast, List.drop_zero, List.nil_append] at e
  refine ⟨?_, ?_, fun h => by omega, fun _ _ => hq⟩
  · rw [if_neg (by omega), cat_list, ext_list, List.drop_zero, List.append_assoc]; exact e
  · have := h.size
    rw [ByteArray.size_append, ByteArray.size_extract]; omega
theorem BAt.stepn {s bl T : ByteArray} {l : List Lx.Tok} {i q : Nat} (h : BAt s bl l (i + 1) q T) (hl : i + 1 < l.length) (hb : bl.size ≤ 3) {q2 : Nat} (hq : l[i + 1].pos = q2) (hq1 : q ≤ q2) (hq2 : q2 ≤ s.size) : BAt s bl l (i + 1 + 1) q2 (T ++ (s.extract q q2 ++ bl)) := by
  have e := h.text
  rw [if_neg (by omega), bld_step hl, hq, Int.toNat_natCast] at e
  refine ⟨?_, ?_, fun h => by omega, fun _ _ => hq⟩
  · rw [if_neg (by omega), cat_list, cat_list, ext_list, List.append_assoc, List.append_assoc]; exact e
  · have := h.size
    rw [ByteArray.size_append, ByteArray.size_append, ByteArray.size_extract]; omega
theorem BAt.done {s bl T : ByteArray} {l : List Lx.Tok} {q : Nat} (h : BAt s bl l l.length q T) : (T ++ s.extract q s.size).data.toList = bl.data.toList ++ Lx.bldS s.data.toList bl.data.toList [] 0 l := by
  have e := h.text
  rw [List.drop_length] at e
  rw [cat_list, ext_list, ← size_list, List.take_length, ← e]
  congr 1
def Still (s bl : ByteArray) (l : List Lx.Tok) : Prop := ∀ T : ByteArray, T.data.toList = bl.data.toList ++ Lx.bldS s.data.toList bl.data.toList [] 0 l → T.size ≤ 8192 → ∃ k, Lx.lexT T.data.toList = .ok k ∧ Lx.sames l k
theorem still {s bl : ByteArray} {l : List Lx.Tok} (h : Lx.lexT s.data.toList = .ok l) (hb : ∀ j, (hj : j < bl.size) → Lx.isBlank (bl[j]'hj) = true) (hs : s.size ≤ 1500) : Still s bl l := by
  intro T hT hz
  have e1 : Lx.lexT s.data.toList = Lx.lexA s.data.toList 0 0 := by unfold Lx.lexT; rw [if_neg (by rw [size_list]; omega)]
  have hbl : Lx.blanks bl.data.toList := by
    intro c hc
    obtain ⟨j, hj, rfl⟩ := List.getElem_of_mem hc
    exact hb j (by rw [size_list] at hj; exact hj)
  obtain ⟨k, hk, hsm⟩ := Lx.lexA_built hbl (e1 ▸ h)
  refine ⟨k, ?_, hsm⟩
  unfold Lx.lexT
  rw [if_neg (by rw [size_list]; omega), hT]
  exact hk
theorem sames_get : ∀ {l k : List Lx.Tok}, Lx.sames l k → l.length = k.length ∧ ∀ i, (h : i < l.length) → (h' : i < k.length) → l[i].same k[i]
  | [], [], _ => ⟨rfl, fun i h => by simp at h⟩
  | a :: l, b :: k, h => by
    have ih := sames_get h.2
    refine ⟨by simp [ih.1], fun i hi hi' => ?_⟩
    cases i with
    | zero => exact h.1
    | succ i => exact ih.2 i (by simpa using hi) (by simpa using hi')
  | [], _ :: _, h => h.elim
  | _ :: _, [], h => h.elim
theorem belN {B : Nat} {w wr : World} (hb : Below B w wr) (q : Nat) : Below B w (wr.drewN q) := ⟨hb.os, hb.tape, hb.output, hb.size, hb.block⟩
theorem rowT_addr {w : World} {B n c : Nat} {A : Option Addr} {l : List Lx.Tok} (h : TRowT w B (.slice A n c) l) : l ≠ [] → ∃ g, A = some ⟨g, 0, none⟩ := fun hl => by
  obtain ⟨g, c2, e⟩ := rowT_ne h hl
  exact ⟨g, congrArg (fun v => match v with | Value.slice x _ _ => x | _ => none) e⟩
theorem rdT_pos {w : World} {A : Option Addr} {l : List Lx.Tok} (h : RdT w A l) (g : Nat) (hA : A = some ⟨g, 0, none⟩) (i : Nat) (hi : i < l.length) : w.cell? ⟨g, i * 4 + 3, none⟩ = some (.int .i64 l[i].pos) := by
  obtain ⟨ad, e, _, _, _, _, h3⟩ := h i hi
  have e2 := Option.some.inj (hA.symm.trans e)
  subst e2
  have hadd : ∀ k, (⟨g, 0, none⟩ : Addr).add k = ⟨g, k, none⟩ := fun k => by unfold Addr.add; split <;> simp_all
  rw [hadd] at h3
  exact h3
set_option maxHeartbeats 16000000 in
set_option maxRecDepth 100000 in
theorem walk_main (w : World) (s bl : ByteArray) (hs : s.size ≤ 1500) (hb : bl.size ≤ 3) (hE : ErrVars w) : Calls Tryd.prog 4 #[.string s, .string bl] w fun e w' => e = .returned (.bool true) ∧ Below w.heap.size w w' := by
  have HE := hid hE
  clear hE
  obtain ⟨r, hr⟩ : ∃ r, Lx.lexT s.data.toList = r := ⟨_, rfl⟩
  have HS := hid hr
  clear hr
  have hs2 : (s.size : Int) ≤ 1500 := by omega
  have hb2 : (bl.size : Int) ≤ 3 := by omega
  go_enter Tryd.func4, Tryd.ntmps4
  go_wp2_with fail
  go_loopg [5] bl.size (fun g i wr => ∃ j : Nat, j + g = bl.size ∧ i = .int .i64 j ∧ wr = w ∧ Hid (∀ k, (h : k < bl.size) → k < j → Lx.isBlank (bl[k]'h) = true))
  case atStart => exact ⟨0, by omega, rfl, rfl, hid (fun _ _ h => by omega)⟩
  case round =>
    obtain ⟨j, hj, rfl, rfl, hall⟩ := hrel
    have HJ := hid hj
    by_cases hlt : j < bl.size
    · clear hj
      have hlt' : (j : Int) < bl.size := by omega
      obtain ⟨cb, hcb⟩ : ∃ cb, bl[j]'hlt = cb := ⟨_, rfl⟩
      have hx : ((bl[j]'hlt).toNat : Int) = (cb.toNat : Int) := by rw [hcb]
      have HC := hid hcb
      clear hcb
      by_cases hbk : Lx.isBlank cb = true
      · have HK := hid hbk
        rcases blank_cases hbk with h9 | h9 | h9 | h9
        all_goals
          have hx2 := hx
          rw [h9] at hx2
          first
            | (have hx3 : ((bl[j]'hlt).toNat : Int) = 9 := hx2)
            | (have hx3 : ((bl[j]'hlt).toNat : Int) = 10 := hx2)
            | (have hx3 : ((bl[j]'hlt).toNat : Int) = 13 := hx2)
            | (have hx3 : ((bl[j]'hlt).toNat : Int) = 32 := hx2)
          clear hx h9 hx2 hbk
          go_wp2_with fail
          have hjg := HJ.out
          go_roundg (gk - 1)
          case rel => exact ⟨j + 1, by omega, by go_num, rfl, hid (fun k hk hkj => (Nat.lt_or_eq_of_le (Nat.le_of_lt_succ hkj)).elim (hall.out k hk) (fun h => by subst h; rw [HC.out]; exact HK.out))⟩
          case measure => omega
      · have hbf : Lx.isBlank cb = false := by simpa using hbk
        unfold Lx.isBlank at hbf
        simp only [Bool.or_eq_false_iff, beq_eq_false_iff_ne] at hbf
        obtain ⟨⟨⟨h9, h10⟩, h13⟩, h32⟩ := hbf
        have e9 : ((cb.toNat : Int) == 9) = false := by simp; intro h; exact h9 (UInt8.toNat_inj.1 (by simp; omega))
        have e10 : ((cb.toNat : Int) == 10) = false := by simp; intro h; exact h10 (UInt8.toNat_inj.1 (by simp; omega))
        have e13 : ((cb.toNat : Int) == 13) = false := by simp; intro h; exact h13 (UInt8.toNat_inj.1 (by simp; omega))
        have e32 : ((cb.toNat : Int) == 32) = false := by simp; intro h; exact h32 (UInt8.toNat_inj.1 (by simp; omega))
        obtain ⟨ci, hci⟩ : ∃ ci : Int, (cb.toNat : Int) = ci := ⟨_, rfl⟩
        rw [hci] at hx e9 e10 e13 e32
        have n9 : (ci != 9) = true := by simpa using e9
        have n10 : (ci != 10) = true := by simpa using e10
        have n13 : (ci != 13) = true := by simpa using e13
        have n32 : (ci != 32) = true := by simpa using e32
        clear hci h9 h10 h13 h32 hbk
        go_wp2_with (go_at_call 9; (with_reducible refine (law_wakes _ (HE.out.up (Below.refl wr.heap.size wr))).mono ?_); rintro e w9 ⟨rfl, b⟩; have B9 := hid (below_hop b (Below.refl wr.heap.size wr)); clear b)
        go_ret
        exact ⟨rfl, B9.out⟩
    · obtain rfl : j = bl.size := by omega
      have HALL := hid (fun k (hk : k < bl.size) => hall.out k hk hk)
      clear hj
      cases r with
      | bad q er =>
        have hq := bad_lt HS.out (by rw [size_list]; omega)
        rw [size_list] at hq
        have hq1 : 0 ≤ q := hq.1
        have hq2 : q < s.size := hq.2
        have her := bad_er HS.out
        clear hq
        rcases her with rfl | rfl | rfl
        all_goals
          go_wp2_with (first
            | (go_at_call 10; (with_reducible refine (lex_Lex s _ HE.out).mono ?_); rw [HS.out]; rintro e w1 ⟨b, rfl⟩; have B1 := hid b; clear b)
            | (go_at_call 9; (with_reducible refine (law_wakes _ (HE.out.up B1.out)).mono ?_); rintro e w9 ⟨rfl, b⟩; have B9 := hid (below_hop b B1.out); clear b))
          go_ret
          exact ⟨rfl, B9.out⟩
      | ok l =>
        have HST := hid (still HS.out HALL.out hs)
        have HRI := hid (ok_rising HS.out (by rw [size_list]; omega))
        have HLL := hid (show l.length ≤ 1500 from Nat.le_trans (count_le HS.out) (by rw [size_list]; omega))
        have hll := HLL.out
        go_wp2_with (go_at_call 10; (with_reducible refine (lex_Lex s _ HE.out).mono ?_); rw [HS.out]; rintro e w1 ⟨b, v, rfl, hr⟩; obtain ⟨A, c, rfl⟩ := rowT_slice hr; have B1 := hid b; have R1 := hid hr.rd; have HA := hid (rowT_addr hr); clear b hr)
        go_loopg [9, 10, 11] l.length (fun g tv lv iv wx => ∃ (i q : Nat) (T : ByteArray), i + g = l.length ∧ iv = .int .i64 i ∧ lv = .int .i64 q ∧ tv = .string T ∧ q ≤ s.size ∧ Hid (BAt s bl l i q T) ∧ Hid (Below wr.heap.size wr wx) ∧ Hid (RdT wx A l))
        case atStart => exact ⟨0, 0, bl, by omega, rfl, rfl, rfl, by omega, hid (BAt.first hb), B1, R1⟩
        case round =>
          obtain ⟨i, q, T, hi, rfl, rfl, rfl, hqs, hat, hB, hR⟩ := hrel
          have HI := hid hi
          by_cases hil : i < l.length
          · have hil' : (i : Int) < l.length := by omega
            clear hi
            have hne0 : l ≠ [] := fun h => by rw [h] at hil; simp at hil
            obtain ⟨gg, hgg⟩ := HA.out hne0
            subst hgg
            have y3 := rdT_pos hR.out gg rfl i hil
            have hr0 := rising_get HRI.out i hil
            obtain ⟨q2, hq2⟩ := Int.eq_ofNat_of_zero_le (show 0 ≤ l[i].pos by have := hr0.1; simpa using this)
            have hq3 : q2 < s.size := by have := hr0.2; rw [hq2, size_list] at this; omega
            have hq4 : (q2 : Int) < s.size := by omega
            have HQ2 := hid hq2
            rw [hq2] at y3
            clear hq2 hr0 hne0
            have hTz := hat.out.size
            cases i with
            | zero =>
              have h0 := hat.out.q0 rfl
              subst h0
              have HT := hid (hat.out.step0 hil HQ2.out (Nat.le_of_lt hq3))
              have y4 := y3
              simp only [Nat.zero_mul, Nat.zero_add] at y4
              clear y3
              have hd1 : decide ((q2 : Int) < 0) = false := decide_eq_false (by omega)
              have hd2 : decide ((s.size : Int) ≤ (q2 : Int)) = false := decide_eq_false (by omega)
              have hd4 : decide (s.size ≤ q2) = false := decide_eq_false (by omega)
              go_wp2_with fail
              go_quiet (fail)
              clear hd1 hd2 hd4 hTz
              have hz : ¬ 9223372036854775807 < T.size + (s.extract 0 q2).size := by have := hat.out.size; rw [ByteArray.size_extract]; omega
              have hqi : (q2 : Int) ≤ s.size := by omega
              go_wp2_with fail
              have hig := HI.out
              go_roundg (gk - 1)
              case rel => exact ⟨1, q2, T ++ s.extract 0 q2, by omega, by rfl, rfl, rfl, Nat.le_of_lt hq3, HT, hid (belN hB.out nq), hid (hR.out.up (belN (Below.refl _ _) nq))⟩
              case measure => omega
            | succ m =>
              have z3 := rdT_pos hR.out gg rfl m (by omega)
              have hlm := hat.out.last (by omega) (by simp; omega)
              simp only [Nat.add_sub_cancel] at hlm
              rw [hlm] at z3
              have hqq : q < q2 := by have := rising_next HRI.out m hil; rw [hlm, HQ2.out] at this; omega
              have hqq1 : (q : Int) < q2 := by omega
              have hne : ((q2 : Int) == (q : Int)) = false := by simp; omega
              have HT := hid (hat.out.stepn hil hb HQ2.out (Nat.le_of_lt hqq) (Nat.le_of_lt hq3))
              have hil2 : (m : Int) + 1 < l.length := by omega
              have hil3 : (m : Int) < l.length := by omega
              have hw1 : IntKind.i64.wrap ((m : Int) + 1 - 1) = (m : Int) := by rw [show (m : Int) + 1 - 1 = m by omega]; exact IntWalk.i64_in _ (by omega)
              have hw2 : (0 : Int) ≤ (m : Int) + 1 := by omega
              have hw3 : ((m : Int) + 1).toNat = m + 1 := by omega
              have hd1 : decide ((q2 : Int) < (q : Int)) = false := decide_eq_false (by omega)
              have hd2 : decide ((s.size : Int) ≤ (q2 : Int)) = false := decide_eq_false (by omega)
              have hd3 : decide (0 < (m : Int) + 1) = true := decide_eq_true (by omega)
              have hd4 : decide (s.size ≤ q2) = false := decide_eq_false (by omega)
              have hd5 : decide (q2 < q) = false := decide_eq_false (by omega)
              clear hlm
              go_wp2_with fail
              go_quiet (fail)
              clear hw1 hw2 hw3 hd1 hd2 hd3 hd4 hd5 hTz
              have hz : ¬ 9223372036854775807 < T.size + ((s.extract q q2).size + bl.size) := by have := hat.out.size; rw [ByteArray.size_extract]; omega
              have hz3 : ¬ 9223372036854775807 < T.size + (s.extract q q2 ++ bl).size := by have := hat.out.size; rw [ByteArray.size_append, ByteArray.size_extract]; omega
              have hz4 : ¬ 9223372036854775807 < T.size + (min q2 s.size - q + bl.size) := by have := hat.out.size; omega
              have hz5 : ¬ 9223372036854775807 < min q2 s.size - q + bl.size := by omega
              have hz2 : ¬ 9223372036854775807 < (s.extract q q2).size + bl.size := by have := hat.out.size; rw [ByteArray.size_extract]; omega
              have hqi : (q2 : Int) ≤ s.size := by omega
              have hqi2 : (q : Int) ≤ q2 := by omega
              go_wp2_with fail
              have hig := HI.out
              go_roundg (gk - 1)
              case rel => exact ⟨m + 1 + 1, q2, T ++ (s.extract q q2 ++ bl), by omega, by go_num, rfl, rfl, Nat.le_of_lt hq3, HT, hid (belN hB.out nq), hid (hR.out.up (belN (Below.refl _ _) nq))⟩
              case measure => omega
          · obtain rfl : i = l.length := by omega
            clear hi
            obtain ⟨U, hU⟩ : ∃ U, T ++ s.extract q s.size = U := ⟨_, rfl⟩
            have hUl := hat.out.done
            rw [hU] at hUl
            have hz : ¬ 9223372036854775807 < T.size + (s.extract q s.size).size := by have := hat.out.size; rw [ByteArray.size_extract]; omega
            have hUs : U.size = T.size + (s.size - q) := by rw [← hU, ByteArray.size_append, ByteArray.size_extract]; omega
            have HU := hid hU
            have HUS := hid hUs
            have hqi : (q : Int) ≤ s.size := by omega
            by_cases hbig : 8192 < U.size
            · have hbig1 : (8192 : Int) < (T.size : Int) + ((s.size - q : Nat) : Int) := by omega
              clear hUl hU hUs
              go_wp2_with (go_at_call 9; (with_reducible refine (law_wakes _ (HE.out.up hB.out)).mono ?_); rintro e w9 ⟨rfl, b⟩; have B9 := hid (below_hop b hB.out); clear b)
              go_ret
              exact ⟨rfl, B9.out⟩
            · have hbig1 : ¬ (8192 : Int) < (T.size : Int) + ((s.size - q : Nat) : Int) := by omega
              obtain ⟨k, hk, hsm⟩ := HST.out U hUl (by omega)
              have HK := hid hk
              have HSM := hid (sames_get hsm)
              rw [← hU] at HK
              clear hUl hU hUs hk hsm
              go_wp2_with (first
                | (go_at_call 10; go_must (with_reducible refine (lex_Lex _ _ (HE.out.up hB.out)).mono ?_); rw [HK.out]; rintro e w2 ⟨b, v, rfl, hr⟩; obtain ⟨A2, c2, rfl⟩ := rowT_slice hr; have B2 := hid (below_hop b hB.out); have R2 := hid hr.rd; have R12 := hid (hR.out.up b); clear b hr)
                | (go_at_call 12; go_must (with_reducible refine (rf_Same l k _ _ _ _ false _ R12.out R2.out HSM.out.1 (by omega) (fun i h h' => ⟨HSM.out.2 i h h', fun h9 => Bool.noConfusion h9⟩)).mono ?_); rintro e w4 ⟨rfl, b⟩; have B4 := hid (below_hop b B2.out); clear b)
                | (go_at_call 9; (with_reducible refine (law_wakes _ (HE.out.up B4.out)).mono ?_); rintro e w9 ⟨rfl, b⟩; have B9 := hid (below_hop b B4.out); clear b))
              go_ret
              exact ⟨rfl, B9.out⟩
set_option maxHeartbeats 4000000 in
set_option maxRecDepth 100000 in
theorem walk (w : World) (s : ByteArray) (hs : s.size ≤ 140737488351232) (bl : ByteArray) (hb : bl.size ≤ 140737488351232) (hE : ErrVars w) : Calls Tryd.prog 4 #[.string s, .string bl] w fun e w' => e = .returned (.bool true) ∧ Below w.heap.size w w' := by
  by_cases h1 : 1500 < s.size
  · have HE := hid hE
    have h2 : 1500 < (s.size : Int) := by omega
    clear hE
    go_enter Tryd.func4, Tryd.ntmps4
    go_wp2_with (go_at_call 9; (with_reducible refine (law_wakes _ (HE.out.up (Below.refl w.heap.size w))).mono ?_); rintro e w9 ⟨rfl, b⟩; have B9 := hid (below_hop b (Below.refl w.heap.size w)); clear b)
    go_ret
    exact ⟨rfl, B9.out⟩
  by_cases h3 : 3 < bl.size
  · have HE := hid hE
    have h2 : ¬ 1500 < (s.size : Int) := by omega
    have h4 : 3 < (bl.size : Int) := by omega
    clear hE
    go_enter Tryd.func4, Tryd.ntmps4
    go_wp2_with (go_at_call 9; (with_reducible refine (law_wakes _ (HE.out.up (Below.refl w.heap.size w))).mono ?_); rintro e w9 ⟨rfl, b⟩; have B9 := hid (below_hop b (Below.refl w.heap.size w)); clear b)
    go_ret
    exact ⟨rfl, B9.out⟩
  exact walk_main w s bl (by omega) (by omega) hE
set_option maxRecDepth 100000 in
theorem answers {H : Type} (enc : TypeId × Value → H) : AnswersL enc Tryd.prog 4 Tryd.f4 Rows.lexBlanksRow.laid := by
  intro W base args ds ps hA hval hlt hwt hX
  rw [Tryd.params4] at hA hval
  obtain ⟨v0, vs0, d0, ds0, p0, q0, hargs, rfl, rfl, h0, r0⟩ := trodAll_cons hA
  obtain ⟨v1, vs1, d1, ds1, p1, q1, rfl, rfl, rfl, h1, r1⟩ := trodAll_cons r0
  obtain ⟨rfl, rfl, rfl⟩ := trodAll_nil r1
  obtain rfl : args = #[v0, v1] := Array.ext' hargs
  obtain ⟨a0, rfl, rfl, rfl, w0⟩ := open_string Tryd.underlying9 (hval 0 9 v0 rfl rfl) h0
  obtain ⟨a1, rfl, rfl, rfl, w1⟩ := open_string Tryd.underlying9 (hval 1 9 v1 rfl rfl) h1
  exact walk W a0 (str_reach hwt (j := 0) rfl rfl) a1 (str_reach hwt (j := 1) rfl rfl) (laid_ok hX)
theorem hspec {H : Type} (ds : List (DataW H)) (h : ds.length = (Tryd.f4).params.toList.length) : Rows.lexBlanksSpec.fn H ds = { results := [.lit (.bool true)], args := ds } := by
  rw [Tryd.params4] at h
  match ds, h with
  | [_, _], _ => rfl
theorem lifted (os : Os) (started : os.Started) (H : Type) (enc : TypeId × Value → H) : ReturnsInHanded {} Tryd.checked os 4 .any (fun w args => (Rows.lexBlanksSpec.pre enc Tryd.prog Tryd.f4 Rows.lexBlanksRow.domain false w args ∧ laidMetH Tryd.prog Rows.lexBlanksRow.laid w) ∧ sizedMet enc Tryd.prog Tryd.f4 (OpenSpec.ofChange Rows.lexBlanksSpec) false w args) (Rows.lexBlanksSpec.post enc Tryd.prog Tryd.f4 false true false false) :=
  lifted_of_walk_laid (C := Tryd.checked) (tb := 4) (by kernel_rfl) started (by kernel_rfl) Tryd.func4 rfl hspec rfl Tryd.underlying4 (by kernel_rfl) (by kernel_rfl)
    (ChangeSpec.witness_shaped (enc := enc) (C := Tryd.checked) (os := os) (X := fun w _ => laidMetH Tryd.prog Rows.lexBlanksRow.laid w) false (World.doorLaid Tryd.prog 62 os) #[.string ⟨#[]⟩, .string ⟨#[]⟩] 8 rfl (World.shaped_of_RefB (by kernel_rfl) (by kernel_rfl)) (by kernel_rfl) (by kernel_rfl) (by kernel_rfl) (door_met os _)) (answers enc)
theorem over : Rows.lexBlanksRow.holds Tryd.pinned (OpenSpec.ofChange Rows.lexBlanksSpec) :=
  OpenClaim.holds_of_wide 4 Tryd.f4 rfl rfl rfl rfl rfl rfl rfl ⟨rfl, rfl, rfl, rfl, rfl⟩ rfl rfl rfl rfl rfl (by kernel_rfl) Tryd.func4 (by kernel_rfl)
    (of_decide_eq_true (by kernel_rfl)) (by unfold Func.isWrapper; first | (rw [if_pos (by decide +kernel)]; kernel_rfl) | (rw [if_neg (by decide +kernel)]; exact ⟨rfl, rfl⟩))
    (fun os started H enc _ => lifted os started H enc)
/-- THE STATEMENT: THE TIED CARD. -/
theorem proved : Rows.LexBlanksCardSaid :=
  Claim7.holds_tied_plain_at .later [] Rows.lexBlanksCard.laidKinds true Rows.lexBlanksCard.stood.harness true
    over (fun _ h => by cases h) (by kernel_rfl) (fun _ h => by cases h) lexBlanks_row_tie rfl ⟨rfl, rfl⟩ (by kernel_rfl) rfl
    (fun f fn hf hfn => by
      obtain rfl : f = 4 := Option.some.inj ((show Tryd.prog.funcNamed Rows.lexBlanksRow.func = some 4 by kernel_rfl).symm.trans hf) |>.symm
      obtain rfl : fn = Tryd.f4 := (Option.some.inj (Tryd.func4.symm.trans hfn)).symm
      exact ⟨by kernel_rfl, fun j t ht => by
        have hall : (Tryd.f4.params.toList.all fun u => !Tryd.prog.wantsStandIn u) = true := by kernel_rfl
        have hm : t ∈ Tryd.f4.params.toList := Array.mem_toList_iff.2 (Array.mem_of_getElem? ht)
        exact (show Tryd.prog.wantsStandIn t = false by simpa using List.all_eq_true.1 hall t hm)⟩)
    (by kernel_rfl)
#print axioms proved
end Go.Proofs.YtngbaghkjaibeaaDoor.lexBlanks
