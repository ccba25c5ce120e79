/-
  THE WALK OF athanorref11.number.
-/
import Derived.Test.YtngbaghkjaibeaaDoorXRef1
import Derived.Deep.CutBlock
import Derived.Deep.DeepCutAuto
import Derived.IntWalk
namespace Go.Proofs.YtngbaghkjaibeaaDoor
set_option linter.all false
open Go.ChangeShapes Go.WideShapes Go.ChangeAt Go.RowKit

namespace Lx
theorem valF_app (n : Nat) (l k : List UInt8) : valF n (l ++ k) = valF (valF n l) k := by unfold valF; rw [List.foldl_append]
theorem valF_lt : ∀ (l : List UInt8) (n : Nat), digs l → valF n l < (n + 1) * 10 ^ l.length
  | [], n, _ => by simp [valF]
  | c :: l, n, hd => by
    have hc := dig_range (hd c (by simp))
    have ih := valF_lt l (n * 10 + (c.toNat - 48)) (fun x hx => hd x (by simp [hx]))
    have e : valF n (c :: l) = valF (n * 10 + (c.toNat - 48)) l := rfl
    rw [e, List.length_cons, Nat.pow_succ]
    refine Nat.lt_of_lt_of_le ih ?_
    have : n * 10 + (c.toNat - 48) + 1 ≤ (n + 1) * 10 := by omega
    calc (n * 10 + (c.toNat - 48) + 1) * 10 ^ l.length ≤ ((n + 1) * 10) * 10 ^ l.length := Nat.mul_le_mul_right _ this
      _ = (n + 1) * (10 ^ l.length * 10) := by rw [Nat.mul_assoc, Nat.mul_comm 10]
theorem valF_pow : ∀ (l : List UInt8) (n : Nat), n * 10 ^ l.length ≤ valF n l
  | [], n => by simp [valF]
  | c :: l, n => by
    have ih := valF_pow l (n * 10 + (c.toNat - 48))
    have e : valF n (c :: l) = valF (n * 10 + (c.toNat - 48)) l := rfl
    rw [e, List.length_cons, Nat.pow_succ]
    refine Nat.le_trans ?_ ih
    calc n * (10 ^ l.length * 10) = (n * 10) * 10 ^ l.length := by rw [Nat.mul_assoc, Nat.mul_comm 10]
      _ ≤ _ := Nat.mul_le_mul_right _ (by omega)
/-- More than ten digits, the first of them not nought, are out of range. -/
theorem val_big {l : List UInt8} (hd : digs l) (hl : 10 < l.length) (h0 : l.head? ≠ some 48) (neg : Bool) : ¬ inR (valS neg l) := by
  cases l with
  | nil => simp at hl
  | cons c l =>
    have hc := dig_range (hd c (by simp))
    have hc0 : c.toNat ≠ 48 := fun h => h0 (by simp; exact UInt8.toNat_inj.1 (by rw [h]; rfl))
    have hv := valF_pow l (0 * 10 + (c.toNat - 48))
    have e : valD (c :: l) = valF (0 * 10 + (c.toNat - 48)) l := rfl
    have hp : 10 ^ 10 ≤ 10 ^ l.length := Nat.pow_le_pow_right (by omega) (by simp at hl; omega)
    have h1 : 1 * 10 ^ l.length ≤ (0 * 10 + (c.toNat - 48)) * 10 ^ l.length := Nat.mul_le_mul_right _ (by omega)
    have h2 : 10 ^ 10 ≤ valD (c :: l) := by rw [e]; omega
    unfold inR valS
    cases neg <;> simp <;> omega
end Lx
/-- What number hands back. -/
def NumQ (neg : Bool) (ds : List UInt8) (p q : Nat) (w : World) (e : Ending) (w' : World) : Prop :=
  Below w.heap.size w w' ∧ ∃ (a v z en : Int) (b : Bool), e = .returned (.tuple #[.agg #[.int .i64 a, .string ⟨#[]⟩, .int .i64 v, .int .i64 z], .int .i64 en, .bool b]) ∧
    ((b = false ∧ (ds = [] ∨ (1 < ds.length ∧ ds.head? = some 48) ∨ ¬ Lx.inR (Lx.valS neg ds))) ∨ (b = true ∧ ¬ (ds = [] ∨ (1 < ds.length ∧ ds.head? = some 48) ∨ ¬ Lx.inR (Lx.valS neg ds)) ∧ a = 4 ∧ v = Lx.valS neg ds ∧ z = p ∧ en = (q + ds.length : Nat)))
theorem rf_In (n : Int) (w : World) : Calls Tryd.prog 45 #[.int .i64 n] w fun e w' => e = .returned (.bool (decide (Lx.inR n))) ∧ w = w' := by
  by_cases h1 : -1073741824 ≤ n
  · by_cases h2 : n ≤ 1073741823
    · have hd : decide (Lx.inR n) = true := decide_eq_true ⟨h1, by omega⟩
      rw [hd]
      clear hd
      go_enter Tryd.func45, Tryd.ntmps45
      go_wp2
      go_ret
      exact ⟨rfl, rfl⟩
    · have hd : decide (Lx.inR n) = false := decide_eq_false (fun h => by have := h.2; omega)
      rw [hd]
      clear hd
      go_enter Tryd.func45, Tryd.ntmps45
      go_wp2
      go_ret
      exact ⟨rfl, rfl⟩
  · have hd : decide (Lx.inR n) = false := decide_eq_false (fun h => by have := h.1; omega)
    rw [hd]
    clear hd
    go_enter Tryd.func45, Tryd.ntmps45
    go_wp2
    go_ret
    exact ⟨rfl, rfl⟩
theorem numq_end {neg : Bool} {ds : List UInt8} {p q E : Nat} {v : Int} (hg : ¬ (ds = [] ∨ (1 < ds.length ∧ ds.head? = some 48))) (hv : Lx.valS neg ds = v) (hE : (E : Int) = (q + ds.length : Nat)) :
    ((decide (Lx.inR v) = false ∧ (ds = [] ∨ (1 < ds.length ∧ ds.head? = some 48) ∨ ¬ Lx.inR (Lx.valS neg ds))) ∨ (decide (Lx.inR v) = true ∧ ¬ (ds = [] ∨ (1 < ds.length ∧ ds.head? = some 48) ∨ ¬ Lx.inR (Lx.valS neg ds)) ∧ (4 : Int) = 4 ∧ v = Lx.valS neg ds ∧ (p : Int) = p ∧ (E : Int) = (q + ds.length : Nat))) := by
  subst hv
  by_cases h : Lx.inR (Lx.valS neg ds)
  · right
    exact ⟨by simp [h], fun h9 => h9.elim (fun h => hg (.inl h)) (fun h9 => h9.elim (fun h => hg (.inr h)) (fun h9 => h9 h)), rfl, rfl, rfl, hE⟩
  · left
    exact ⟨by simp [h], .inr (.inr h)⟩
set_option maxHeartbeats 8000000 in
set_option maxRecDepth 100000 in
theorem rf_number (s : ByteArray) (p q : Nat) (w : World) (hpq : p ≤ q) (hq : q ≤ s.size) (hm : s.size ≤ 100000) :
    Calls Tryd.prog 38 #[.string s, .int .i64 p, .int .i64 q] w (NumQ (decide (p < q)) ((s.data.toList.drop q).take (Lx.runL Lx.isDig (s.data.toList.drop q))) p q w) := by
  obtain ⟨n0, hn0⟩ : ∃ n0, Lx.runL Lx.isDig (s.data.toList.drop q) = n0 := ⟨_, rfl⟩
  have hn1 : n0 ≤ s.size - q := by rw [← hn0, ← size_list, ← List.length_drop]; exact Lx.runL_le _ _
  have HN := hid hn0
  rw [hn0]
  clear hn0
  obtain ⟨ds, hds⟩ : ∃ ds, (s.data.toList.drop q).take n0 = ds := ⟨_, rfl⟩
  have HDS := hid hds
  rw [hds]
  clear hds
  go_enter Tryd.func38, Tryd.ntmps38
  go_upto_block 0 with (fail)
  go_cut [9] (fun x wx => x = .int .i64 (q + n0 : Nat) ∧ wx = w.alloc (.cells #[.int .i64 0, .string ⟨#[]⟩, .int .i64 0, .int .i64 0] 32))
  case first =>
    go_wp2_with fail
    go_loopg [9] (s.size - q) (fun g i wr => ∃ k : Nat, k + g = s.size ∧ q ≤ k ∧ i = .int .i64 k ∧ wr = w.alloc (.cells #[.int .i64 0, .string ⟨#[]⟩, .int .i64 0, .int .i64 0] 32) ∧ Hid (q + n0 = k + Lx.runL Lx.isDig (s.data.toList.drop k)))
    case atStart => exact ⟨q, by omega, Nat.le_refl _, rfl, rfl, hid (by rw [HN.out])⟩
    case round =>
      obtain ⟨k, hkg, hpk, rfl, rfl, he⟩ := hrel
      have HG := hid hkg
      have HP := hid hpk
      by_cases hlt : k < s.size
      · have hdr : s.data.toList.drop k = s[k]'hlt :: s.data.toList.drop (k + 1) := List.drop_eq_getElem_cons (by rw [size_list]; exact hlt)
        have HD := hid hdr
        have hlt' : (k : Int) < s.size := by omega
        obtain ⟨b, hb⟩ : ∃ b, Lx.isDig (s[k]'hlt) = b := ⟨_, rfl⟩
        have HB := hid hb
        have HB2 := hid ((Lx.dgI_byte (s[k]'hlt)).trans hb)
        clear hkg hdr hb hpk
        cases b
        · go_wp2_with (go_at_call 37; (with_reducible refine (rf_digit _ _).mono ?_); rw [HB2.out]; rintro e w' ⟨rfl, h9⟩; subst h9)
          go_meet
          have h9 := he.out
          rw [HD.out, Lx.runL, if_neg (by rw [HB.out]; decide)] at h9
          exact ⟨by rw [h9]; rfl, rfl⟩
        · go_wp2_with (go_at_call 37; (with_reducible refine (rf_digit _ _).mono ?_); rw [HB2.out]; rintro e w' ⟨rfl, h9⟩; subst h9)
          have hgk := HG.out
          have hpk := HP.out
          go_roundg (gk - 1)
          case rel => exact ⟨k + 1, by omega, by omega, by go_num, rfl, hid (by rw [he.out, HD.out, Lx.runL, if_pos HB.out]; omega)⟩
          case measure => omega
      · obtain rfl : k = s.size := by omega
        clear hkg hpk
        go_wp2_with fail
        go_meet
        have h9 := he.out
        rw [List.drop_of_length_le (by rw [size_list]; omega)] at h9
        exact ⟨by rw [h9]; rfl, rfl⟩
  case rest =>
    obtain ⟨rfl, hwc⟩ := hcut
    have BR := hid (show Blk wc w.heap.size 32 #[.int .i64 0, .string ⟨#[]⟩, .int .i64 0, .int .i64 0] from hwc ▸ Blk.new _ _ _)
    have b9 := hid (show Below w.heap.size w wc from hwc ▸ alB w _)
    clear hwc
    obtain ⟨x0, x1, x2, x3, f0, f1, f2, f3⟩ := BR.out.cells4
    obtain ⟨E, hE⟩ : ∃ E, E = q + n0 := ⟨_, rfl⟩
    have HE := hid hE
    rw [← hE]
    have hE5 : (E : Int) ≤ 100000 := by omega
    have hE6 : (q : Int) ≤ 100000 := by omega
    have hE7 : (0 : Int) ≤ E := by omega
    have hE8 : (0 : Int) ≤ q := by omega
    have hlen : ds.length = n0 := by rw [← HDS.out, List.length_take, List.length_drop, size_list]; omega
    have hhead : ∀ h : q < s.size, 0 < n0 → ds.head? = some (s[q]'h) := fun h h0 => by
      rw [← HDS.out, List.head?_eq_getElem?, List.getElem?_take_of_lt h0, List.getElem?_drop, Nat.add_zero, List.getElem?_eq_getElem (by rw [size_list]; exact h)]
      rfl
    have hdig : Lx.digs ds := by have h9 := run_digs (s.data.toList.drop q); rw [HN.out, HDS.out] at h9; exact h9
    by_cases h0 : n0 = 0
    · have e1 : ((E : Int) == (q : Int)) = true := by simp; omega
      have H0 := hid h0
      have HL := hid hlen
      clear hE h0 hlen hhead hdig
      go_wp2_with fail
      exact bodyPost_ret (v := .tuple #[.agg #[.int .i64 0, .string ⟨#[]⟩, .int .i64 0, .int .i64 0], .int .i64 0, .bool false]) (by simp [results, Tryd.results38, go_sem, x0, x1, x2, x3]) rfl ⟨by have hb := b9.out; go_grown, 0, 0, 0, 0, false, rfl, .inl ⟨rfl, .inl (List.length_eq_zero_iff.1 (HL.out.trans H0.out))⟩⟩
    have hqs : q < s.size := by omega
    have hqs' : (q : Int) < s.size := by omega
    have e1 : ((E : Int) == (q : Int)) = false := by simp; omega
    have hzb : ((s[q]'hqs).toNat : Int) = (s[q]'hqs).toNat := rfl
    by_cases hz : 1 < n0 ∧ (s[q]'hqs).toNat = 48
    · have e2 : 1 < (E : Int) - q := by omega
      have e3 : ((s[q]'hqs).toNat : Int) = 48 := by omega
      have HB := hid (show 1 < ds.length ∧ ds.head? = some 48 from ⟨by omega, by rw [hhead hqs (by omega)]; congr 1; exact UInt8.toNat_inj.1 (by rw [hz.2]; rfl)⟩)
      clear hE h0 hlen hhead hdig hz hzb
      go_wp2_with fail
      exact bodyPost_ret (v := .tuple #[.agg #[.int .i64 0, .string ⟨#[]⟩, .int .i64 0, .int .i64 0], .int .i64 0, .bool false]) (by simp [results, Tryd.results38, go_sem, x0, x1, x2, x3]) rfl ⟨by have hb := b9.out; go_grown, 0, 0, 0, 0, false, rfl, .inl ⟨rfl, .inr (.inl HB.out)⟩⟩
    by_cases h10 : 10 < n0
    · have e2 : 1 < (E : Int) - q := by omega
      have e3 : (((s[q]'hqs).toNat : Int) == 48) = false := by simp; omega
      have e4 : 10 < (E : Int) - q := by omega
      have HB := hid (Lx.val_big hdig (by omega) (by rw [hhead hqs (by omega)]; intro h; injection h with h; exact hz ⟨by omega, by rw [h]; rfl⟩) (decide (p < q)))
      clear hE h0 hlen hhead hdig hz hzb
      go_wp2_with fail
      exact bodyPost_ret (v := .tuple #[.agg #[.int .i64 0, .string ⟨#[]⟩, .int .i64 0, .int .i64 0], .int .i64 0, .bool false]) (by simp [results, Tryd.results38, go_sem, x0, x1, x2, x3]) rfl ⟨by have hb := b9.out; go_grown, 0, 0, 0, 0, false, rfl, .inl ⟨rfl, .inr (.inr HB.out)⟩⟩
    have hds := HDS.out
    have hdj : ∀ j, (h : j < n0) → ∃ h2 : q + j < s.size, ds.take (j + 1) = ds.take j ++ [s[q + j]'h2] ∧ Lx.isDig (s[q + j]'h2) = true := fun j h => by
      have h2 : q + j < s.size := by omega
      have h3 : j < ds.length := by omega
      have h4 : ds[j] = s[q + j]'h2 := by
        subst hds
        rw [List.getElem_take, List.getElem_drop]
        rfl
      exact ⟨h2, by rw [List.take_succ_eq_append_getElem h3, h4], by rw [← h4]; exact hdig _ (List.getElem_mem h3)⟩
    have hgood : ¬ (ds = [] ∨ (1 < ds.length ∧ ds.head? = some 48)) := by
      rintro (h | ⟨h, h'⟩)
      · rw [h] at hlen; simp at hlen; omega
      · rw [hhead hqs (by omega)] at h'
        injection h' with h'
        exact hz ⟨by omega, by rw [h']; rfl⟩
    have hV : Lx.valD ds < 10000000000 := by
      have h9 := Lx.valF_lt ds 0 hdig
      have h8 : 10 ^ ds.length ≤ 10 ^ 10 := Nat.pow_le_pow_right (by omega) (by omega)
      rw [Lx.valD_eq]; omega
    have HDJ := hid hdj
    have HGD := hid hgood
    have HDL := hid hlen
    have HDG := hid hdig
    have HV := hid hV
    have H0 := hid h0
    have hn10 : n0 ≤ 10 := by omega
    have e4 : (E : Int) - q ≤ 10 := by omega
    have e2 : (E : Int) - q ≤ 1 ∨ (1 < (E : Int) - q ∧ (((s[q]'hqs).toNat : Int) == 48) = false) := by
      by_cases h1 : n0 = 1
      · left; omega
      · right; exact ⟨by omega, by simp; omega⟩
    clear hE h0 hlen hhead hdig hz hzb hds hdj hgood hV h10
    rcases e2 with e2 | ⟨e2, e3⟩
    all_goals
      go_wp2_with fail
      go_loopg [10, 11] n0 (fun g x i wr => ∃ (j : Nat), j + g = n0 ∧ i = .int .i64 (q + j : Nat) ∧ x = .int .i64 (Lx.valF 0 (ds.take j)) ∧ wr = wc)
      case atStart => exact ⟨0, by omega, rfl, rfl, rfl⟩
      case round =>
        obtain ⟨j, hj, rfl, rfl, rfl⟩ := hrel
        have HJ := hid hj
        by_cases hlt : j < n0
        · obtain ⟨h2, h3, h4⟩ := HDJ.out j hlt
          have h5 := Lx.dig_range h4
          have h6 := Lx.valF_lt (ds.take j) 0 (fun c hc => HDG.out c (List.mem_of_mem_take hc))
          have h7 : 10 ^ (ds.take j).length ≤ 10 ^ 10 := Nat.pow_le_pow_right (by omega) (by simp; omega)
          have hnx : Lx.valF 0 (ds.take (j + 1)) = Lx.valF 0 (ds.take j) * 10 + ((s[q + j]'h2).toNat - 48) := by rw [h3, Lx.valF_app]; rfl
          obtain ⟨V, hV⟩ : ∃ V, Lx.valF 0 (ds.take j) = V := ⟨_, rfl⟩
          rw [hV] at h6 hnx ⊢
          have HNX := hid hnx
          obtain ⟨cc, hcc⟩ : ∃ cc : Nat, (s[q + j]'h2).toNat = cc := ⟨_, rfl⟩
          rw [hcc] at h5
          have HCC := hid hcc
          have hV2 : (V : Int) ≤ 10000000000 := by omega
          have hV3 : (0 : Int) ≤ V := by omega
          have hc1 : (48 : Int) ≤ cc := by omega
          have hc2 : (cc : Int) ≤ 57 := by omega
          have hlt2 : ((q + j : Nat) : Int) < E := by have := HE.out; omega
          clear hj h3 h4 h5 h6 h7 hnx hV
          go_wp2_with fail
          have hgk := HJ.out
          go_roundg (gk - 1)
          case rel =>
            exact ⟨j + 1, by omega, by go_num, by rw [HNX.out, hcc]; go_num, rfl⟩
          case measure => omega
        · obtain rfl : j = n0 := by omega
          have hv : Lx.valF 0 (ds.take j) = Lx.valD ds := by rw [List.take_of_length_le (by have := HDL.out; omega)]; rfl
          rw [hv]
          obtain ⟨V, hV⟩ : ∃ V, Lx.valD ds = V := ⟨_, rfl⟩
          have HV2 := hid hV
          have hV1 := HV.out
          rw [hV] at hV1 ⊢
          have hV2 : (V : Int) ≤ 10000000000 := by omega
          have hV3 : (0 : Int) ≤ V := by omega
          have hqE : ((q + j : Nat) : Int) = E := by have := HE.out; omega
          have HQ := hid hqE
          have hlt2 : ¬ ((q + j : Nat) : Int) < E := by omega
          clear hj hv hV hV1 hqE
          by_cases hpq2 : p < q
          · have hpq3 : (p : Int) < q := by omega
            go_wp2_with (go_at_call 45; (with_reducible refine (rf_In _ _).mono ?_); rintro e w' ⟨rfl, rfl⟩)
            exact bodyPost_ret (v := .tuple #[.agg #[.int .i64 4, .string ⟨#[]⟩, .int .i64 (-(V : Int)), .int .i64 p], .int .i64 E, .bool (decide (Lx.inR (-(V : Int))))]) (by simp [results, Tryd.results38, go_sem, x0, x1, x2, x3]) rfl ⟨(by have hb := b9.out; go_grown), 4, _, _, _, _, rfl, numq_end HGD.out (by unfold Lx.valS; rw [HV2.out]; simp [hpq2]) (by have := HE.out; have := HDL.out; omega)⟩
          · have hpq3 : ¬ (p : Int) < q := by omega
            go_wp2_with (go_at_call 45; (with_reducible refine (rf_In _ _).mono ?_); rintro e w' ⟨rfl, rfl⟩)
            exact bodyPost_ret (v := .tuple #[.agg #[.int .i64 4, .string ⟨#[]⟩, .int .i64 ((V : Int)), .int .i64 p], .int .i64 E, .bool (decide (Lx.inR ((V : Int))))]) (by simp [results, Tryd.results38, go_sem, x0, x1, x2, x3]) rfl ⟨(by have hb := b9.out; go_grown), 4, _, _, _, _, rfl, numq_end HGD.out (by unfold Lx.valS; rw [HV2.out]; simp [hpq2]) (by have := HE.out; have := HDL.out; omega)⟩
end Go.Proofs.YtngbaghkjaibeaaDoor
