/-
  THE WALKS OF athanorref11.Word AND Good.
-/
import Derived.Test.YtngbaghkjaibeaaDoorXRLex
import Derived.Test.YtngbaghkjaibeaaDoorXPlainD
import Derived.Test.YtngbaghkjaibeaaDoorXRef2
import Derived.Deep.RegionHeld3
import Derived.BigQuiet
namespace Go.Proofs.YtngbaghkjaibeaaDoor
set_option linter.all false
open Go.ChangeShapes Go.WideShapes Go.ChangeAt Go.RowKit

theorem wordB_no {p : UInt8 → Bool} {l : List UInt8} {k : Nat} (h1 : 1 ≤ k) (h : k < l.length) (hk : Lx.isPart l[k] = false) : Lx.wordB p l = false := by
  cases l with
  | nil => rfl
  | cons c r =>
    obtain ⟨j, rfl⟩ : ∃ j, k = j + 1 := ⟨k - 1, by omega⟩
    have hj : j < r.length := by simpa using h
    have : r.all Lx.isPart = false := by
      rw [← Bool.not_eq_true, List.all_eq_true]
      intro h9
      have := h9 _ (List.getElem_mem hj)
      simp only [List.getElem_cons_succ] at hk
      rw [hk] at this
      cases this
    simp [Lx.wordB, this]
theorem wordB_yes {p : UInt8 → Bool} {l : List UInt8} (h0 : 0 < l.length) (hl : l.length ≤ 32) (hp : p (l[0]'h0) = true) (h : ∀ k, 1 ≤ k → (h : k < l.length) → Lx.isPart l[k] = true) : Lx.wordB p l = true := by
  cases l with
  | nil => simp at h0
  | cons c r =>
    refine Lx.wordB_iff.2 ⟨hp, by simp at hl; omega, ?_⟩
    rw [List.all_eq_true]
    intro x hx
    obtain ⟨j, hj, rfl⟩ := List.getElem_of_mem hx
    exact h (j + 1) (by omega) (by simpa using hj)
theorem wordB_first {p : UInt8 → Bool} {l : List UInt8} (h0 : 0 < l.length) (hp : p (l[0]'h0) = false) : Lx.wordB p l = false := by
  cases l with
  | nil => rfl
  | cons c r => simp only [List.getElem_cons_zero] at hp; simp [Lx.wordB, hp]
theorem wordB_long {p : UInt8 → Bool} {l : List UInt8} (h : 32 < l.length) : Lx.wordB p l = false := by
  cases l with
  | nil => rfl
  | cons c r => simp at h; simp [Lx.wordB]; intro _ h9; omega
set_option maxHeartbeats 4000000 in
set_option maxRecDepth 100000 in
theorem rf_Word_no (s : ByteArray) (low : Bool) (w : World) (h : s.size = 0 ∨ 32 < s.size) (hm : s.size ≤ 100000) : Calls Tryd.prog 44 #[.string s, .bool low] w fun e w' => e = .returned (.bool false) ∧ w = w' := by
  rcases h with h0 | h0
  · have hl0 : (s.size : Int) < 1 := by omega
    clear h0
    go_enter Tryd.func44, Tryd.ntmps44
    go_wp2_with fail
    go_ret
    exact ⟨rfl, rfl⟩
  · have hl0 : ¬ (s.size : Int) < 1 := by omega
    have hl1 : (32 : Int) < s.size := by omega
    clear h0
    go_enter Tryd.func44, Tryd.ntmps44
    go_wp2_with fail
    go_ret
    exact ⟨rfl, rfl⟩
set_option maxHeartbeats 4000000 in
set_option maxRecDepth 100000 in
theorem rf_Word_small (s : ByteArray) (w : World) (h0 : 0 < s.size) (h1 : s.size ≤ 32) : Calls Tryd.prog 44 #[.string s, .bool true] w fun e w' => e = .returned (.bool (Lx.wordB Lx.isSmall s.data.toList)) ∧ w = w' := by
  have hl0 : ¬ (s.size : Int) < 1 := by omega
  have hl1 : ¬ (32 : Int) < s.size := by omega
  have hL : s.data.toList.length = s.size := size_list s
  have HL := hid hL
  obtain ⟨b, hb⟩ : ∃ b, Lx.smI ((s[0]'h0).toNat : Int) = b := ⟨_, rfl⟩
  have hb2 : Lx.isSmall (s[0]'h0) = b := by rw [← Lx.smI_byte]; exact hb
  have HB := hid hb
  have HB2 := hid hb2
  clear hb hb2 hL
  cases b
  · go_enter Tryd.func44, Tryd.ntmps44
    go_wp2_with (go_at_call 33; (with_reducible refine (rf_small _ _).mono ?_); rw [HB.out]; rintro e w' ⟨rfl, h9⟩; subst h9)
    go_ret
    exact ⟨ret_bool (wordB_first (by rw [HL.out]; exact h0) HB2.out).symm, rfl⟩
  · go_enter Tryd.func44, Tryd.ntmps44
    go_wp2_with (go_at_call 33; (with_reducible refine (rf_small _ _).mono ?_); rw [HB.out]; rintro e w' ⟨rfl, h9⟩; subst h9)
    go_loopg [5] s.size (fun g i wr => ∃ k : Nat, k + g = s.size + 1 ∧ 1 ≤ k ∧ k ≤ s.size ∧ i = .int .i64 k ∧ wr = w ∧ Hid (∀ j, 1 ≤ j → j < k → (h : j < s.size) → Lx.isPart s[j] = true))
    case atStart => exact ⟨1, by omega, Nat.le_refl _, h0, rfl, rfl, hid (fun j h1 h2 => by omega)⟩
    case round =>
      obtain ⟨k, hkg, hk1, hk2, rfl, rfl, hall⟩ := hrel
      have HG := hid hkg
      have HK := hid (And.intro hk1 hk2)
      by_cases hlt : k < s.size
      · have hlt' : (k : Int) < s.size := by omega
        obtain ⟨b, hb⟩ : ∃ b, Lx.isPart (s[k]'hlt) = b := ⟨_, rfl⟩
        have HB3 := hid hb
        have HB4 := hid ((Lx.inI_byte (s[k]'hlt)).trans hb)
        clear hkg hb hk1 hk2
        cases b
        · go_wp2_with (go_at_call 52; (with_reducible refine (rf_part _ _).mono ?_); rw [HB4.out]; rintro e w' ⟨rfl, rfl⟩)
          go_ret
          exact ⟨ret_bool (wordB_no HK.out.1 (by rw [HL.out]; exact hlt) HB3.out).symm, rfl⟩
        · go_wp2_with (go_at_call 52; (with_reducible refine (rf_part _ _).mono ?_); rw [HB4.out]; rintro e w' ⟨rfl, rfl⟩)
          have hgk := HG.out
          have hk9 := HK.out.1
          go_roundg (gk - 1)
          case rel => exact ⟨k + 1, by omega, by omega, by omega, by go_num, rfl, hid (fun j h1 h2 h => (Nat.lt_or_eq_of_le (Nat.le_of_lt_succ h2)).elim (fun h3 => hall.out j h1 h3 h) (fun h3 => by subst h3; exact HB3.out))⟩
          case measure => omega
      · obtain rfl : k = s.size := by omega
        clear hkg hk1 hk2
        go_wp2_with fail
        go_ret
        exact ⟨ret_bool (wordB_yes (by rw [HL.out]; exact h0) (by rw [HL.out]; exact h1) HB2.out (fun j h1 h2 => hall.out j h1 (by rw [← HL.out]; exact h2) (by rw [← HL.out]; exact h2))).symm, rfl⟩
set_option maxHeartbeats 4000000 in
set_option maxRecDepth 100000 in
theorem rf_Word_capital (s : ByteArray) (w : World) (h0 : 0 < s.size) (h1 : s.size ≤ 32) : Calls Tryd.prog 44 #[.string s, .bool false] w fun e w' => e = .returned (.bool (Lx.wordB Lx.isGreat s.data.toList)) ∧ w = w' := by
  have hl0 : ¬ (s.size : Int) < 1 := by omega
  have hl1 : ¬ (32 : Int) < s.size := by omega
  have hL : s.data.toList.length = s.size := size_list s
  have HL := hid hL
  obtain ⟨b, hb⟩ : ∃ b, Lx.grI ((s[0]'h0).toNat : Int) = b := ⟨_, rfl⟩
  have hb2 : Lx.isGreat (s[0]'h0) = b := by rw [← Lx.grI_byte]; exact hb
  have HB := hid hb
  have HB2 := hid hb2
  clear hb hb2 hL
  cases b
  · go_enter Tryd.func44, Tryd.ntmps44
    go_wp2_with (go_at_call 34; (with_reducible refine (rf_capital _ _).mono ?_); rw [HB.out]; rintro e w' ⟨rfl, h9⟩; subst h9)
    go_ret
    exact ⟨ret_bool (wordB_first (by rw [HL.out]; exact h0) HB2.out).symm, rfl⟩
  · go_enter Tryd.func44, Tryd.ntmps44
    go_wp2_with (go_at_call 34; (with_reducible refine (rf_capital _ _).mono ?_); rw [HB.out]; rintro e w' ⟨rfl, h9⟩; subst h9)
    go_loopg [5] s.size (fun g i wr => ∃ k : Nat, k + g = s.size + 1 ∧ 1 ≤ k ∧ k ≤ s.size ∧ i = .int .i64 k ∧ wr = w ∧ Hid (∀ j, 1 ≤ j → j < k → (h : j < s.size) → Lx.isPart s[j] = true))
    case atStart => exact ⟨1, by omega, Nat.le_refl _, h0, rfl, rfl, hid (fun j h1 h2 => by omega)⟩
    case round =>
      obtain ⟨k, hkg, hk1, hk2, rfl, rfl, hall⟩ := hrel
      have HG := hid hkg
      have HK := hid (And.intro hk1 hk2)
      by_cases hlt : k < s.size
      · have hlt' : (k : Int) < s.size := by omega
        obtain ⟨b, hb⟩ : ∃ b, Lx.isPart (s[k]'hlt) = b := ⟨_, rfl⟩
        have HB3 := hid hb
        have HB4 := hid ((Lx.inI_byte (s[k]'hlt)).trans hb)
        clear hkg hb hk1 hk2
        cases b
        · go_wp2_with (go_at_call 52; (with_reducible refine (rf_part _ _).mono ?_); rw [HB4.out]; rintro e w' ⟨rfl, rfl⟩)
          go_ret
          exact ⟨ret_bool (wordB_no HK.out.1 (by rw [HL.out]; exact hlt) HB3.out).symm, rfl⟩
        · go_wp2_with (go_at_call 52; (with_reducible refine (rf_part _ _).mono ?_); rw [HB4.out]; rintro e w' ⟨rfl, rfl⟩)
          have hgk := HG.out
          have hk9 := HK.out.1
          go_roundg (gk - 1)
          case rel => exact ⟨k + 1, by omega, by omega, by omega, by go_num, rfl, hid (fun j h1 h2 h => (Nat.lt_or_eq_of_le (Nat.le_of_lt_succ h2)).elim (fun h3 => hall.out j h1 h3 h) (fun h3 => by subst h3; exact HB3.out))⟩
          case measure => omega
      · obtain rfl : k = s.size := by omega
        clear hkg hk1 hk2
        go_wp2_with fail
        go_ret
        exact ⟨ret_bool (wordB_yes (by rw [HL.out]; exact h0) (by rw [HL.out]; exact h1) HB2.out (fun j h1 h2 => hall.out j h1 (by rw [← HL.out]; exact h2) (by rw [← HL.out]; exact h2))).symm, rfl⟩
theorem rf_Word (s : ByteArray) (low : Bool) (w : World) (hm : s.size ≤ 100000) : Calls Tryd.prog 44 #[.string s, .bool low] w fun e w' => e = .returned (.bool (Lx.wordB (if low then Lx.isSmall else Lx.isGreat) s.data.toList)) ∧ w = w' := by
  rcases Nat.eq_zero_or_pos s.size with h0 | h0
  · have : s.data.toList = [] := List.length_eq_zero_iff.1 (by rw [size_list]; exact h0)
    rw [this]
    exact rf_Word_no s low w (.inl h0) hm
  by_cases h1 : 32 < s.size
  · rw [wordB_long (by rw [size_list]; exact h1)]
    exact rf_Word_no s low w (.inr h1) hm
  · cases low
    · exact rf_Word_capital s w h0 (by omega)
    · exact rf_Word_small s w h0 (by omega)
theorem good_neq {kd n ps : Int} {tx : List UInt8} (h4 : kd ≠ 4) (hn : n ≠ 0) : Lx.goodB ⟨kd, tx, n, ps⟩ = false := by simp [Lx.goodB, h4, hn]
theorem good_kind {kd ps : Int} {tx : List UInt8} (h1 : kd ≠ 1) (h2 : kd ≠ 2) (h3 : kd ≠ 3) (h4 : kd ≠ 4) (h5 : kd ≠ 5) (h6 : kd ≠ 6) : Lx.goodB ⟨kd, tx, 0, ps⟩ = false := by simp [Lx.goodB, h1, h2, h3, h4, h5, h6]
set_option maxHeartbeats 4000000 in
set_option maxRecDepth 100000 in
theorem rf_Good_neq (kd n ps : Int) (tx : ByteArray) (w : World) (h4 : ¬ kd = 4) (h5 : (kd != 4) = true) (hn : (n != 0) = true) : Calls Tryd.prog 21 #[.agg #[.int .i64 kd, .string tx, .int .i64 n, .int .i64 ps]] w fun e w' => e = .returned (.bool false) ∧ Below w.heap.size w w' := by
  go_enter Tryd.func21, Tryd.ntmps21
  go_wp2_with fail
  go_ret
  exact ⟨rfl, by go_grown⟩
set_option maxHeartbeats 4000000 in
set_option maxRecDepth 100000 in
theorem rf_Good_kind (kd ps : Int) (tx : ByteArray) (w : World) (h1 : (kd == 1) = false) (h2 : (kd == 2) = false) (h3 : (kd == 3) = false) (h4 : (kd == 4) = false) (h5 : (kd == 5) = false) (h6 : (kd == 6) = false) (h7 : ¬ kd = 4) : Calls Tryd.prog 21 #[.agg #[.int .i64 kd, .string tx, .int .i64 0, .int .i64 ps]] w fun e w' => e = .returned (.bool false) ∧ Below w.heap.size w w' := by
  go_enter Tryd.func21, Tryd.ntmps21
  go_wp2_with fail
  go_ret
  exact ⟨rfl, by go_grown⟩
set_option maxHeartbeats 4000000 in
set_option maxRecDepth 100000 in
theorem rf_Good1 (ps : Int) (tx : ByteArray) (w : World) (hm : tx.size ≤ 100000) (b1 b2 : Bool) (hw : Lx.wordB (if true then Lx.isSmall else Lx.isGreat) tx.data.toList = b1) (hk : Lx.isKey tx.data.toList = b2) : Calls Tryd.prog 21 #[.agg #[.int .i64 1, .string tx, .int .i64 0, .int .i64 ps]] w fun e w' => e = .returned (.bool (b1 && !b2)) ∧ Below w.heap.size w w' := by
  have HW := hid hw
  have HK := hid hk
  clear hw hk
  cases b1
  · go_enter Tryd.func21, Tryd.ntmps21
    go_wp2_with (go_at_call 44; (with_reducible refine (rf_Word _ _ _ hm).mono ?_); rw [HW.out]; rintro e w' ⟨rfl, h9⟩; subst h9)
    go_ret
    exact ⟨rfl, by go_grown⟩
  · cases b2
    all_goals
      go_enter Tryd.func21, Tryd.ntmps21
      go_wp2_with (first | (go_at_call 44; (with_reducible refine (rf_Word _ _ _ hm).mono ?_); rw [HW.out]; rintro e w' ⟨rfl, h9⟩; subst h9) | (go_at_call 36; (with_reducible refine (rf_Key _ _).mono ?_); rw [HK.out]; rintro e w2 ⟨rfl, b⟩; have b9 := below_hop b (alB w _)))
      go_ret
      exact ⟨rfl, by have hz := b9.size; go_grown⟩
set_option maxHeartbeats 4000000 in
set_option maxRecDepth 100000 in
theorem rf_Good2 (ps : Int) (tx : ByteArray) (w : World) (hm : tx.size ≤ 100000) (b1 : Bool) (hw : Lx.wordB (if false then Lx.isSmall else Lx.isGreat) tx.data.toList = b1) : Calls Tryd.prog 21 #[.agg #[.int .i64 2, .string tx, .int .i64 0, .int .i64 ps]] w fun e w' => e = .returned (.bool b1) ∧ Below w.heap.size w w' := by
  have HW := hid hw
  clear hw
  go_enter Tryd.func21, Tryd.ntmps21
  go_wp2_with (go_at_call 44; (with_reducible refine (rf_Word _ _ _ hm).mono ?_); rw [HW.out]; rintro e w' ⟨rfl, h9⟩; subst h9)
  go_ret
  exact ⟨rfl, by go_grown⟩
set_option maxHeartbeats 4000000 in
set_option maxRecDepth 100000 in
theorem rf_Good3 (ps : Int) (tx : ByteArray) (w : World) (hm : tx.size ≤ 100000) (b1 : Bool) (hw : Lx.wordB (if true then Lx.isSmall else Lx.isGreat) tx.data.toList = b1) : Calls Tryd.prog 21 #[.agg #[.int .i64 3, .string tx, .int .i64 0, .int .i64 ps]] w fun e w' => e = .returned (.bool b1) ∧ Below w.heap.size w w' := by
  have HW := hid hw
  clear hw
  go_enter Tryd.func21, Tryd.ntmps21
  go_wp2_with (go_at_call 44; (with_reducible refine (rf_Word _ _ _ hm).mono ?_); rw [HW.out]; rintro e w' ⟨rfl, h9⟩; subst h9)
  go_ret
  exact ⟨rfl, by go_grown⟩
set_option maxHeartbeats 4000000 in
set_option maxRecDepth 100000 in
theorem rf_Good4 (n ps : Int) (tx : ByteArray) (w : World) (b1 b2 : Bool) (hw : (tx.toList == []) = b1) (hk : decide (Lx.inR n) = b2) : Calls Tryd.prog 21 #[.agg #[.int .i64 4, .string tx, .int .i64 n, .int .i64 ps]] w fun e w' => e = .returned (.bool (b1 && b2)) ∧ Below w.heap.size w w' := by
  have HK := hid hk
  clear hk
  cases b1
  · go_enter Tryd.func21, Tryd.ntmps21
    go_wp2_with fail
    go_ret
    exact ⟨rfl, by go_grown⟩
  · cases b2
    all_goals
      go_enter Tryd.func21, Tryd.ntmps21
      go_wp2_with (go_at_call 45; (with_reducible refine (rf_In _ _).mono ?_); rw [HK.out]; rintro e w' ⟨rfl, h9⟩; subst h9)
      go_ret
      exact ⟨rfl, by go_grown⟩
set_option maxHeartbeats 4000000 in
set_option maxRecDepth 100000 in
theorem rf_Good5 (ps : Int) (tx : ByteArray) (w : World) (b2 : Bool) (hk : Lx.isKey tx.data.toList = b2) : Calls Tryd.prog 21 #[.agg #[.int .i64 5, .string tx, .int .i64 0, .int .i64 ps]] w fun e w' => e = .returned (.bool b2) ∧ Below w.heap.size w w' := by
  have HK := hid hk
  clear hk
  go_enter Tryd.func21, Tryd.ntmps21
  go_wp2_with (go_at_call 36; (with_reducible refine (rf_Key _ _).mono ?_); rw [HK.out]; rintro e w2 ⟨rfl, b⟩; have b9 := below_hop b (alB w _))
  go_ret
  exact ⟨rfl, by have hz := b9.size; go_grown⟩
set_option maxHeartbeats 4000000 in
set_option maxRecDepth 100000 in
theorem rf_Good6 (ps : Int) (tx : ByteArray) (w : World) (b2 : Bool) (hk : isSign tx.data.toList = b2) : Calls Tryd.prog 21 #[.agg #[.int .i64 6, .string tx, .int .i64 0, .int .i64 ps]] w fun e w' => e = .returned (.bool b2) ∧ Below w.heap.size w w' := by
  have HK := hid hk
  clear hk
  go_enter Tryd.func21, Tryd.ntmps21
  go_wp2_with (go_at_call 39; (with_reducible refine (rf_Sign _ _).mono ?_); rw [HK.out]; rintro e w2 ⟨rfl, b⟩; have b9 := below_hop b (alB w _))
  go_ret
  exact ⟨rfl, by have hz := b9.size; go_grown⟩
theorem rf_Good (kd n ps : Int) (tx : ByteArray) (w : World) (hm : tx.size ≤ 100000) : Calls Tryd.prog 21 #[.agg #[.int .i64 kd, .string tx, .int .i64 n, .int .i64 ps]] w fun e w' => e = .returned (.bool (Lx.goodB ⟨kd, tx.data.toList, n, ps⟩)) ∧ Below w.heap.size w w' := by
  have hne : ∀ {a b : Int}, a ≠ b → (a == b) = false := fun h => by simpa using h
  by_cases h4 : kd = 4
  · subst h4
    have h := rf_Good4 n ps tx w _ _ rfl rfl
    rw [list_data2] at h
    have e : Lx.goodB ⟨4, tx.data.toList, n, ps⟩ = ((tx.data.toList == []) && decide (Lx.inR n)) := by simp [Lx.goodB]
    rw [e]; exact h
  by_cases hn : n = 0
  · subst hn
    by_cases h1 : kd = 1
    · subst h1
      have h := rf_Good1 ps tx w hm _ _ rfl rfl
      have e : Lx.goodB ⟨1, tx.data.toList, 0, ps⟩ = (Lx.wordB (if true then Lx.isSmall else Lx.isGreat) tx.data.toList && !Lx.isKey tx.data.toList) := by simp [Lx.goodB]
      rw [e]; exact h
    by_cases h2 : kd = 2
    · subst h2
      have h := rf_Good2 ps tx w hm _ rfl
      have e : Lx.goodB ⟨2, tx.data.toList, 0, ps⟩ = Lx.wordB (if false then Lx.isSmall else Lx.isGreat) tx.data.toList := by simp [Lx.goodB]
      rw [e]; exact h
    by_cases h3 : kd = 3
    · subst h3
      have h := rf_Good3 ps tx w hm _ rfl
      have e : Lx.goodB ⟨3, tx.data.toList, 0, ps⟩ = Lx.wordB (if true then Lx.isSmall else Lx.isGreat) tx.data.toList := by simp [Lx.goodB]
      rw [e]; exact h
    by_cases h5 : kd = 5
    · subst h5
      have h := rf_Good5 ps tx w _ rfl
      have e : Lx.goodB ⟨5, tx.data.toList, 0, ps⟩ = Lx.isKey tx.data.toList := by simp [Lx.goodB]
      rw [e]; exact h
    by_cases h6 : kd = 6
    · subst h6
      have h := rf_Good6 ps tx w _ rfl
      have e : Lx.goodB ⟨6, tx.data.toList, 0, ps⟩ = isSign tx.data.toList := by simp [Lx.goodB, isSign]
      rw [e]; exact h
    rw [good_kind h1 h2 h3 h4 h5 h6]
    exact rf_Good_kind kd ps tx w (hne h1) (hne h2) (hne h3) (hne h4) (hne h5) (hne h6) h4
  · rw [good_neq h4 hn]
    exact rf_Good_neq kd n ps tx w h4 (by simpa using h4) (by simpa using hn)
end Go.Proofs.YtngbaghkjaibeaaDoor
