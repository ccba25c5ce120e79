/-
  THE WALKS OF athanorref11.small, capital, digit, part, among, Key, Sign, run.
-/
import Derived.Test.YtngbaghkjaibeaaDoorXLex
namespace Go.Proofs.YtngbaghkjaibeaaDoor
set_option linter.all false
open Go.ChangeShapes Go.WideShapes Go.ChangeAt Go.RowKit

theorem rf_small (c : Int) (w : World) : Calls Tryd.prog 33 #[.int .u8 c] w fun e w' => e = .returned (.bool (Lx.smI c)) ∧ w = w' := by
  by_cases h1 : 97 ≤ c
  · by_cases h2 : c ≤ 122
    · go_enter Tryd.func33, Tryd.ntmps33
      go_wp2
      go_ret
      exact ⟨ret_bool (by simp [Lx.smI, h1, h2]), rfl⟩
    · go_enter Tryd.func33, Tryd.ntmps33
      go_wp2
      go_ret
      exact ⟨ret_bool (by simp [Lx.smI, h1, h2]), rfl⟩
  · go_enter Tryd.func33, Tryd.ntmps33
    go_wp2
    go_ret
    exact ⟨ret_bool (by simp [Lx.smI]; omega), rfl⟩
theorem rf_capital (c : Int) (w : World) : Calls Tryd.prog 34 #[.int .u8 c] w fun e w' => e = .returned (.bool (Lx.grI c)) ∧ w = w' := by
  by_cases h1 : 65 ≤ c
  · by_cases h2 : c ≤ 90
    · go_enter Tryd.func34, Tryd.ntmps34
      go_wp2
      go_ret
      exact ⟨ret_bool (by simp [Lx.grI, h1, h2]), rfl⟩
    · go_enter Tryd.func34, Tryd.ntmps34
      go_wp2
      go_ret
      exact ⟨ret_bool (by simp [Lx.grI, h1, h2]), rfl⟩
  · go_enter Tryd.func34, Tryd.ntmps34
    go_wp2
    go_ret
    exact ⟨ret_bool (by simp [Lx.grI]; omega), rfl⟩
theorem rf_digit (c : Int) (w : World) : Calls Tryd.prog 37 #[.int .u8 c] w fun e w' => e = .returned (.bool (Lx.dgI c)) ∧ w = w' := by
  by_cases h1 : 48 ≤ c
  · by_cases h2 : c ≤ 57
    · go_enter Tryd.func37, Tryd.ntmps37
      go_wp2
      go_ret
      exact ⟨ret_bool (by simp [Lx.dgI, h1, h2]), rfl⟩
    · go_enter Tryd.func37, Tryd.ntmps37
      go_wp2
      go_ret
      exact ⟨ret_bool (by simp [Lx.dgI, h1, h2]), rfl⟩
  · go_enter Tryd.func37, Tryd.ntmps37
    go_wp2
    go_ret
    exact ⟨ret_bool (by simp [Lx.dgI]; omega), rfl⟩
theorem rf_part (c : Int) (w : World) : Calls Tryd.prog 52 #[.int .u8 c] w fun e w' => e = .returned (.bool (Lx.inI c)) ∧ w = w' := by
  have key : ∀ a b d : Bool, Lx.smI c = a → Lx.grI c = b → Lx.dgI c = d → Calls Tryd.prog 52 #[.int .u8 c] w fun e w' => e = .returned (.bool (Lx.inI c)) ∧ w = w' := by
    intro a b d ha hb hd
    have HA := hid ha
    have HB := hid hb
    have HD := hid hd
    clear ha hb hd
    by_cases hc : c = 95
    · have HC := hid hc
      have hq : (c == 95) = true := by simpa using hc
      clear hc
      cases a <;> cases b <;> cases d
      all_goals
        go_enter Tryd.func52, Tryd.ntmps52
        go_wp2_with (first
          | (go_at_call 33; (with_reducible refine (rf_small _ _).mono ?_); rw [HA.out]; rintro e w' ⟨rfl, rfl⟩)
          | (go_at_call 34; (with_reducible refine (rf_capital _ _).mono ?_); rw [HB.out]; rintro e w' ⟨rfl, rfl⟩)
          | (go_at_call 37; (with_reducible refine (rf_digit _ _).mono ?_); rw [HD.out]; rintro e w' ⟨rfl, rfl⟩))
        go_ret
        exact ⟨ret_bool (by simp [Lx.inI, HA.out, HB.out, HD.out, HC.out]), rfl⟩
    · have HC := hid hc
      have hq : (c == 95) = false := by simpa using hc
      clear hc
      cases a <;> cases b <;> cases d
      all_goals
        go_enter Tryd.func52, Tryd.ntmps52
        go_wp2_with (first
          | (go_at_call 33; (with_reducible refine (rf_small _ _).mono ?_); rw [HA.out]; rintro e w' ⟨rfl, rfl⟩)
          | (go_at_call 34; (with_reducible refine (rf_capital _ _).mono ?_); rw [HB.out]; rintro e w' ⟨rfl, rfl⟩)
          | (go_at_call 37; (with_reducible refine (rf_digit _ _).mono ?_); rw [HD.out]; rintro e w' ⟨rfl, rfl⟩))
        go_ret
        exact ⟨ret_bool (by simp [Lx.inI, HA.out, HB.out, HD.out, HC.out]), rfl⟩
  exact key _ _ _ rfl rfl rfl
set_option maxHeartbeats 4000000 in
set_option maxRecDepth 100000 in
theorem rf_among (s : ByteArray) (L : List (List UInt8)) (g c : Nat) (w : World) (hL : L.length ≤ 1000) (hc : ∀ j, (h : j < L.length) → w.cell? ⟨g, j, none⟩ = some (.string ⟨L[j].toArray⟩)) :
    Calls Tryd.prog 53 #[.string s, .slice (some ⟨g, 0, none⟩) L.length c] w fun e w' => e = .returned (.bool (L.contains s.data.toList)) ∧ w = w' := by
  have HC := hid hc
  clear hc
  go_enter Tryd.func53, Tryd.ntmps53
  go_wp2_with fail
  go_loopg [5] L.length (fun g i wr => ∃ k : Nat, k + g = L.length ∧ i = .int .i64 k ∧ wr = w ∧ Hid (∀ j, (h : j < L.length) → j < k → L[j] ≠ s.data.toList))
  case atStart => exact ⟨0, by omega, rfl, rfl, hid (fun j _ h => by omega)⟩
  case round =>
    obtain ⟨k, hkg, rfl, rfl, hall⟩ := hrel
    have HG := hid hkg
    by_cases hlt : k < L.length
    · have hcc : wr.cell? ⟨g, k, none⟩ = some (.string ⟨(L[k]).toArray⟩) := HC.out k hlt
      obtain ⟨S, hS⟩ : ∃ S : ByteArray, S = ⟨(L[k]).toArray⟩ := ⟨_, rfl⟩
      have HS := hid hS
      rw [← hS] at hcc
      have hlt' : (k : Int) < L.length := by omega
      clear hS hkg
      by_cases he : S = s
      · subst he
        go_wp2_with fail
        go_ret
        refine ⟨ret_bool ?_, rfl⟩
        rw [eq_comm, List.contains_iff_mem]
        rw [HS.out]
        simp
      · have hne : (S.toList == s.toList) = false := by
          rw [list_data2, list_data2]
          simp only [beq_eq_false_iff_ne]
          intro h; exact he (by cases S; cases s; simp at h; simp [h])
        have HE9 := hid he
        clear he
        go_wp2_with fail
        have hgk := HG.out
        go_roundg (gk - 1)
        case rel => exact ⟨k + 1, by omega, by go_num, rfl, hid (fun j hj hji => (Nat.lt_or_eq_of_le (Nat.le_of_lt_succ hji)).elim (hall.out j hj) (fun h => by subst h; intro h9; exact HE9.out (by rw [HS.out, h9])))⟩
        case measure => omega
    · obtain rfl : k = L.length := by omega
      clear hkg
      go_wp2_with fail
      go_ret
      refine ⟨ret_bool ?_, rfl⟩
      rw [eq_comm, ← Bool.not_eq_true, List.contains_iff_mem]
      intro hm
      obtain ⟨j, hj, h9⟩ := List.getElem_of_mem hm
      exact hall.out j hj hj h9
def keyW : Array Value := (Lx.keysL.map (fun x => Value.string ⟨x.toArray⟩)).toArray
def signW : Array Value := (Lx.signsL.map (fun x => Value.string ⟨x.toArray⟩)).toArray
theorem list_cells (L : List (List UInt8)) (w : World) (j : Nat) (h : j < L.length) {t : TypeId} : (w.alloc (.cells (L.map (fun x => Value.string ⟨x.toArray⟩)).toArray t)).cell? ⟨w.heap.size, j, none⟩ = some (.string ⟨L[j].toArray⟩) := by
  rw [(Blk.new w t _).cell j]
  simp [h]
def isSign (l : List UInt8) : Bool := Lx.signsL.contains l
set_option maxRecDepth 100000 in
theorem rf_Key (s : ByteArray) (w : World) : Calls Tryd.prog 36 #[.string s] w fun e w' => e = .returned (.bool (Lx.isKey s.data.toList)) ∧ Below w.heap.size w w' := by
  have hc : ∀ j, (h : j < Lx.keysL.length) → (w.alloc (.cells keyW 9)).cell? ⟨w.heap.size, j, none⟩ = some (.string ⟨Lx.keysL[j].toArray⟩) := fun j h => list_cells Lx.keysL w j h
  have HC := hid hc
  clear hc
  go_enter Tryd.func36, Tryd.ntmps36
  go_wp2_with (go_at_call 53; (refine (rf_among s Lx.keysL w.heap.size 12 (w.alloc (.cells keyW 9)) (by decide) HC.out).mono ?_); rintro e w' ⟨rfl, h9⟩; subst h9)
  go_ret
  exact ⟨ret_bool (by simp [Lx.isKey]), alB w _⟩
set_option maxRecDepth 100000 in
theorem rf_Sign (s : ByteArray) (w : World) : Calls Tryd.prog 39 #[.string s] w fun e w' => e = .returned (.bool (isSign s.data.toList)) ∧ Below w.heap.size w w' := by
  have hc : ∀ j, (h : j < Lx.signsL.length) → (w.alloc (.cells signW 9)).cell? ⟨w.heap.size, j, none⟩ = some (.string ⟨Lx.signsL[j].toArray⟩) := fun j h => list_cells Lx.signsL w j h
  have HC := hid hc
  clear hc
  go_enter Tryd.func39, Tryd.ntmps39
  go_wp2_with (go_at_call 53; (refine (rf_among s Lx.signsL w.heap.size 14 (w.alloc (.cells signW 9)) (by decide) HC.out).mono ?_); rintro e w' ⟨rfl, h9⟩; subst h9)
  go_ret
  exact ⟨ret_bool (by simp [isSign]), alB w _⟩
set_option maxHeartbeats 4000000 in
set_option maxRecDepth 100000 in
theorem rf_run (s : ByteArray) (p : Nat) (w : World) (hp : p ≤ s.size) (hm : s.size ≤ 100000) : Calls Tryd.prog 35 #[.string s, .int .i64 p] w fun e w' => e = .returned (.int .i64 (p + Lx.runL Lx.isPart (s.data.toList.drop p) : Nat)) ∧ w = w' := by
  go_enter Tryd.func35, Tryd.ntmps35
  go_wp2_with fail
  go_loopg [1] (s.size - p) (fun g i wr => ∃ k : Nat, k + g = s.size ∧ p ≤ k ∧ i = .int .i64 k ∧ wr = w ∧ Hid (p + Lx.runL Lx.isPart (s.data.toList.drop p) = k + Lx.runL Lx.isPart (s.data.toList.drop k)))
  case atStart => exact ⟨p, by omega, Nat.le_refl _, rfl, rfl, hid rfl⟩
  case round =>
    obtain ⟨k, hkg, hpk, rfl, rfl, he⟩ := hrel
    have HG := hid hkg
    have HP := hid hpk
    by_cases hlt : k < s.size
    · have hdr : s.data.toList.drop k = s[k]'hlt :: s.data.toList.drop (k + 1) := List.drop_eq_getElem_cons (by rw [size_list]; exact hlt)
      have HD := hid hdr
      have hlt' : (k : Int) < s.size := by omega
      obtain ⟨b, hb⟩ : ∃ b, Lx.isPart (s[k]'hlt) = b := ⟨_, rfl⟩
      have HB := hid hb
      have HB2 := hid ((Lx.inI_byte (s[k]'hlt)).trans hb)
      clear hkg hdr hb hpk
      cases b
      · go_wp2_with (go_at_call 52; (with_reducible refine (rf_part _ _).mono ?_); rw [HB2.out]; rintro e w' ⟨rfl, rfl⟩)
        go_ret
        refine ⟨ret_int ?_, rfl⟩
        rw [he.out, HD.out, Lx.runL, if_neg (by rw [HB.out]; decide)]
        rfl
      · go_wp2_with (go_at_call 52; (with_reducible refine (rf_part _ _).mono ?_); rw [HB2.out]; rintro e w' ⟨rfl, rfl⟩)
        have hgk := HG.out
        have hpk := HP.out
        go_roundg (gk - 1)
        case rel => exact ⟨k + 1, by omega, by omega, by go_num, rfl, hid (by rw [he.out, HD.out, Lx.runL, if_pos HB.out]; omega)⟩
        case measure => omega
    · obtain rfl : k = s.size := by omega
      clear hkg hpk
      go_wp2_with fail
      go_ret
      refine ⟨ret_int ?_, rfl⟩
      rw [he.out, List.drop_of_length_le (by rw [size_list]; omega)]
      rfl
end Go.Proofs.YtngbaghkjaibeaaDoor
