/-
  THE WALK OF lex.run.
-/
import Derived.Test.YtngbaghkjaibeaaDoorXWord
import Derived.Laws.RangeString
import Derived.Laws.RangeAny
import Derived.LoopTactic
namespace Go.Proofs.YtngbaghkjaibeaaDoor
set_option linter.all false
open Go.ChangeShapes Go.WideShapes Go.ChangeAt Go.RowKit

theorem byte_get (s : ByteArray) (i : Nat) (_h : i < s.size) (h2 : i < s.data.toList.length) : s.data.toList[i] = s[i] := rfl
theorem iter_below (w : World) (s : ByteArray) (p : Nat) : Below w.heap.size w (w.iter s p) := (Below.refl _ _).alloc (Nat.le_refl _) _
theorem runL_byte (p : UInt8 → Bool) (s : ByteArray) (i : Nat) (hi : i ≤ s.size) (h1 : ∀ j, (h : j < s.size) → j < i → p s[j] = true) (h2 : ∀ h : i < s.size, p (s[i]'h) = false) : Lx.runL p s.data.toList = i := by
  have hl : s.data.toList.length = s.size := by rw [Array.length_toList]; rfl
  exact Lx.runL_is p _ i (by omega) (fun j hj hji => h1 j (by omega) hji) (fun h => h2 (by omega))
set_option maxHeartbeats 4000000 in
set_option maxRecDepth 100000 in
theorem lx_run_inside (s : ByteArray) (w : World) (_hm : s.size ≤ 281474976710656) : Calls Tryd.prog 24 #[.string s, .func (.func 25) #[] #[]] w fun e w' => e = .returned (.int .i64 (Lx.runL Lx.isPart s.data.toList)) ∧ Below w.heap.size w w' := by
  go_enter Tryd.func24, Tryd.ntmps24
  go_wp2
  go_loopw [5] (fun _ w' => ∃ pos : Nat, pos ≤ s.size ∧ w' = w.iter s pos ∧ Hid (∀ j, (h : j < s.size) → j < pos → Lx.isPart s[j] = true)) (fun _ w' => s.size - w'.iterPos w.heap.size)
  case atStart => exact ⟨0, Nat.zero_le _, rfl, hid (fun j _ h => by omega)⟩
  case round =>
    obtain ⟨pos, hp0, rfl, hall⟩ := hrel
    by_cases hp : pos < s.size
    · by_cases ha : (s[pos]'hp).toNat < 128
      · have hnx : ∀ ty, (Instr.next (.pointer (some ⟨w.heap.size, 0, none⟩)) true ty).run Tryd.prog (w.iter s pos) = _ := fun ty => run_next_ascii w s pos ty hp ha
        have hb := Lx.inI_byte (s[pos]'hp)
        obtain ⟨c, hc⟩ : ∃ c : Int, ((s[pos]'hp).toNat : Int) = c := ⟨_, rfl⟩
        rw [hc] at hnx hb
        obtain ⟨b, hbb⟩ : ∃ b, Lx.isPart (s[pos]'hp) = b := ⟨_, rfl⟩
        have HB := hid (hb.trans hbb)
        have HBB := hid hbb
        clear hb hbb hc
        cases b
        · go_wp2_with (first | (go_at_call 25; (with_reducible refine (lx_inside _ _).mono ?_); rw [HB.out]; rintro e w' ⟨rfl, rfl⟩))
          go_ret
          exact ⟨ret_int (by rw [runL_byte _ s pos hp0 hall.out (fun _ => HBB.out)]), iter_below _ _ _⟩
        · go_wp2_with (first | (go_at_call 25; (with_reducible refine (lx_inside _ _).mono ?_); rw [HB.out]; rintro e w' ⟨rfl, rfl⟩))
          go_roundw
          case rel => exact ⟨pos + 1, hp, rfl, hid (fun j hj hji => (Nat.lt_or_eq_of_le (Nat.le_of_lt_succ hji)).elim (hall.out j hj) (fun h => by subst h; exact HBB.out))⟩
          case measure => simp; omega
      · have hh := decode_high s pos hp (by omega)
        have hnx : ∀ ty, (Instr.next (.pointer (some ⟨w.heap.size, 0, none⟩)) true ty).run Tryd.prog (w.iter s pos) = _ := fun ty => run_next_any w s pos ty hp
        have HB := hid (Lx.inI_high (c := (((Utf8.decode s pos).1 : Nat) : Int)) (by omega))
        have HBB := hid (show Lx.isPart (s[pos]'hp) = false by rw [← Lx.inI_byte]; exact Lx.inI_high (by omega))
        clear hh ha
        go_wp2_with (first | (go_at_call 25; (with_reducible refine (lx_inside _ _).mono ?_); rw [HB.out]; rintro e w' ⟨rfl, rfl⟩))
        go_ret
        exact ⟨ret_int (by rw [runL_byte _ s pos hp0 hall.out (fun _ => HBB.out)]), iter_below _ _ _⟩
    · have hnx : ∀ ty, (Instr.next (.pointer (some ⟨w.heap.size, 0, none⟩)) true ty).run Tryd.prog (w.iter s pos) = _ := fun ty => run_next_end w s pos ty hp
      obtain rfl : pos = s.size := by omega
      go_wp2_with fail
      go_ret
      exact ⟨ret_int (by rw [runL_byte _ s s.size (Nat.le_refl _) hall.out (fun h => by omega)]), iter_below _ _ _⟩
set_option maxHeartbeats 4000000 in
set_option maxRecDepth 100000 in
theorem lx_run_digit (s : ByteArray) (w : World) (_hm : s.size ≤ 281474976710656) : Calls Tryd.prog 24 #[.string s, .func (.func 29) #[] #[]] w fun e w' => e = .returned (.int .i64 (Lx.runL Lx.isDig s.data.toList)) ∧ Below w.heap.size w w' := by
  go_enter Tryd.func24, Tryd.ntmps24
  go_wp2
  go_loopw [5] (fun _ w' => ∃ pos : Nat, pos ≤ s.size ∧ w' = w.iter s pos ∧ Hid (∀ j, (h : j < s.size) → j < pos → Lx.isDig s[j] = true)) (fun _ w' => s.size - w'.iterPos w.heap.size)
  case atStart => exact ⟨0, Nat.zero_le _, rfl, hid (fun j _ h => by omega)⟩
  case round =>
    obtain ⟨pos, hp0, rfl, hall⟩ := hrel
    by_cases hp : pos < s.size
    · by_cases ha : (s[pos]'hp).toNat < 128
      · have hnx : ∀ ty, (Instr.next (.pointer (some ⟨w.heap.size, 0, none⟩)) true ty).run Tryd.prog (w.iter s pos) = _ := fun ty => run_next_ascii w s pos ty hp ha
        have hb := Lx.dgI_byte (s[pos]'hp)
        obtain ⟨c, hc⟩ : ∃ c : Int, ((s[pos]'hp).toNat : Int) = c := ⟨_, rfl⟩
        rw [hc] at hnx hb
        obtain ⟨b, hbb⟩ : ∃ b, Lx.isDig (s[pos]'hp) = b := ⟨_, rfl⟩
        have HB := hid (hb.trans hbb)
        have HBB := hid hbb
        clear hb hbb hc
        cases b
        · go_wp2_with (first | (go_at_call 29; (with_reducible refine (lx_digit _ _).mono ?_); rw [HB.out]; rintro e w' ⟨rfl, rfl⟩))
          go_ret
          exact ⟨ret_int (by rw [runL_byte _ s pos hp0 hall.out (fun _ => HBB.out)]), iter_below _ _ _⟩
        · go_wp2_with (first | (go_at_call 29; (with_reducible refine (lx_digit _ _).mono ?_); rw [HB.out]; rintro e w' ⟨rfl, rfl⟩))
          go_roundw
          case rel => exact ⟨pos + 1, hp, rfl, hid (fun j hj hji => (Nat.lt_or_eq_of_le (Nat.le_of_lt_succ hji)).elim (hall.out j hj) (fun h => by subst h; exact HBB.out))⟩
          case measure => simp; omega
      · have hh := decode_high s pos hp (by omega)
        have hnx : ∀ ty, (Instr.next (.pointer (some ⟨w.heap.size, 0, none⟩)) true ty).run Tryd.prog (w.iter s pos) = _ := fun ty => run_next_any w s pos ty hp
        have HB := hid (Lx.dgI_high (c := (((Utf8.decode s pos).1 : Nat) : Int)) (by omega))
        have HBB := hid (show Lx.isDig (s[pos]'hp) = false by rw [← Lx.dgI_byte]; exact Lx.dgI_high (by omega))
        clear hh ha
        go_wp2_with (first | (go_at_call 29; (with_reducible refine (lx_digit _ _).mono ?_); rw [HB.out]; rintro e w' ⟨rfl, rfl⟩))
        go_ret
        exact ⟨ret_int (by rw [runL_byte _ s pos hp0 hall.out (fun _ => HBB.out)]), iter_below _ _ _⟩
    · have hnx : ∀ ty, (Instr.next (.pointer (some ⟨w.heap.size, 0, none⟩)) true ty).run Tryd.prog (w.iter s pos) = _ := fun ty => run_next_end w s pos ty hp
      obtain rfl : pos = s.size := by omega
      go_wp2_with fail
      go_ret
      exact ⟨ret_int (by rw [runL_byte _ s s.size (Nat.le_refl _) hall.out (fun h => by omega)]), iter_below _ _ _⟩
end Go.Proofs.YtngbaghkjaibeaaDoor
