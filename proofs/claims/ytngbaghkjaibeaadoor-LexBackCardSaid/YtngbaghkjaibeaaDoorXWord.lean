/-
  THE WALKS OF lex.key, word.
-/
import Derived.Test.YtngbaghkjaibeaaDoorXChar
namespace Go.Proofs.YtngbaghkjaibeaaDoor
set_option linter.all false
open Go.ChangeShapes Go.WideShapes Go.ChangeAt Go.RowKit

theorem list_data2 (s : ByteArray) : s.toList = s.data.toList := by rw [ByteArray.toList_eq]
def tokV (kind : Int) (t : ByteArray) (n pos : Int) : Value := .agg #[.int .i64 kind, .string t, .int .i64 n, .int .i64 pos]
set_option maxHeartbeats 4000000 in
set_option maxRecDepth 100000 in
theorem lx_key (s : ByteArray) (w : World) : Calls Tryd.prog 47 #[.string s] w fun e w' => e = .returned (.bool (Lx.isKey s.data.toList)) ∧ w = w' := by
  have hs : ∃ b, Lx.isKey s.data.toList = b := ⟨_, rfl⟩
  obtain ⟨b, hb⟩ := hs
  have HB := hid hb
  rw [hb]
  clear hb
  go_enter Tryd.func47, Tryd.ntmps47
  go_wp2
  all_goals
    go_ret
    refine ⟨ret_bool ?_, rfl⟩
    have hb := HB.out
    clear HB
    rw [← hb]
    simp_all [Lx.isKey, Lx.keysL, list_data2]
def tok0 : Value := tokV 0 ⟨#[]⟩ 0 0
set_option maxHeartbeats 2000000 in
theorem lx_word_long (kd : Int) (s : ByteArray) (w : World) (h : 32 < s.size) : Calls Tryd.prog 27 #[.int .i64 kd, .string s] w fun e w' => e = .returned (.tuple #[tok0, .int .i64 2]) ∧ Below w.heap.size w w' := by
  go_enter Tryd.func27, Tryd.ntmps27
  go_wp2_with fail
  exact bodyPost_ret (v := .tuple #[tok0, .int .i64 2]) (by simp [results, Tryd.results27, go_sem, tok0, tokV]) rfl ⟨rfl, (Below.refl _ _).alloc (Nat.le_refl _) _⟩
set_option maxHeartbeats 2000000 in
theorem lx_word_short (kd : Int) (s : ByteArray) (w : World) (h : s.size ≤ 32) : Calls Tryd.prog 27 #[.int .i64 kd, .string s] w fun e w' => e = .returned (.tuple #[tokV (if kd = 1 ∧ Lx.isKey s.data.toList = true then 5 else kd) s 0 0, .int .i64 0]) ∧ Below w.heap.size w w' := by
  by_cases hk : kd = 1
  · subst hk
    obtain ⟨b, hb⟩ : ∃ b, Lx.isKey s.data.toList = b := ⟨_, rfl⟩
    have HB := hid hb
    rw [hb]
    clear hb
    cases b
    · go_enter Tryd.func27, Tryd.ntmps27
      go_wp2_with (go_at_call 47; (with_reducible refine (lx_key _ _).mono ?_); rw [HB.out]; rintro e w' ⟨rfl, rfl⟩)
      exact bodyPost_ret (v := .tuple #[tokV 1 s 0 0, .int .i64 0]) (by simp [results, Tryd.results27, go_sem, tokV]) rfl ⟨rfl, (Below.refl _ _).alloc (Nat.le_refl _) _⟩
    · go_enter Tryd.func27, Tryd.ntmps27
      go_wp2_with (go_at_call 47; (with_reducible refine (lx_key _ _).mono ?_); rw [HB.out]; rintro e w' ⟨rfl, rfl⟩)
      exact bodyPost_ret (v := .tuple #[tokV 5 s 0 0, .int .i64 0]) (by simp [results, Tryd.results27, go_sem, tokV]) rfl ⟨rfl, (Below.refl _ _).alloc (Nat.le_refl _) _⟩
  · rw [if_neg (fun h => hk h.1)]
    have hq : (kd == 1) = false := by simpa using hk
    have HK := hid hk
    clear hk
    go_enter Tryd.func27, Tryd.ntmps27
    go_wp2_with fail
    exact bodyPost_ret (v := .tuple #[tokV kd s 0 0, .int .i64 0]) (by simp [results, Tryd.results27, go_sem, tokV]) rfl ⟨rfl, (Below.refl _ _).alloc (Nat.le_refl _) _⟩
end Go.Proofs.YtngbaghkjaibeaaDoor
