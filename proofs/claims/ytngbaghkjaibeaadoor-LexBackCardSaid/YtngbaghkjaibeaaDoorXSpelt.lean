/-
  THE WALK OF lex.spelt.
-/
import Derived.Test.YtngbaghkjaibeaaDoorXLex
import Derived.Test.YtngbaghkjaibeaaDoorXShelfI
import Derived.Test.YtngbaghkjaibeaaDoorXPlainD
import Derived.Lib.AppendIntMem
import Derived.Lib.SmallJoins
namespace Go.Proofs.YtngbaghkjaibeaaDoor
set_option linter.all false
open Go.ChangeShapes Go.WideShapes Go.ChangeAt Go.RowKit

theorem app_list (a b : ByteArray) : (a ++ b).data.toList = a.data.toList ++ b.data.toList := by rw [ByteArray.data_append, Array.toList_append]
def TabW (w : World) : Prop := Lib.TabIs Tryd.prog w "internal/strconv.uint64pow10" .u64 Lib.pow10Tab
theorem TabW.up {w w' : World} (h : TabW w) (hb : Below w.heap.size w w') : TabW w' := (Lib.tabBelow_of_tabIs h) w' hb
theorem lx_Itoa (n : Int) (h0 : -9223372036854775808 ≤ n) (h1 : n ≤ 9223372036854775807) (w : World) (hT : TabW w) : Calls Tryd.prog 40 #[.int .i64 n] w fun e w' => e = .returned (.string ⟨(Lib.itoa n).toArray⟩) ∧ Below w.heap.size w w' :=
  (Tryd.strconv_Itoa n h0 h1 w hT).mono fun e w' ⟨he, k, os, hw⟩ => ⟨he, by subst hw; exact Lib.below_grow _ w (Nat.le_refl _) k os⟩
theorem sp_cells {w1 : World} {g : Nat} {T : TypeId} {a b c d a' b' c' d' u : Value} (BR : Blk w1 g T #[a, b, c, d]) : let W := ((w1.alloc (.cells #[a', b', c', d'] T)).setCell ⟨g, 3, none⟩ u).drew
    W.cell? ⟨g, 0, none⟩ = some a ∧ W.cell? ⟨g, 1, none⟩ = some b ∧ W.cell? ⟨g, 2, none⟩ = some c ∧ W.cell? ⟨g, 3, none⟩ = some u ∧ W.cell? ⟨w1.heap.size, 0, none⟩ = some a' ∧ W.cell? ⟨w1.heap.size, 1, none⟩ = some b' ∧ W.cell? ⟨w1.heap.size, 2, none⟩ = some c' ∧ W.cell? ⟨w1.heap.size, 3, none⟩ = some d' := by
  have h1 := (((BR.alloc (.cells #[a', b', c', d'] T)).set_ 3 u).drew)
  have h2 := (((Blk.new w1 T #[a', b', c', d']).far (p := ⟨g, 3, none⟩) (by have := BR.lt; simp; omega) u).drew)
  exact ⟨h1.cell 0, h1.cell 1, h1.cell 2, h1.cell 3, h2.cell 0, h2.cell 1, h2.cell 2, h2.cell 3⟩
set_option maxRecDepth 100000 in
set_option maxHeartbeats 4000000 in
theorem eql_tok (a c b d : Int) (x y : ByteArray) (b1 b2 b3 : Bool) (h1 : (a == c) = b1) (h2 : (x.toList == y.toList) = b2) (h3 : (b == d) = b3) : ∀ w : World, (binOp .eql 32 (.agg #[.int .i64 a, .string x, .int .i64 b, .int .i64 0]) (.agg #[.int .i64 c, .string y, .int .i64 d, .int .i64 0])).run Tryd.prog w = .ok (.bool (b1 && b2 && b3)) w := by
  intro w
  have hu := Tryd.underlying32
  have hu3 := Tryd.underlying3
  have hu9 := Tryd.underlying9
  cases b1 <;> cases b2 <;> cases b3 <;>
  simp [go_sem, h1, h2, h3]
/-- What the comparison of two tokens without places tells. -/
def EqlT (kd n : Int) (tx : ByteArray) (kd2 v : Int) (ux : List UInt8) (b : Bool) : Prop := ∀ w : World, (binOp .eql 32 (.agg #[.int .i64 kd2, .string ⟨ux.toArray⟩, .int .i64 v, .int .i64 0]) (.agg #[.int .i64 kd, .string tx, .int .i64 n, .int .i64 0])).run Tryd.prog w = .ok (.bool b) w
theorem lx_ItoaX (n : Int) {X : ByteArray} (hX : (⟨(Lib.itoa n).toArray⟩ : ByteArray) = X) (h0 : -9223372036854775808 ≤ n ∧ n ≤ 9223372036854775807) (w : World) (hT : TabW w) : Calls Tryd.prog 40 #[.int .i64 n] w fun e w' => e = .returned (.string X) ∧ Below w.heap.size w w' := by
  subst hX
  exact lx_Itoa n h0.1 h0.2 w hT
set_option maxHeartbeats 8000000 in
set_option maxRecDepth 100000 in
theorem spelt_var_bad (tx S : ByteArray) (n p : Int) (w : World) (hE : ErrVars w) (hl : S.size ≤ 33) (hS : ⟨#[39]⟩ ++ tx = S) {er : Int} (her : (er == 0) = false) (ht : Lx.tokF S.data.toList = .bad er) :
    Calls Tryd.prog 19 #[.agg #[.int .i64 3, .string tx, .int .i64 n, .int .i64 p]] w fun e w' => e = .returned (.tuple #[.string S, .bool false]) ∧ Below w.heap.size w w' := by
  have HE := hid hE
  have HT := hid ht
  have hSz : ¬ (33 : Int) < S.size := by omega
  have hz : ¬ 9223372036854775807 < (⟨#[39]⟩ : ByteArray).size + tx.size := by rw [← ByteArray.size_append, hS]; omega
  have hne : S.data.toList ≠ [] := by rw [← hS, app_list]; simp
  have he : (S.toList == []) = false := by rw [list_data2]; simpa using hne
  have HM := hid (show S.size ≤ 281474976710656 ∧ S.data.toList ≠ [] from ⟨by omega, hne⟩)
  clear hE ht hne hl
  go_enter Tryd.func19, Tryd.ntmps19
  go_wp2_with (go_at_call 16; go_must (with_reducible refine (lx_token S _ (HE.out.up (alB w _)) HM.out.1 HM.out.2).mono ?_); rintro e w1 ⟨v, rfl, ht, b⟩; rw [HT.out] at ht; have BR := hid ((Blk.new w 32 #[.int .i64 3, .string tx, .int .i64 n, .int .i64 p]).below b (by simp)); have b9 := below_hop b (alB w _); clear b; (obtain ⟨k, rfl⟩ := ht; unfold tok0 tokV); obtain ⟨x0, x1, x2, x3, f0, f1, f2, f3⟩ := BR.out.cells4; have y0 := fun o => (BR.out.alloc o).cells4.1; have y1 := fun o => (BR.out.alloc o).cells4.2.1; have y2 := fun o => (BR.out.alloc o).cells4.2.2.1; have y3 := fun o => (BR.out.alloc o).cells4.2.2.2.1; have g0 := fun o => (BR.out.alloc o).frozen 0; have g1 := fun o => (BR.out.alloc o).frozen 1; have g2 := fun o => (BR.out.alloc o).frozen 2; have g3 := fun o => (BR.out.alloc o).frozen 3)
  go_quiet (fail)
  go_wp2_with fail
  exact bodyPost_ret (v := .tuple #[.string S, .bool false]) (by simp [results, Tryd.results19, go_sem]) rfl ⟨rfl, by have hz := b9.size; exact below_drewN ((b9.alloc hz _).setCell (p := ⟨w.heap.size, 3, none⟩) (Nat.le_refl _) _) _⟩
set_option maxHeartbeats 8000000 in
set_option maxRecDepth 100000 in
theorem spelt_var_off (tx S : ByteArray) (n p : Int) (w : World) (hE : ErrVars w) (hl : S.size ≤ 33) (hS : ⟨#[39]⟩ ++ tx = S) {kd2 v : Int} {ux : List UInt8} {len : Nat} (ht : Lx.tokF S.data.toList = .ok kd2 ux v len) (hlen : ¬ len = S.size) :
    Calls Tryd.prog 19 #[.agg #[.int .i64 3, .string tx, .int .i64 n, .int .i64 p]] w fun e w' => e = .returned (.tuple #[.string S, .bool false]) ∧ Below w.heap.size w w' := by
  have hln1 : ((len : Int) == (S.size : Int)) = false := by simp; omega
  have hln2 : decide ((len : Int) = (S.size : Int)) = false := by simp; omega
  clear hlen
  have HE := hid hE
  have HT := hid ht
  have hSz : ¬ (33 : Int) < S.size := by omega
  have hz : ¬ 9223372036854775807 < (⟨#[39]⟩ : ByteArray).size + tx.size := by rw [← ByteArray.size_append, hS]; omega
  have hne : S.data.toList ≠ [] := by rw [← hS, app_list]; simp
  have he : (S.toList == []) = false := by rw [list_data2]; simpa using hne
  have HM := hid (show S.size ≤ 281474976710656 ∧ S.data.toList ≠ [] from ⟨by omega, hne⟩)
  clear hE ht hne hl
  go_enter Tryd.func19, Tryd.ntmps19
  go_wp2_with (go_at_call 16; go_must (with_reducible refine (lx_token S _ (HE.out.up (alB w _)) HM.out.1 HM.out.2).mono ?_); rintro e w1 ⟨v, rfl, ht, b⟩; rw [HT.out] at ht; have BR := hid ((Blk.new w 32 #[.int .i64 3, .string tx, .int .i64 n, .int .i64 p]).below b (by simp)); have b9 := below_hop b (alB w _); clear b; (obtain rfl := ht; unfold tokV); obtain ⟨x0, x1, x2, x3, f0, f1, f2, f3⟩ := BR.out.cells4; have y0 := fun o => (BR.out.alloc o).cells4.1; have y1 := fun o => (BR.out.alloc o).cells4.2.1; have y2 := fun o => (BR.out.alloc o).cells4.2.2.1; have y3 := fun o => (BR.out.alloc o).cells4.2.2.2.1; have g0 := fun o => (BR.out.alloc o).frozen 0; have g1 := fun o => (BR.out.alloc o).frozen 1; have g2 := fun o => (BR.out.alloc o).frozen 2; have g3 := fun o => (BR.out.alloc o).frozen 3)
  go_quiet (fail)
  go_wp2_with fail
  exact bodyPost_ret (v := .tuple #[.string S, .bool false]) (by simp [results, Tryd.results19, go_sem]) rfl ⟨rfl, by have hz := b9.size; exact below_drewN ((b9.alloc hz _).setCell (p := ⟨w.heap.size, 3, none⟩) (Nat.le_refl _) _) _⟩
set_option maxHeartbeats 8000000 in
set_option maxRecDepth 100000 in
theorem spelt_var_ok (tx S : ByteArray) (n p : Int) (w : World) (hE : ErrVars w) (hl : S.size ≤ 33) (hS : ⟨#[39]⟩ ++ tx = S) {kd2 v : Int} {ux : List UInt8} (ht : Lx.tokF S.data.toList = .ok kd2 ux v S.size) (b : Bool) (hb0 : EqlT (3) n tx kd2 v ux b) :
    Calls Tryd.prog 19 #[.agg #[.int .i64 3, .string tx, .int .i64 n, .int .i64 p]] w fun e w' => e = .returned (.tuple #[.string S, .bool b]) ∧ Below w.heap.size w w' := by
  have hb : ∀ w : World, (binOp .eql 32 (.agg #[.int .i64 kd2, .string ⟨ux.toArray⟩, .int .i64 v, .int .i64 0]) (.agg #[.int .i64 3, .string tx, .int .i64 n, .int .i64 0])).run Tryd.prog w = .ok (.bool b) w := hb0
  clear hb0
  have HE := hid hE
  have HT := hid ht
  have hSz : ¬ (33 : Int) < S.size := by omega
  have hz : ¬ 9223372036854775807 < (⟨#[39]⟩ : ByteArray).size + tx.size := by rw [← ByteArray.size_append, hS]; omega
  have hne : S.data.toList ≠ [] := by rw [← hS, app_list]; simp
  have he : (S.toList == []) = false := by rw [list_data2]; simpa using hne
  have HM := hid (show S.size ≤ 281474976710656 ∧ S.data.toList ≠ [] from ⟨by omega, hne⟩)
  clear hE ht hne hl
  go_enter Tryd.func19, Tryd.ntmps19
  go_wp2_with (go_at_call 16; go_must (with_reducible refine (lx_token S _ (HE.out.up (alB w _)) HM.out.1 HM.out.2).mono ?_); rintro e w1 ⟨v, rfl, ht, b⟩; rw [HT.out] at ht; have BR := hid ((Blk.new w 32 #[.int .i64 3, .string tx, .int .i64 n, .int .i64 p]).below b (by simp)); have b9 := below_hop b (alB w _); clear b; (obtain rfl := ht; unfold tokV); obtain ⟨x0, x1, x2, x3, f0, f1, f2, f3⟩ := BR.out.cells4; have y0 := fun o => (BR.out.alloc o).cells4.1; have y1 := fun o => (BR.out.alloc o).cells4.2.1; have y2 := fun o => (BR.out.alloc o).cells4.2.2.1; have y3 := fun o => (BR.out.alloc o).cells4.2.2.2.1; have g0 := fun o => (BR.out.alloc o).frozen 0; have g1 := fun o => (BR.out.alloc o).frozen 1; have g2 := fun o => (BR.out.alloc o).frozen 2; have g3 := fun o => (BR.out.alloc o).frozen 3)
  go_region_held3 (fun w' => w'.cell? ⟨w.heap.size, 0, none⟩ = some (.int .i64 3) ∧ w'.cell? ⟨w.heap.size, 1, none⟩ = some (.string tx) ∧ w'.cell? ⟨w.heap.size, 2, none⟩ = some (.int .i64 n) ∧ w'.cell? ⟨w.heap.size, 3, none⟩ = some (.int .i64 0) ∧ w'.cell? ⟨w1.heap.size, 0, none⟩ = some (.int .i64 kd2) ∧ w'.cell? ⟨w1.heap.size, 1, none⟩ = some (.string ⟨ux.toArray⟩) ∧ w'.cell? ⟨w1.heap.size, 2, none⟩ = some (.int .i64 v) ∧ w'.cell? ⟨w1.heap.size, 3, none⟩ = some (.int .i64 0)) (first | with_reducible exact sp_cells BR.out | go_keep) (fail)
  all_goals
    go_wp2_with fail
    exact bodyPost_ret (v := .tuple #[.string S, .bool b]) (by simp [results, Tryd.results19, go_sem]) rfl ⟨rfl, by have hz := b9.size; exact below_drewN ((b9.alloc hz _).setCell (p := ⟨w.heap.size, 3, none⟩) (Nat.le_refl _) _) _⟩
set_option maxHeartbeats 8000000 in
set_option maxRecDepth 100000 in
theorem spelt_other_bad (S : ByteArray) (kd n p : Int) (w : World) (hE : ErrVars w) (hl : S.size ≤ 33) (hne : S.data.toList ≠ []) (hk3 : (kd == 3) = false) (hk4 : (kd == 4) = false) {er : Int} (her : (er == 0) = false) (ht : Lx.tokF S.data.toList = .bad er) :
    Calls Tryd.prog 19 #[.agg #[.int .i64 kd, .string S, .int .i64 n, .int .i64 p]] w fun e w' => e = .returned (.tuple #[.string S, .bool false]) ∧ Below w.heap.size w w' := by
  have HE := hid hE
  have HT := hid ht
  have hSz : ¬ (33 : Int) < S.size := by omega
  have he : (S.toList == []) = false := by rw [list_data2]; simpa using hne
  have HM := hid (show S.size ≤ 281474976710656 ∧ S.data.toList ≠ [] from ⟨by omega, hne⟩)
  clear hE ht hne hl
  go_enter Tryd.func19, Tryd.ntmps19
  go_wp2_with (go_at_call 16; go_must (with_reducible refine (lx_token S _ (HE.out.up (alB w _)) HM.out.1 HM.out.2).mono ?_); rintro e w1 ⟨v, rfl, ht, b⟩; rw [HT.out] at ht; have BR := hid ((Blk.new w 32 #[.int .i64 kd, .string S, .int .i64 n, .int .i64 p]).below b (by simp)); have b9 := below_hop b (alB w _); clear b; (obtain ⟨k, rfl⟩ := ht; unfold tok0 tokV); obtain ⟨x0, x1, x2, x3, f0, f1, f2, f3⟩ := BR.out.cells4; have y0 := fun o => (BR.out.alloc o).cells4.1; have y1 := fun o => (BR.out.alloc o).cells4.2.1; have y2 := fun o => (BR.out.alloc o).cells4.2.2.1; have y3 := fun o => (BR.out.alloc o).cells4.2.2.2.1; have g0 := fun o => (BR.out.alloc o).frozen 0; have g1 := fun o => (BR.out.alloc o).frozen 1; have g2 := fun o => (BR.out.alloc o).frozen 2; have g3 := fun o => (BR.out.alloc o).frozen 3)
  go_quiet (fail)
  go_wp2_with fail
  exact bodyPost_ret (v := .tuple #[.string S, .bool false]) (by simp [results, Tryd.results19, go_sem]) rfl ⟨rfl, by have hz := b9.size; exact below_drewN ((b9.alloc hz _).setCell (p := ⟨w.heap.size, 3, none⟩) (Nat.le_refl _) _) _⟩
set_option maxHeartbeats 8000000 in
set_option maxRecDepth 100000 in
theorem spelt_other_off (S : ByteArray) (kd n p : Int) (w : World) (hE : ErrVars w) (hl : S.size ≤ 33) (hne : S.data.toList ≠ []) (hk3 : (kd == 3) = false) (hk4 : (kd == 4) = false) {kd2 v : Int} {ux : List UInt8} {len : Nat} (ht : Lx.tokF S.data.toList = .ok kd2 ux v len) (hlen : ¬ len = S.size) :
    Calls Tryd.prog 19 #[.agg #[.int .i64 kd, .string S, .int .i64 n, .int .i64 p]] w fun e w' => e = .returned (.tuple #[.string S, .bool false]) ∧ Below w.heap.size w w' := by
  have hln1 : ((len : Int) == (S.size : Int)) = false := by simp; omega
  have hln2 : decide ((len : Int) = (S.size : Int)) = false := by simp; omega
  clear hlen
  have HE := hid hE
  have HT := hid ht
  have hSz : ¬ (33 : Int) < S.size := by omega
  have he : (S.toList == []) = false := by rw [list_data2]; simpa using hne
  have HM := hid (show S.size ≤ 281474976710656 ∧ S.data.toList ≠ [] from ⟨by omega, hne⟩)
  clear hE ht hne hl
  go_enter Tryd.func19, Tryd.ntmps19
  go_wp2_with (go_at_call 16; go_must (with_reducible refine (lx_token S _ (HE.out.up (alB w _)) HM.out.1 HM.out.2).mono ?_); rintro e w1 ⟨v, rfl, ht, b⟩; rw [HT.out] at ht; have BR := hid ((Blk.new w 32 #[.int .i64 kd, .string S, .int .i64 n, .int .i64 p]).below b (by simp)); have b9 := below_hop b (alB w _); clear b; (obtain rfl := ht; unfold tokV); obtain ⟨x0, x1, x2, x3, f0, f1, f2, f3⟩ := BR.out.cells4; have y0 := fun o => (BR.out.alloc o).cells4.1; have y1 := fun o => (BR.out.alloc o).cells4.2.1; have y2 := fun o => (BR.out.alloc o).cells4.2.2.1; have y3 := fun o => (BR.out.alloc o).cells4.2.2.2.1; have g0 := fun o => (BR.out.alloc o).frozen 0; have g1 := fun o => (BR.out.alloc o).frozen 1; have g2 := fun o => (BR.out.alloc o).frozen 2; have g3 := fun o => (BR.out.alloc o).frozen 3)
  go_quiet (fail)
  go_wp2_with fail
  exact bodyPost_ret (v := .tuple #[.string S, .bool false]) (by simp [results, Tryd.results19, go_sem]) rfl ⟨rfl, by have hz := b9.size; exact below_drewN ((b9.alloc hz _).setCell (p := ⟨w.heap.size, 3, none⟩) (Nat.le_refl _) _) _⟩
set_option maxHeartbeats 8000000 in
set_option maxRecDepth 100000 in
theorem spelt_other_ok (S : ByteArray) (kd n p : Int) (w : World) (hE : ErrVars w) (hl : S.size ≤ 33) (hne : S.data.toList ≠ []) (hk3 : (kd == 3) = false) (hk4 : (kd == 4) = false) {kd2 v : Int} {ux : List UInt8} (ht : Lx.tokF S.data.toList = .ok kd2 ux v S.size) (b : Bool) (hb0 : EqlT (kd) n S kd2 v ux b) :
    Calls Tryd.prog 19 #[.agg #[.int .i64 kd, .string S, .int .i64 n, .int .i64 p]] w fun e w' => e = .returned (.tuple #[.string S, .bool b]) ∧ Below w.heap.size w w' := by
  have hb : ∀ w : World, (binOp .eql 32 (.agg #[.int .i64 kd2, .string ⟨ux.toArray⟩, .int .i64 v, .int .i64 0]) (.agg #[.int .i64 kd, .string S, .int .i64 n, .int .i64 0])).run Tryd.prog w = .ok (.bool b) w := hb0
  clear hb0
  have HE := hid hE
  have HT := hid ht
  have hSz : ¬ (33 : Int) < S.size := by omega
  have he : (S.toList == []) = false := by rw [list_data2]; simpa using hne
  have HM := hid (show S.size ≤ 281474976710656 ∧ S.data.toList ≠ [] from ⟨by omega, hne⟩)
  clear hE ht hne hl
  go_enter Tryd.func19, Tryd.ntmps19
  go_wp2_with (go_at_call 16; go_must (with_reducible refine (lx_token S _ (HE.out.up (alB w _)) HM.out.1 HM.out.2).mono ?_); rintro e w1 ⟨v, rfl, ht, b⟩; rw [HT.out] at ht; have BR := hid ((Blk.new w 32 #[.int .i64 kd, .string S, .int .i64 n, .int .i64 p]).below b (by simp)); have b9 := below_hop b (alB w _); clear b; (obtain rfl := ht; unfold tokV); obtain ⟨x0, x1, x2, x3, f0, f1, f2, f3⟩ := BR.out.cells4; have y0 := fun o => (BR.out.alloc o).cells4.1; have y1 := fun o => (BR.out.alloc o).cells4.2.1; have y2 := fun o => (BR.out.alloc o).cells4.2.2.1; have y3 := fun o => (BR.out.alloc o).cells4.2.2.2.1; have g0 := fun o => (BR.out.alloc o).frozen 0; have g1 := fun o => (BR.out.alloc o).frozen 1; have g2 := fun o => (BR.out.alloc o).frozen 2; have g3 := fun o => (BR.out.alloc o).frozen 3)
  go_region_held3 (fun w' => w'.cell? ⟨w.heap.size, 0, none⟩ = some (.int .i64 kd) ∧ w'.cell? ⟨w.heap.size, 1, none⟩ = some (.string S) ∧ w'.cell? ⟨w.heap.size, 2, none⟩ = some (.int .i64 n) ∧ w'.cell? ⟨w.heap.size, 3, none⟩ = some (.int .i64 0) ∧ w'.cell? ⟨w1.heap.size, 0, none⟩ = some (.int .i64 kd2) ∧ w'.cell? ⟨w1.heap.size, 1, none⟩ = some (.string ⟨ux.toArray⟩) ∧ w'.cell? ⟨w1.heap.size, 2, none⟩ = some (.int .i64 v) ∧ w'.cell? ⟨w1.heap.size, 3, none⟩ = some (.int .i64 0)) (first | with_reducible exact sp_cells BR.out | go_keep) (fail)
  all_goals
    go_wp2_with fail
    exact bodyPost_ret (v := .tuple #[.string S, .bool b]) (by simp [results, Tryd.results19, go_sem]) rfl ⟨rfl, by have hz := b9.size; exact below_drewN ((b9.alloc hz _).setCell (p := ⟨w.heap.size, 3, none⟩) (Nat.le_refl _) _) _⟩
set_option maxHeartbeats 8000000 in
set_option maxRecDepth 100000 in
theorem spelt_neg_bad (tx S X : ByteArray) (n p : Int) (w : World) (hE : ErrVars w) (hTab : TabW w) (hl : S.size ≤ 33) (hX : (⟨(Lib.itoa n).toArray⟩ : ByteArray) = X) (hS : (⟨#[126]⟩ : ByteArray) ++ X.extract 1 X.size = S) (hx1 : 1 ≤ X.size) (hx2 : X.size ≤ 40) (hn : -9223372036854775808 ≤ n ∧ n ≤ 9223372036854775807) (hn0 : n < 0) {er : Int} (her : (er == 0) = false) (ht : Lx.tokF S.data.toList = .bad er) :
    Calls Tryd.prog 19 #[.agg #[.int .i64 4, .string tx, .int .i64 n, .int .i64 p]] w fun e w' => e = .returned (.tuple #[.string S, .bool false]) ∧ Below w.heap.size w w' := by
  have HE := hid hE
  have HT := hid ht
  have HX := hid hX
  have HN := hid hn
  have HTAB := hid hTab
  have hSz : ¬ (33 : Int) < S.size := by omega
  have hz : ¬ 9223372036854775807 < (⟨#[126]⟩ : ByteArray).size + (X.extract 1 X.size).size := by rw [← ByteArray.size_append, hS]; omega
  have hx3 : (1 : Int) ≤ X.size := by omega
  have hx4 : ¬ (X.size : Int) < 1 := by omega
  have hne : S.data.toList ≠ [] := by rw [← hS, app_list]; simp
  have he : (S.toList == []) = false := by rw [list_data2]; simpa using hne
  have HM := hid (show S.size ≤ 281474976710656 ∧ S.data.toList ≠ [] from ⟨by omega, hne⟩)
  clear hE ht hne hl hX hn hTab hx2
  go_enter Tryd.func19, Tryd.ntmps19
  go_wp2_with (first | (go_at_call 40; (with_reducible refine (lx_ItoaX n HX.out HN.out _ (HTAB.out.up (alB w _))).mono ?_); rintro e w0 ⟨rfl, b⟩; have BR := hid ((Blk.new w 32 #[.int .i64 4, .string tx, .int .i64 n, .int .i64 p]).below b (by simp)); have b9 := below_hop b (alB w _); clear b; have c2 := BR.out.cells4.2.2.1) | (go_at_call 16; go_must (with_reducible refine (lx_token S _ (HE.out.up b9) HM.out.1 HM.out.2).mono ?_); rintro e w1 ⟨v, rfl, ht, b⟩; rw [HT.out] at ht; have BR2 := hid (BR.out.up2 b); clear BR; have BR := BR2; clear BR2; have b8 := below_hop b b9; clear b b9; have b9 := b8; clear b8; (obtain ⟨k, rfl⟩ := ht; unfold tok0 tokV); obtain ⟨x0, x1, x2, x3, f0, f1, f2, f3⟩ := BR.out.cells4; have y0 := fun o => (BR.out.alloc o).cells4.1; have y1 := fun o => (BR.out.alloc o).cells4.2.1; have y2 := fun o => (BR.out.alloc o).cells4.2.2.1; have y3 := fun o => (BR.out.alloc o).cells4.2.2.2.1; have g0 := fun o => (BR.out.alloc o).frozen 0; have g1 := fun o => (BR.out.alloc o).frozen 1; have g2 := fun o => (BR.out.alloc o).frozen 2; have g3 := fun o => (BR.out.alloc o).frozen 3))
  go_quiet (fail)
  go_wp2_with fail
  exact bodyPost_ret (v := .tuple #[.string S, .bool false]) (by simp [results, Tryd.results19, go_sem]) rfl ⟨rfl, by have hz := b9.size; exact below_drewN ((b9.alloc hz _).setCell (p := ⟨w.heap.size, 3, none⟩) (Nat.le_refl _) _) _⟩
set_option maxHeartbeats 8000000 in
set_option maxRecDepth 100000 in
theorem spelt_neg_off (tx S X : ByteArray) (n p : Int) (w : World) (hE : ErrVars w) (hTab : TabW w) (hl : S.size ≤ 33) (hX : (⟨(Lib.itoa n).toArray⟩ : ByteArray) = X) (hS : (⟨#[126]⟩ : ByteArray) ++ X.extract 1 X.size = S) (hx1 : 1 ≤ X.size) (hx2 : X.size ≤ 40) (hn : -9223372036854775808 ≤ n ∧ n ≤ 9223372036854775807) (hn0 : n < 0) {kd2 v : Int} {ux : List UInt8} {len : Nat} (ht : Lx.tokF S.data.toList = .ok kd2 ux v len) (hlen : ¬ len = S.size) :
    Calls Tryd.prog 19 #[.agg #[.int .i64 4, .string tx, .int .i64 n, .int .i64 p]] w fun e w' => e = .returned (.tuple #[.string S, .bool false]) ∧ Below w.heap.size w w' := by
  have hln1 : ((len : Int) == (S.size : Int)) = false := by simp; omega
  have hln2 : decide ((len : Int) = (S.size : Int)) = false := by simp; omega
  clear hlen
  have HE := hid hE
  have HT := hid ht
  have HX := hid hX
  have HN := hid hn
  have HTAB := hid hTab
  have hSz : ¬ (33 : Int) < S.size := by omega
  have hz : ¬ 9223372036854775807 < (⟨#[126]⟩ : ByteArray).size + (X.extract 1 X.size).size := by rw [← ByteArray.size_append, hS]; omega
  have hx3 : (1 : Int) ≤ X.size := by omega
  have hx4 : ¬ (X.size : Int) < 1 := by omega
  have hne : S.data.toList ≠ [] := by rw [← hS, app_list]; simp
  have he : (S.toList == []) = false := by rw [list_data2]; simpa using hne
  have HM := hid (show S.size ≤ 281474976710656 ∧ S.data.toList ≠ [] from ⟨by omega, hne⟩)
  clear hE ht hne hl hX hn hTab hx2
  go_enter Tryd.func19, Tryd.ntmps19
  go_wp2_with (first | (go_at_call 40; (with_reducible refine (lx_ItoaX n HX.out HN.out _ (HTAB.out.up (alB w _))).mono ?_); rintro e w0 ⟨rfl, b⟩; have BR := hid ((Blk.new w 32 #[.int .i64 4, .string tx, .int .i64 n, .int .i64 p]).below b (by simp)); have b9 := below_hop b (alB w _); clear b; have c2 := BR.out.cells4.2.2.1) | (go_at_call 16; go_must (with_reducible refine (lx_token S _ (HE.out.up b9) HM.out.1 HM.out.2).mono ?_); rintro e w1 ⟨v, rfl, ht, b⟩; rw [HT.out] at ht; have BR2 := hid (BR.out.up2 b); clear BR; have BR := BR2; clear BR2; have b8 := below_hop b b9; clear b b9; have b9 := b8; clear b8; (obtain rfl := ht; unfold tokV); obtain ⟨x0, x1, x2, x3, f0, f1, f2, f3⟩ := BR.out.cells4; have y0 := fun o => (BR.out.alloc o).cells4.1; have y1 := fun o => (BR.out.alloc o).cells4.2.1; have y2 := fun o => (BR.out.alloc o).cells4.2.2.1; have y3 := fun o => (BR.out.alloc o).cells4.2.2.2.1; have g0 := fun o => (BR.out.alloc o).frozen 0; have g1 := fun o => (BR.out.alloc o).frozen 1; have g2 := fun o => (BR.out.alloc o).frozen 2; have g3 := fun o => (BR.out.alloc o).frozen 3))
  go_quiet (fail)
  go_wp2_with fail
  exact bodyPost_ret (v := .tuple #[.string S, .bool false]) (by simp [results, Tryd.results19, go_sem]) rfl ⟨rfl, by have hz := b9.size; exact below_drewN ((b9.alloc hz _).setCell (p := ⟨w.heap.size, 3, none⟩) (Nat.le_refl _) _) _⟩
set_option maxHeartbeats 8000000 in
set_option maxRecDepth 100000 in
theorem spelt_neg_ok (tx S X : ByteArray) (n p : Int) (w : World) (hE : ErrVars w) (hTab : TabW w) (hl : S.size ≤ 33) (hX : (⟨(Lib.itoa n).toArray⟩ : ByteArray) = X) (hS : (⟨#[126]⟩ : ByteArray) ++ X.extract 1 X.size = S) (hx1 : 1 ≤ X.size) (hx2 : X.size ≤ 40) (hn : -9223372036854775808 ≤ n ∧ n ≤ 9223372036854775807) (hn0 : n < 0) {kd2 v : Int} {ux : List UInt8} (ht : Lx.tokF S.data.toList = .ok kd2 ux v S.size) (b : Bool) (hb0 : EqlT (4) n tx kd2 v ux b) :
    Calls Tryd.prog 19 #[.agg #[.int .i64 4, .string tx, .int .i64 n, .int .i64 p]] w fun e w' => e = .returned (.tuple #[.string S, .bool b]) ∧ Below w.heap.size w w' := by
  have hb : ∀ w : World, (binOp .eql 32 (.agg #[.int .i64 kd2, .string ⟨ux.toArray⟩, .int .i64 v, .int .i64 0]) (.agg #[.int .i64 4, .string tx, .int .i64 n, .int .i64 0])).run Tryd.prog w = .ok (.bool b) w := hb0
  clear hb0
  have HE := hid hE
  have HT := hid ht
  have HX := hid hX
  have HN := hid hn
  have HTAB := hid hTab
  have hSz : ¬ (33 : Int) < S.size := by omega
  have hz : ¬ 9223372036854775807 < (⟨#[126]⟩ : ByteArray).size + (X.extract 1 X.size).size := by rw [← ByteArray.size_append, hS]; omega
  have hx3 : (1 : Int) ≤ X.size := by omega
  have hx4 : ¬ (X.size : Int) < 1 := by omega
  have hne : S.data.toList ≠ [] := by rw [← hS, app_list]; simp
  have he : (S.toList == []) = false := by rw [list_data2]; simpa using hne
  have HM := hid (show S.size ≤ 281474976710656 ∧ S.data.toList ≠ [] from ⟨by omega, hne⟩)
  clear hE ht hne hl hX hn hTab hx2
  go_enter Tryd.func19, Tryd.ntmps19
  go_wp2_with (first | (go_at_call 40; (with_reducible refine (lx_ItoaX n HX.out HN.out _ (HTAB.out.up (alB w _))).mono ?_); rintro e w0 ⟨rfl, b⟩; have BR := hid ((Blk.new w 32 #[.int .i64 4, .string tx, .int .i64 n, .int .i64 p]).below b (by simp)); have b9 := below_hop b (alB w _); clear b; have c2 := BR.out.cells4.2.2.1) | (go_at_call 16; go_must (with_reducible refine (lx_token S _ (HE.out.up b9) HM.out.1 HM.out.2).mono ?_); rintro e w1 ⟨v, rfl, ht, b⟩; rw [HT.out] at ht; have BR2 := hid (BR.out.up2 b); clear BR; have BR := BR2; clear BR2; have b8 := below_hop b b9; clear b b9; have b9 := b8; clear b8; (obtain rfl := ht; unfold tokV); obtain ⟨x0, x1, x2, x3, f0, f1, f2, f3⟩ := BR.out.cells4; have y0 := fun o => (BR.out.alloc o).cells4.1; have y1 := fun o => (BR.out.alloc o).cells4.2.1; have y2 := fun o => (BR.out.alloc o).cells4.2.2.1; have y3 := fun o => (BR.out.alloc o).cells4.2.2.2.1; have g0 := fun o => (BR.out.alloc o).frozen 0; have g1 := fun o => (BR.out.alloc o).frozen 1; have g2 := fun o => (BR.out.alloc o).frozen 2; have g3 := fun o => (BR.out.alloc o).frozen 3))
  go_region_held3 (fun w' => w'.cell? ⟨w.heap.size, 0, none⟩ = some (.int .i64 4) ∧ w'.cell? ⟨w.heap.size, 1, none⟩ = some (.string tx) ∧ w'.cell? ⟨w.heap.size, 2, none⟩ = some (.int .i64 n) ∧ w'.cell? ⟨w.heap.size, 3, none⟩ = some (.int .i64 0) ∧ w'.cell? ⟨w1.heap.size, 0, none⟩ = some (.int .i64 kd2) ∧ w'.cell? ⟨w1.heap.size, 1, none⟩ = some (.string ⟨ux.toArray⟩) ∧ w'.cell? ⟨w1.heap.size, 2, none⟩ = some (.int .i64 v) ∧ w'.cell? ⟨w1.heap.size, 3, none⟩ = some (.int .i64 0)) (first | with_reducible exact sp_cells BR.out | go_keep) (fail)
  all_goals
    go_wp2_with fail
    exact bodyPost_ret (v := .tuple #[.string S, .bool b]) (by simp [results, Tryd.results19, go_sem]) rfl ⟨rfl, by have hz := b9.size; exact below_drewN ((b9.alloc hz _).setCell (p := ⟨w.heap.size, 3, none⟩) (Nat.le_refl _) _) _⟩
set_option maxHeartbeats 8000000 in
set_option maxRecDepth 100000 in
theorem spelt_pos_bad (tx S : ByteArray) (n p : Int) (w : World) (hE : ErrVars w) (hTab : TabW w) (hl : S.size ≤ 33) (hX : (⟨(Lib.itoa n).toArray⟩ : ByteArray) = S) (hne : S.data.toList ≠ []) (hn : -9223372036854775808 ≤ n ∧ n ≤ 9223372036854775807) (hn0 : ¬ n < 0) {er : Int} (her : (er == 0) = false) (ht : Lx.tokF S.data.toList = .bad er) :
    Calls Tryd.prog 19 #[.agg #[.int .i64 4, .string tx, .int .i64 n, .int .i64 p]] w fun e w' => e = .returned (.tuple #[.string S, .bool false]) ∧ Below w.heap.size w w' := by
  have HE := hid hE
  have HT := hid ht
  have HX := hid hX
  have HN := hid hn
  have HTAB := hid hTab
  have hSz : ¬ (33 : Int) < S.size := by omega
  have he : (S.toList == []) = false := by rw [list_data2]; simpa using hne
  have HM := hid (show S.size ≤ 281474976710656 ∧ S.data.toList ≠ [] from ⟨by omega, hne⟩)
  clear hE ht hne hl hX hn hTab
  go_enter Tryd.func19, Tryd.ntmps19
  go_wp2_with (first | (go_at_call 40; (with_reducible refine (lx_ItoaX n HX.out HN.out _ (HTAB.out.up (alB w _))).mono ?_); rintro e w0 ⟨rfl, b⟩; have BR := hid ((Blk.new w 32 #[.int .i64 4, .string tx, .int .i64 n, .int .i64 p]).below b (by simp)); have b9 := below_hop b (alB w _); clear b; have c2 := BR.out.cells4.2.2.1) | (go_at_call 16; go_must (with_reducible refine (lx_token S _ (HE.out.up b9) HM.out.1 HM.out.2).mono ?_); rintro e w1 ⟨v, rfl, ht, b⟩; rw [HT.out] at ht; have BR2 := hid (BR.out.up2 b); clear BR; have BR := BR2; clear BR2; have b8 := below_hop b b9; clear b b9; have b9 := b8; clear b8; (obtain ⟨k, rfl⟩ := ht; unfold tok0 tokV); obtain ⟨x0, x1, x2, x3, f0, f1, f2, f3⟩ := BR.out.cells4; have y0 := fun o => (BR.out.alloc o).cells4.1; have y1 := fun o => (BR.out.alloc o).cells4.2.1; have y2 := fun o => (BR.out.alloc o).cells4.2.2.1; have y3 := fun o => (BR.out.alloc o).cells4.2.2.2.1; have g0 := fun o => (BR.out.alloc o).frozen 0; have g1 := fun o => (BR.out.alloc o).frozen 1; have g2 := fun o => (BR.out.alloc o).frozen 2; have g3 := fun o => (BR.out.alloc o).frozen 3))
  go_quiet (fail)
  go_wp2_with fail
  exact bodyPost_ret (v := .tuple #[.string S, .bool false]) (by simp [results, Tryd.results19, go_sem]) rfl ⟨rfl, by have hz := b9.size; exact below_drewN ((b9.alloc hz _).setCell (p := ⟨w.heap.size, 3, none⟩) (Nat.le_refl _) _) _⟩
set_option maxHeartbeats 8000000 in
set_option maxRecDepth 100000 in
theorem spelt_pos_off (tx S : ByteArray) (n p : Int) (w : World) (hE : ErrVars w) (hTab : TabW w) (hl : S.size ≤ 33) (hX : (⟨(Lib.itoa n).toArray⟩ : ByteArray) = S) (hne : S.data.toList ≠ []) (hn : -9223372036854775808 ≤ n ∧ n ≤ 9223372036854775807) (hn0 : ¬ n < 0) {kd2 v : Int} {ux : List UInt8} {len : Nat} (ht : Lx.tokF S.data.toList = .ok kd2 ux v len) (hlen : ¬ len = S.size) :
    Calls Tryd.prog 19 #[.agg #[.int .i64 4, .string tx, .int .i64 n, .int .i64 p]] w fun e w' => e = .returned (.tuple #[.string S, .bool false]) ∧ Below w.heap.size w w' := by
  have hln1 : ((len : Int) == (S.size : Int)) = false := by simp; omega
  have hln2 : decide ((len : Int) = (S.size : Int)) = false := by simp; omega
  clear hlen
  have HE := hid hE
  have HT := hid ht
  have HX := hid hX
  have HN := hid hn
  have HTAB := hid hTab
  have hSz : ¬ (33 : Int) < S.size := by omega
  have he : (S.toList == []) = false := by rw [list_data2]; simpa using hne
  have HM := hid (show S.size ≤ 281474976710656 ∧ S.data.toList ≠ [] from ⟨by omega, hne⟩)
  clear hE ht hne hl hX hn hTab
  go_enter Tryd.func19, Tryd.ntmps19
  go_wp2_with (first | (go_at_call 40; (with_reducible refine (lx_ItoaX n HX.out HN.out _ (HTAB.out.up (alB w _))).mono ?_); rintro e w0 ⟨rfl, b⟩; have BR := hid ((Blk.new w 32 #[.int .i64 4, .string tx, .int .i64 n, .int .i64 p]).below b (by simp)); have b9 := below_hop b (alB w _); clear b; have c2 := BR.out.cells4.2.2.1) | (go_at_call 16; go_must (with_reducible refine (lx_token S _ (HE.out.up b9) HM.out.1 HM.out.2).mono ?_); rintro e w1 ⟨v, rfl, ht, b⟩; rw [HT.out] at ht; have BR2 := hid (BR.out.up2 b); clear BR; have BR := BR2; clear BR2; have b8 := below_hop b b9; clear b b9; have b9 := b8; clear b8; (obtain rfl := ht; unfold tokV); obtain ⟨x0, x1, x2, x3, f0, f1, f2, f3⟩ := BR.out.cells4; have y0 := fun o => (BR.out.alloc o).cells4.1; have y1 := fun o => (BR.out.alloc o).cells4.2.1; have y2 := fun o => (BR.out.alloc o).cells4.2.2.1; have y3 := fun o => (BR.out.alloc o).cells4.2.2.2.1; have g0 := fun o => (BR.out.alloc o).frozen 0; have g1 := fun o => (BR.out.alloc o).frozen 1; have g2 := fun o => (BR.out.alloc o).frozen 2; have g3 := fun o => (BR.out.alloc o).frozen 3))
  go_quiet (fail)
  go_wp2_with fail
  exact bodyPost_ret (v := .tuple #[.string S, .bool false]) (by simp [results, Tryd.results19, go_sem]) rfl ⟨rfl, by have hz := b9.size; exact below_drewN ((b9.alloc hz _).setCell (p := ⟨w.heap.size, 3, none⟩) (Nat.le_refl _) _) _⟩
set_option maxHeartbeats 8000000 in
set_option maxRecDepth 100000 in
theorem spelt_pos_ok (tx S : ByteArray) (n p : Int) (w : World) (hE : ErrVars w) (hTab : TabW w) (hl : S.size ≤ 33) (hX : (⟨(Lib.itoa n).toArray⟩ : ByteArray) = S) (hne : S.data.toList ≠ []) (hn : -9223372036854775808 ≤ n ∧ n ≤ 9223372036854775807) (hn0 : ¬ n < 0) {kd2 v : Int} {ux : List UInt8} (ht : Lx.tokF S.data.toList = .ok kd2 ux v S.size) (b : Bool) (hb0 : EqlT (4) n tx kd2 v ux b) :
    Calls Tryd.prog 19 #[.agg #[.int .i64 4, .string tx, .int .i64 n, .int .i64 p]] w fun e w' => e = .returned (.tuple #[.string S, .bool b]) ∧ Below w.heap.size w w' := by
  have hb : ∀ w : World, (binOp .eql 32 (.agg #[.int .i64 kd2, .string ⟨ux.toArray⟩, .int .i64 v, .int .i64 0]) (.agg #[.int .i64 4, .string tx, .int .i64 n, .int .i64 0])).run Tryd.prog w = .ok (.bool b) w := hb0
  clear hb0
  have HE := hid hE
  have HT := hid ht
  have HX := hid hX
  have HN := hid hn
  have HTAB := hid hTab
  have hSz : ¬ (33 : Int) < S.size := by omega
  have he : (S.toList == []) = false := by rw [list_data2]; simpa using hne
  have HM := hid (show S.size ≤ 281474976710656 ∧ S.data.toList ≠ [] from ⟨by omega, hne⟩)
  clear hE ht hne hl hX hn hTab
  go_enter Tryd.func19, Tryd.ntmps19
  go_wp2_with (first | (go_at_call 40; (with_reducible refine (lx_ItoaX n HX.out HN.out _ (HTAB.out.up (alB w _))).mono ?_); rintro e w0 ⟨rfl, b⟩; have BR := hid ((Blk.new w 32 #[.int .i64 4, .string tx, .int .i64 n, .int .i64 p]).below b (by simp)); have b9 := below_hop b (alB w _); clear b; have c2 := BR.out.cells4.2.2.1) | (go_at_call 16; go_must (with_reducible refine (lx_token S _ (HE.out.up b9) HM.out.1 HM.out.2).mono ?_); rintro e w1 ⟨v, rfl, ht, b⟩; rw [HT.out] at ht; have BR2 := hid (BR.out.up2 b); clear BR; have BR := BR2; clear BR2; have b8 := below_hop b b9; clear b b9; have b9 := b8; clear b8; (obtain rfl := ht; unfold tokV); obtain ⟨x0, x1, x2, x3, f0, f1, f2, f3⟩ := BR.out.cells4; have y0 := fun o => (BR.out.alloc o).cells4.1; have y1 := fun o => (BR.out.alloc o).cells4.2.1; have y2 := fun o => (BR.out.alloc o).cells4.2.2.1; have y3 := fun o => (BR.out.alloc o).cells4.2.2.2.1; have g0 := fun o => (BR.out.alloc o).frozen 0; have g1 := fun o => (BR.out.alloc o).frozen 1; have g2 := fun o => (BR.out.alloc o).frozen 2; have g3 := fun o => (BR.out.alloc o).frozen 3))
  go_region_held3 (fun w' => w'.cell? ⟨w.heap.size, 0, none⟩ = some (.int .i64 4) ∧ w'.cell? ⟨w.heap.size, 1, none⟩ = some (.string tx) ∧ w'.cell? ⟨w.heap.size, 2, none⟩ = some (.int .i64 n) ∧ w'.cell? ⟨w.heap.size, 3, none⟩ = some (.int .i64 0) ∧ w'.cell? ⟨w1.heap.size, 0, none⟩ = some (.int .i64 kd2) ∧ w'.cell? ⟨w1.heap.size, 1, none⟩ = some (.string ⟨ux.toArray⟩) ∧ w'.cell? ⟨w1.heap.size, 2, none⟩ = some (.int .i64 v) ∧ w'.cell? ⟨w1.heap.size, 3, none⟩ = some (.int .i64 0)) (first | with_reducible exact sp_cells BR.out | go_keep) (fail)
  all_goals
    go_wp2_with fail
    exact bodyPost_ret (v := .tuple #[.string S, .bool b]) (by simp [results, Tryd.results19, go_sem]) rfl ⟨rfl, by have hz := b9.size; exact below_drewN ((b9.alloc hz _).setCell (p := ⟨w.heap.size, 3, none⟩) (Nat.le_refl _) _) _⟩
end Go.Proofs.YtngbaghkjaibeaaDoor
