/-
  THE WALK OF lex.token.
-/
import Derived.Test.YtngbaghkjaibeaaDoorXNum
namespace Go.Proofs.YtngbaghkjaibeaaDoor
set_option linter.all false
open Go.ChangeShapes Go.WideShapes Go.ChangeAt Go.RowKit

def TokR (r : Lx.TR) (v : Value) : Prop :=
  match r with
  | .ok kd tx n len => v = .tuple #[tokV kd ⟨tx.toArray⟩ n 0, .int .i64 len, .int .i64 0]
  | .bad er => ∃ k : Int, v = .tuple #[tok0, .int .i64 k, .int .i64 er]
def TokP (r : Lx.TR) (w : World) (e : Ending) (w' : World) : Prop := ∃ v, e = .returned v ∧ TokR r v ∧ Below w.heap.size w w'
theorem ext_list (s : ByteArray) (a b : Nat) : (s.extract a b).data.toList = (s.data.toList.take b).drop a := by
  rw [ByteArray.data_extract, Array.toList_extract, List.extract_eq_drop_take', List.drop_take]
theorem wrap32_byte (b : UInt8) : wrap32 (b.toNat : Int) = b.toNat := by have := b.toNat_lt; unfold wrap32; omega
/-- What word hands back. -/
def WordC (kd : Int) (s : ByteArray) (q : Int) (tx : ByteArray) (er : Int) : Prop := ∀ w, Calls Tryd.prog 27 #[.int .i64 kd, .string s] w fun e w' => e = .returned (.tuple #[.agg #[.int .i64 q, .string tx, .int .i64 0, .int .i64 0], .int .i64 er]) ∧ Below w.heap.size w w'
theorem WordC.at_ {kd : Int} {s : ByteArray} {q : Int} {tx : ByteArray} {er : Int} (h : WordC kd s q tx er) (w : World) : Calls Tryd.prog 27 #[.int .i64 kd, .string s] w fun e w' => e = .returned (.tuple #[.agg #[.int .i64 q, .string tx, .int .i64 0, .int .i64 0], .int .i64 er]) ∧ Below w.heap.size w w' := h w
set_option maxHeartbeats 4000000 in
set_option maxRecDepth 100000 in
theorem tok_small (s : ByteArray) (w : World) (hm : s.size ≤ 281474976710656) (h0 : 0 < s.size) (k : Nat) (hk : Lx.runL Lx.isPart (s.extract 1 s.size).data.toList = k) (hks : k < s.size) (hb1 : Lx.smI (wrap32 ((s[0]'h0).toNat : Int)) = true) {q : Int} {tx : ByteArray} {er : Int} (hw : WordC 1 (s.extract 0 (1 + k)) q tx er) :
    Calls Tryd.prog 16 #[.string s] w fun e w' => e = .returned (.tuple #[.agg #[.int .i64 q, .string tx, .int .i64 0, .int .i64 0], .int .i64 (1 + k : Int), .int .i64 er]) ∧ Below w.heap.size w w' := by
  have HK := hid hk
  have HZ := hid (show (s.extract 1 s.size).size ≤ 281474976710656 by simp; omega)
  have B1 := hid hb1
  have HW := hid hw
  clear hk hb1 hw
  go_enter Tryd.func16, Tryd.ntmps16
  go_wp2_with (first
    | (go_at_call 24; (with_reducible refine (lx_run_inside _ _ HZ.out).mono ?_); rw [HK.out]; rintro e w1 ⟨rfl, b⟩; have BR := hid ((Blk.new w 32 #[.int .i64 0, .string ⟨#[]⟩, .int .i64 0, .int .i64 0]).below b (by simp)); have b9 := below_hop b (alB w _); clear b)
    | (go_at_call 26; (with_reducible refine (lx_small _ _).mono ?_); rw [B1.out]; rintro e w' ⟨rfl, rfl⟩)
    | (go_at_call 27; (with_reducible refine (HW.out.at_ _).mono ?_); rintro e w2 ⟨rfl, b⟩; have BR2 := hid (BR.out.up2 b); clear BR; have BR := BR2; clear BR2; have b8 := below_hop b b9; clear b b9; have b9 := b8; clear b8; obtain ⟨x0, x1, x2, x3, f0, f1, f2, f3⟩ := BR.out.cells4; have y0 := fun o => (BR.out.alloc o).cells4.1; have y1 := fun o => (BR.out.alloc o).cells4.2.1; have y2 := fun o => (BR.out.alloc o).cells4.2.2.1; have y3 := fun o => (BR.out.alloc o).cells4.2.2.2.1; have g0 := fun o => (BR.out.alloc o).frozen 0; have g1 := fun o => (BR.out.alloc o).frozen 1; have g2 := fun o => (BR.out.alloc o).frozen 2; have g3 := fun o => (BR.out.alloc o).frozen 3))
  exact bodyPost_ret (v := .tuple #[.agg #[.int .i64 q, .string tx, .int .i64 0, .int .i64 0], .int .i64 (1 + k), .int .i64 er]) (by simp [results, Tryd.results16, go_sem, y0, y1, y2, y3]) rfl ⟨rfl, (by have hz := b9.size; go_grown)⟩
set_option maxHeartbeats 4000000 in
set_option maxRecDepth 100000 in
theorem tok_great (s : ByteArray) (w : World) (hm : s.size ≤ 281474976710656) (h0 : 0 < s.size) (k : Nat) (hk : Lx.runL Lx.isPart (s.extract 1 s.size).data.toList = k) (hks : k < s.size) (hb1 : Lx.smI (wrap32 ((s[0]'h0).toNat : Int)) = false) (hb2 : Lx.grI (wrap32 ((s[0]'h0).toNat : Int)) = true) {q : Int} {tx : ByteArray} {er : Int} (hw : WordC 2 (s.extract 0 (1 + k)) q tx er) :
    Calls Tryd.prog 16 #[.string s] w fun e w' => e = .returned (.tuple #[.agg #[.int .i64 q, .string tx, .int .i64 0, .int .i64 0], .int .i64 (1 + k : Int), .int .i64 er]) ∧ Below w.heap.size w w' := by
  have HK := hid hk
  have HZ := hid (show (s.extract 1 s.size).size ≤ 281474976710656 by simp; omega)
  have B1 := hid hb1
  have B2 := hid hb2
  have HW := hid hw
  clear hk hb1 hw hb2
  go_enter Tryd.func16, Tryd.ntmps16
  go_wp2_with (first
    | (go_at_call 24; (with_reducible refine (lx_run_inside _ _ HZ.out).mono ?_); rw [HK.out]; rintro e w1 ⟨rfl, b⟩; have BR := hid ((Blk.new w 32 #[.int .i64 0, .string ⟨#[]⟩, .int .i64 0, .int .i64 0]).below b (by simp)); have b9 := below_hop b (alB w _); clear b)
    | (go_at_call 26; (with_reducible refine (lx_small _ _).mono ?_); rw [B1.out]; rintro e w' ⟨rfl, rfl⟩)
    | (go_at_call 28; (with_reducible refine (lx_great _ _).mono ?_); rw [B2.out]; rintro e w' ⟨rfl, rfl⟩)
    | (go_at_call 27; (with_reducible refine (HW.out.at_ _).mono ?_); rintro e w2 ⟨rfl, b⟩; have BR2 := hid (BR.out.up2 b); clear BR; have BR := BR2; clear BR2; have b8 := below_hop b b9; clear b b9; have b9 := b8; clear b8; obtain ⟨x0, x1, x2, x3, f0, f1, f2, f3⟩ := BR.out.cells4; have y0 := fun o => (BR.out.alloc o).cells4.1; have y1 := fun o => (BR.out.alloc o).cells4.2.1; have y2 := fun o => (BR.out.alloc o).cells4.2.2.1; have y3 := fun o => (BR.out.alloc o).cells4.2.2.2.1; have g0 := fun o => (BR.out.alloc o).frozen 0; have g1 := fun o => (BR.out.alloc o).frozen 1; have g2 := fun o => (BR.out.alloc o).frozen 2; have g3 := fun o => (BR.out.alloc o).frozen 3))
  exact bodyPost_ret (v := .tuple #[.agg #[.int .i64 q, .string tx, .int .i64 0, .int .i64 0], .int .i64 (1 + k), .int .i64 er]) (by simp [results, Tryd.results16, go_sem, y0, y1, y2, y3]) rfl ⟨rfl, (by have hz := b9.size; go_grown)⟩
set_option maxHeartbeats 4000000 in
set_option maxRecDepth 100000 in
theorem tok_quote (s : ByteArray) (w : World) (hm : s.size ≤ 281474976710656) (h0 : 0 < s.size) (k : Nat) (hk : Lx.runL Lx.isPart (s.extract 1 s.size).data.toList = k) (hks : k < s.size) (hb1 : Lx.smI (wrap32 ((s[0]'h0).toNat : Int)) = false) (hb2 : Lx.grI (wrap32 ((s[0]'h0).toNat : Int)) = false) (hq : (wrap32 ((s[0]'h0).toNat : Int) == 39) = true) (hk0 : 0 < k) (h1 : 1 < s.size) (hb3 : Lx.smI (wrap32 ((s[1]'h1).toNat : Int)) = true) {q : Int} {tx : ByteArray} {er : Int} (hw : WordC 3 (s.extract 1 (1 + k)) q tx er) :
    Calls Tryd.prog 16 #[.string s] w fun e w' => e = .returned (.tuple #[.agg #[.int .i64 q, .string tx, .int .i64 0, .int .i64 0], .int .i64 (1 + k : Int), .int .i64 er]) ∧ Below w.heap.size w w' := by
  have HK := hid hk
  have HZ := hid (show (s.extract 1 s.size).size ≤ 281474976710656 by simp; omega)
  have B1 := hid hb1
  have B2 := hid hb2
  have B3 := hid hb3
  have HW := hid hw
  clear hk hb1 hw hb2 hb3
  have hk1 : 1 < 1 + (k : Int) := by omega
  go_enter Tryd.func16, Tryd.ntmps16
  go_wp2_with (first
    | (go_at_call 24; (with_reducible refine (lx_run_inside _ _ HZ.out).mono ?_); rw [HK.out]; rintro e w1 ⟨rfl, b⟩; have BR := hid ((Blk.new w 32 #[.int .i64 0, .string ⟨#[]⟩, .int .i64 0, .int .i64 0]).below b (by simp)); have b9 := below_hop b (alB w _); clear b)
    | (go_at_call 26; (with_reducible refine (lx_small _ _).mono ?_); (first | rw [B1.out] | rw [B3.out]); rintro e w' ⟨rfl, rfl⟩)
    | (go_at_call 28; (with_reducible refine (lx_great _ _).mono ?_); rw [B2.out]; rintro e w' ⟨rfl, rfl⟩)
    | (go_at_call 27; (with_reducible refine (HW.out.at_ _).mono ?_); rintro e w2 ⟨rfl, b⟩; have BR2 := hid (BR.out.up2 b); clear BR; have BR := BR2; clear BR2; have b8 := below_hop b b9; clear b b9; have b9 := b8; clear b8; obtain ⟨x0, x1, x2, x3, f0, f1, f2, f3⟩ := BR.out.cells4; have y0 := fun o => (BR.out.alloc o).cells4.1; have y1 := fun o => (BR.out.alloc o).cells4.2.1; have y2 := fun o => (BR.out.alloc o).cells4.2.2.1; have y3 := fun o => (BR.out.alloc o).cells4.2.2.2.1; have g0 := fun o => (BR.out.alloc o).frozen 0; have g1 := fun o => (BR.out.alloc o).frozen 1; have g2 := fun o => (BR.out.alloc o).frozen 2; have g3 := fun o => (BR.out.alloc o).frozen 3))
  exact bodyPost_ret (v := .tuple #[.agg #[.int .i64 q, .string tx, .int .i64 0, .int .i64 0], .int .i64 (1 + k), .int .i64 er]) (by simp [results, Tryd.results16, go_sem, y0, y1, y2, y3]) rfl ⟨rfl, (by have hz := b9.size; go_grown)⟩
def NumC (s : ByteArray) (q : Int) (tx : ByteArray) (n er : Int) : Prop := ∀ w, ErrVars w → Calls Tryd.prog 30 #[.string s] w fun e w' => e = .returned (.tuple #[.agg #[.int .i64 q, .string tx, .int .i64 n, .int .i64 0], .int .i64 er]) ∧ Below w.heap.size w w'
theorem NumC.at_ {s : ByteArray} {q : Int} {tx : ByteArray} {n er : Int} (h : NumC s q tx n er) (w : World) (hE : ErrVars w) : Calls Tryd.prog 30 #[.string s] w fun e w' => e = .returned (.tuple #[.agg #[.int .i64 q, .string tx, .int .i64 n, .int .i64 0], .int .i64 er]) ∧ Below w.heap.size w w' := h w hE
set_option maxHeartbeats 4000000 in
set_option maxRecDepth 100000 in
theorem tok_num (s : ByteArray) (w : World) (hE : ErrVars w) (hm : s.size ≤ 281474976710656) (h0 : 0 < s.size) (k j : Nat) (hk : Lx.runL Lx.isPart (s.extract 1 s.size).data.toList = k) (hks : k < s.size) (hj : Lx.runL Lx.isDig (s.extract 1 s.size).data.toList = j) (hjs : j < s.size)
    (hb1 : Lx.smI (wrap32 ((s[0]'h0).toNat : Int)) = false) (hb2 : Lx.grI (wrap32 ((s[0]'h0).toNat : Int)) = false) (hq : (wrap32 ((s[0]'h0).toNat : Int) == 39) = false) {neg : Bool} (hq2 : (wrap32 ((s[0]'h0).toNat : Int) == 126) = neg) (hb4 : neg = false → Lx.dgI (wrap32 ((s[0]'h0).toNat : Int)) = true)
    {q : Int} {tx : ByteArray} {n er : Int} (hw : NumC (s.extract 0 (1 + j)) q tx n er) :
    Calls Tryd.prog 16 #[.string s] w fun e w' => e = .returned (.tuple #[.agg #[.int .i64 q, .string tx, .int .i64 n, .int .i64 0], .int .i64 (1 + j : Int), .int .i64 er]) ∧ Below w.heap.size w w' := by
  have HK := hid hk
  have HJ := hid hj
  have HE := hid hE
  have HZ := hid (show (s.extract 1 s.size).size ≤ 281474976710656 by simp; omega)
  have B1 := hid hb1
  have B2 := hid hb2
  have HW := hid hw
  clear hk hb1 hw hb2 hj hE
  cases neg
  · have B4 := hid (hb4 rfl)
    clear hb4
    go_enter Tryd.func16, Tryd.ntmps16
    go_wp2_with (first
      | (go_at_call 24; first | ((with_reducible refine (lx_run_inside _ _ HZ.out).mono ?_); rw [HK.out]; rintro e w1 ⟨rfl, b⟩; have BR := hid ((Blk.new w 32 #[.int .i64 0, .string ⟨#[]⟩, .int .i64 0, .int .i64 0]).below b (by simp)); have b9 := below_hop b (alB w _); clear b) | ((with_reducible refine (lx_run_digit _ _ HZ.out).mono ?_); rw [HJ.out]; rintro e w3 ⟨rfl, b⟩; have BR2 := hid (BR.out.up2 b); clear BR; have BR := BR2; clear BR2; have b8 := below_hop b b9; clear b b9; have b9 := b8; clear b8))
      | (go_at_call 26; (with_reducible refine (lx_small _ _).mono ?_); rw [B1.out]; rintro e w' ⟨rfl, rfl⟩)
      | (go_at_call 28; (with_reducible refine (lx_great _ _).mono ?_); rw [B2.out]; rintro e w' ⟨rfl, rfl⟩)
      | (go_at_call 29; (with_reducible refine (lx_digit _ _).mono ?_); rw [B4.out]; rintro e w' ⟨rfl, rfl⟩)
      | (go_at_call 30; (with_reducible refine (HW.out.at_ _ (HE.out.up b9)).mono ?_); rintro e w2 ⟨rfl, b⟩; have BR2 := hid (BR.out.up2 b); clear BR; have BR := BR2; clear BR2; have b8 := below_hop b b9; clear b b9; have b9 := b8; clear b8; obtain ⟨x0, x1, x2, x3, f0, f1, f2, f3⟩ := BR.out.cells4; have y0 := fun o => (BR.out.alloc o).cells4.1; have y1 := fun o => (BR.out.alloc o).cells4.2.1; have y2 := fun o => (BR.out.alloc o).cells4.2.2.1; have y3 := fun o => (BR.out.alloc o).cells4.2.2.2.1; have g0 := fun o => (BR.out.alloc o).frozen 0; have g1 := fun o => (BR.out.alloc o).frozen 1; have g2 := fun o => (BR.out.alloc o).frozen 2; have g3 := fun o => (BR.out.alloc o).frozen 3))
    exact bodyPost_ret (v := .tuple #[.agg #[.int .i64 q, .string tx, .int .i64 n, .int .i64 0], .int .i64 (1 + j), .int .i64 er]) (by simp [results, Tryd.results16, go_sem, y0, y1, y2, y3]) rfl ⟨rfl, (by have hz := b9.size; go_grown)⟩
  · clear hb4
    go_enter Tryd.func16, Tryd.ntmps16
    go_wp2_with (first
      | (go_at_call 24; first | ((with_reducible refine (lx_run_inside _ _ HZ.out).mono ?_); rw [HK.out]; rintro e w1 ⟨rfl, b⟩; have BR := hid ((Blk.new w 32 #[.int .i64 0, .string ⟨#[]⟩, .int .i64 0, .int .i64 0]).below b (by simp)); have b9 := below_hop b (alB w _); clear b) | ((with_reducible refine (lx_run_digit _ _ HZ.out).mono ?_); rw [HJ.out]; rintro e w3 ⟨rfl, b⟩; have BR2 := hid (BR.out.up2 b); clear BR; have BR := BR2; clear BR2; have b8 := below_hop b b9; clear b b9; have b9 := b8; clear b8))
      | (go_at_call 26; (with_reducible refine (lx_small _ _).mono ?_); rw [B1.out]; rintro e w' ⟨rfl, rfl⟩)
      | (go_at_call 28; (with_reducible refine (lx_great _ _).mono ?_); rw [B2.out]; rintro e w' ⟨rfl, rfl⟩)
      | (go_at_call 30; (with_reducible refine (HW.out.at_ _ (HE.out.up b9)).mono ?_); rintro e w2 ⟨rfl, b⟩; have BR2 := hid (BR.out.up2 b); clear BR; have BR := BR2; clear BR2; have b8 := below_hop b b9; clear b b9; have b9 := b8; clear b8; obtain ⟨x0, x1, x2, x3, f0, f1, f2, f3⟩ := BR.out.cells4; have y0 := fun o => (BR.out.alloc o).cells4.1; have y1 := fun o => (BR.out.alloc o).cells4.2.1; have y2 := fun o => (BR.out.alloc o).cells4.2.2.1; have y3 := fun o => (BR.out.alloc o).cells4.2.2.2.1; have g0 := fun o => (BR.out.alloc o).frozen 0; have g1 := fun o => (BR.out.alloc o).frozen 1; have g2 := fun o => (BR.out.alloc o).frozen 2; have g3 := fun o => (BR.out.alloc o).frozen 3))
    exact bodyPost_ret (v := .tuple #[.agg #[.int .i64 q, .string tx, .int .i64 n, .int .i64 0], .int .i64 (1 + j), .int .i64 er]) (by simp [results, Tryd.results16, go_sem, y0, y1, y2, y3]) rfl ⟨rfl, (by have hz := b9.size; go_grown)⟩
end Go.Proofs.YtngbaghkjaibeaaDoor
