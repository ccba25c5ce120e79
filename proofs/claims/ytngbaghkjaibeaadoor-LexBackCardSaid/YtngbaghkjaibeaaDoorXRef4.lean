/-
  THE WALK OF athanorref11.one: numbers, signs.
-/
import Derived.Test.YtngbaghkjaibeaaDoorXRef3
namespace Go.Proofs.YtngbaghkjaibeaaDoor
set_option linter.all false
open Go.ChangeShapes Go.WideShapes Go.ChangeAt Go.RowKit

theorem not_t {b : Bool} (h : (!b) = true) : b = false := by cases b <;> simp_all
theorem not_f {b : Bool} (h : (!b) = false) : b = true := by cases b <;> simp_all
theorem rf_number1 (s : ByteArray) (p : Nat) (w : World) (hq : p + 1 ≤ s.size) (hm : s.size ≤ 100000) :
    Calls Tryd.prog 38 #[.string s, .int .i64 p, .int .i64 ((p : Int) + 1)] w (NumQ true ((s.data.toList.drop (p + 1)).take (Lx.runL Lx.isDig (s.data.toList.drop (p + 1)))) p (p + 1) w) := by
  have h := rf_number s p (p + 1) w (by omega) hq hm
  rw [decide_eq_true (by omega : p < p + 1)] at h
  exact h
theorem rf_number0 (s : ByteArray) (p : Nat) (w : World) (hq : p ≤ s.size) (hm : s.size ≤ 100000) :
    Calls Tryd.prog 38 #[.string s, .int .i64 p, .int .i64 p] w (NumQ false ((s.data.toList.drop p).take (Lx.runL Lx.isDig (s.data.toList.drop p))) p p w) := by
  have h := rf_number s p p w (by omega) hq hm
  rw [decide_eq_false (by omega : ¬ p < p)] at h
  exact h
theorem one_numR {neg : Bool} {ds : List UInt8} {p q len : Nat} {a v z en : Int} (h : ¬ (ds = [] ∨ (1 < ds.length ∧ ds.head? = some 48) ∨ ¬ Lx.inR (Lx.valS neg ds))) (ha : a = 4) (hv : v = Lx.valS neg ds) (hz : z = p) (he : en = (q + ds.length : Nat)) (hl : q + ds.length = p + len) :
    OneR (Lx.numF neg ds len) p (.tuple #[.agg #[.int .i64 a, .string ⟨#[]⟩, .int .i64 v, .int .i64 z], .int .i64 en, .int .i64 0]) := by
  unfold Lx.numF
  rw [if_neg h]
  subst ha hv hz he
  rw [hl]
  rfl
theorem one_numB {neg : Bool} {ds : List UInt8} {p len : Nat} (h : ds = [] ∨ (1 < ds.length ∧ ds.head? = some 48) ∨ ¬ Lx.inR (Lx.valS neg ds)) :
    OneR (Lx.numF neg ds len) p (.tuple #[.agg #[.int .i64 0, .string ⟨#[]⟩, .int .i64 0, .int .i64 0], .int .i64 0, .int .i64 110]) := by
  unfold Lx.numF
  rw [if_pos h]
  rfl
set_option maxHeartbeats 8000000 in
set_option maxRecDepth 100000 in
theorem one_num1 (s : ByteArray) (p : Nat) (w : World) (hp : p < s.size) (hm : s.size ≤ 100000) (hs : Lx.smI ((s[p]'hp).toNat : Int) = false) (hg : Lx.grI ((s[p]'hp).toNat : Int) = false) (hq : (((s[p]'hp).toNat : Int) == 39) = false) (hq2 : (((s[p]'hp).toNat : Int) == 126) = true)
    (ds : List UInt8) (hd : (s.data.toList.drop (p + 1)).take (Lx.runL Lx.isDig (s.data.toList.drop (p + 1))) = ds) (r : Lx.TR) (hr : r = Lx.numF true ds (1 + ds.length)) :
    Calls Tryd.prog 18 #[.string s, .int .i64 p] w (OneP r p w) := by
  have HR := hid hr
  have HS := hid hs
  have HG := hid hg
  have hp1 : (p : Int) < s.size := by omega
  have hl3 : (p : Int) ≤ 1000000 := by omega
  clear hr hs hg
  have HD := hid hd
  have HL := hid (show p + 1 + ds.length = p + (1 + ds.length) by omega)
  clear hd
  go_enter Tryd.func18, Tryd.ntmps18
  go_wp2_with (first | (go_at_call 33; (with_reducible refine (rf_small _ _).mono ?_); rw [HS.out]; rintro e w' ⟨rfl, h9⟩; subst h9) | (go_at_call 34; (with_reducible refine (rf_capital _ _).mono ?_); rw [HG.out]; rintro e w' ⟨rfl, h9⟩; subst h9) | (go_at_call 38; go_must (with_reducible refine (rf_number1 s p _ (Nat.succ_le_of_lt hp) hm).mono ?_); go_must (rw [HD.out]); rintro e w2 ⟨b, a, v, z, en, bb, rfl, hcase⟩; have HC := hid hcase; have BR := hid ((Blk.new w 32 #[.int .i64 0, .string ⟨#[]⟩, .int .i64 0, .int .i64 0]).below b (by simp)); have b9 := below_hop b (alB w _); obtain ⟨x0, x1, x2, x3, f0, f1, f2, f3⟩ := BR.out.cells4; have y0 := fun o => (BR.out.alloc o).cells4.1; have y1 := fun o => (BR.out.alloc o).cells4.2.1; have y2 := fun o => (BR.out.alloc o).cells4.2.2.1; have y3 := fun o => (BR.out.alloc o).cells4.2.2.2.1; have g0 := fun o => (BR.out.alloc o).frozen 0; have g1 := fun o => (BR.out.alloc o).frozen 1; have g2 := fun o => (BR.out.alloc o).frozen 2; have g3 := fun o => (BR.out.alloc o).frozen 3; clear b hcase))
  all_goals
    (first
      | exact bodyPost_ret (v := .tuple #[.agg #[.int .i64 0, .string ⟨#[]⟩, .int .i64 0, .int .i64 0], .int .i64 0, .int .i64 110]) (by simp [results, Tryd.results18, go_sem, y0, y1, y2, y3]) rfl ⟨by have hz := b9.size; go_grown, _, rfl, by rw [HR.out]; exact one_numB ((HC.out.resolve_right (fun h => absurd h.1 (by rw [not_t ‹(!bb) = true›]; decide))).2)⟩
      | exact bodyPost_ret (v := .tuple #[.agg #[.int .i64 a, .string ⟨#[]⟩, .int .i64 v, .int .i64 z], .int .i64 en, .int .i64 0]) (by simp [results, Tryd.results18, go_sem, y0, y1, y2, y3]) rfl ⟨by have hz := b9.size; go_grown, _, rfl, by rw [HR.out]; have h9 := (HC.out.resolve_left (fun h => absurd h.1 (by rw [not_f ‹(!bb) = false›]; decide))).2; exact one_numR h9.1 h9.2.1 h9.2.2.1 h9.2.2.2.1 h9.2.2.2.2 (HL.out)⟩)
set_option maxHeartbeats 8000000 in
set_option maxRecDepth 100000 in
theorem one_num0 (s : ByteArray) (p : Nat) (w : World) (hp : p < s.size) (hm : s.size ≤ 100000) (hs : Lx.smI ((s[p]'hp).toNat : Int) = false) (hg : Lx.grI ((s[p]'hp).toNat : Int) = false) (hq : (((s[p]'hp).toNat : Int) == 39) = false) (hq2 : (((s[p]'hp).toNat : Int) == 126) = false) (h4 : Lx.dgI ((s[p]'hp).toNat : Int) = true)
    (ds : List UInt8) (hd : (s.data.toList.drop p).take (Lx.runL Lx.isDig (s.data.toList.drop p)) = ds) (r : Lx.TR) (hr : r = Lx.numF false ds ds.length) :
    Calls Tryd.prog 18 #[.string s, .int .i64 p] w (OneP r p w) := by
  have HR := hid hr
  have HS := hid hs
  have HG := hid hg
  have hp1 : (p : Int) < s.size := by omega
  have hl3 : (p : Int) ≤ 1000000 := by omega
  clear hr hs hg
  have HD := hid hd
  have H4 := hid h4
  clear hd h4
  go_enter Tryd.func18, Tryd.ntmps18
  go_wp2_with (first | (go_at_call 33; (with_reducible refine (rf_small _ _).mono ?_); rw [HS.out]; rintro e w' ⟨rfl, h9⟩; subst h9) | (go_at_call 34; (with_reducible refine (rf_capital _ _).mono ?_); rw [HG.out]; rintro e w' ⟨rfl, h9⟩; subst h9) | (go_at_call 37; (with_reducible refine (rf_digit _ _).mono ?_); rw [H4.out]; rintro e w' ⟨rfl, h9⟩; subst h9) | (go_at_call 38; go_must (with_reducible refine (rf_number0 s p _ (Nat.le_of_lt hp) hm).mono ?_); go_must (rw [HD.out]); rintro e w2 ⟨b, a, v, z, en, bb, rfl, hcase⟩; have HC := hid hcase; have BR := hid ((Blk.new w 32 #[.int .i64 0, .string ⟨#[]⟩, .int .i64 0, .int .i64 0]).below b (by simp)); have b9 := below_hop b (alB w _); obtain ⟨x0, x1, x2, x3, f0, f1, f2, f3⟩ := BR.out.cells4; have y0 := fun o => (BR.out.alloc o).cells4.1; have y1 := fun o => (BR.out.alloc o).cells4.2.1; have y2 := fun o => (BR.out.alloc o).cells4.2.2.1; have y3 := fun o => (BR.out.alloc o).cells4.2.2.2.1; have g0 := fun o => (BR.out.alloc o).frozen 0; have g1 := fun o => (BR.out.alloc o).frozen 1; have g2 := fun o => (BR.out.alloc o).frozen 2; have g3 := fun o => (BR.out.alloc o).frozen 3; clear b hcase))
  all_goals
    (first
      | exact bodyPost_ret (v := .tuple #[.agg #[.int .i64 0, .string ⟨#[]⟩, .int .i64 0, .int .i64 0], .int .i64 0, .int .i64 110]) (by simp [results, Tryd.results18, go_sem, y0, y1, y2, y3]) rfl ⟨by have hz := b9.size; go_grown, _, rfl, by rw [HR.out]; exact one_numB ((HC.out.resolve_right (fun h => absurd h.1 (by rw [not_t ‹(!bb) = true›]; decide))).2)⟩
      | exact bodyPost_ret (v := .tuple #[.agg #[.int .i64 a, .string ⟨#[]⟩, .int .i64 v, .int .i64 z], .int .i64 en, .int .i64 0]) (by simp [results, Tryd.results18, go_sem, y0, y1, y2, y3]) rfl ⟨by have hz := b9.size; go_grown, _, rfl, by rw [HR.out]; have h9 := (HC.out.resolve_left (fun h => absurd h.1 (by rw [not_f ‹(!bb) = false›]; decide))).2; exact one_numR h9.1 h9.2.1 h9.2.2.1 h9.2.2.2.1 h9.2.2.2.2 (rfl)⟩)
end Go.Proofs.YtngbaghkjaibeaaDoor
