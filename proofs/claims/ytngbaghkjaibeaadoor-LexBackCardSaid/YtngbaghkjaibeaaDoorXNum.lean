/-
  THE WALKS OF ints.In, lex.number.
-/
import Derived.Test.YtngbaghkjaibeaaDoorXRun
import Derived.Test.YtngbaghkjaibeaaDoorXShelf
import Derived.Test.YtngbaghkjaibeaaDoorXMem
import Derived.BigQuiet
import Derived.IntWalk
import Derived.Deep.QuietTactic
import Derived.Deep.RegionHeld3
namespace Go.Proofs.YtngbaghkjaibeaaDoor
set_option linter.all false
open Go.ChangeShapes Go.WideShapes Go.ChangeAt Go.RowKit

namespace Lx
def digs (l : List UInt8) : Prop := ∀ c ∈ l, isDig c = true
def valF (n : Nat) (l : List UInt8) : Nat := l.foldl (fun n c => n * 10 + (c.toNat - 48)) n
theorem valF_ge : ∀ (l : List UInt8) (n : Nat), n ≤ valF n l
  | [], n => Nat.le_refl _
  | c :: l, n => Nat.le_trans (by omega) (valF_ge l (n * 10 + (c.toNat - 48)))
theorem dig_range {c : UInt8} (h : isDig c = true) : 48 ≤ c.toNat ∧ c.toNat ≤ 57 := by
  unfold isDig at h
  simp only [Bool.and_eq_true, decide_eq_true_eq, le_u8] at h
  exact h
theorem parse_digs : ∀ (l : List UInt8) (n : Nat), digs l → n < 18446744073709551616 → Lib.parseUint10 n l = if valF n l < 18446744073709551616 then .ok (valF n l) else .range
  | [], n, _, h => by
    show Lib.NumEnd.ok n = if n < _ then _ else _
    rw [if_pos h]; rfl
  | c :: l, n, hd, h => by
    have hc := dig_range (hd c (by simp))
    have ih := parse_digs l (n * 10 + (c.toNat - 48)) (fun x hx => hd x (by simp [hx]))
    have hg := valF_ge l (n * 10 + (c.toNat - 48))
    have e : valF n (c :: l) = valF (n * 10 + (c.toNat - 48)) l := rfl
    rw [e]
    unfold Lib.parseUint10
    rw [if_pos hc]
    by_cases h1 : 1844674407370955162 ≤ n
    · rw [if_pos h1, if_neg (by omega)]
    rw [if_neg h1]
    by_cases h2 : 18446744073709551616 ≤ n * 10 + (c.toNat - 48)
    · rw [if_pos h2, if_neg (by omega)]
    rw [if_neg h2]
    exact ih (by omega)
theorem valD_eq (l : List UInt8) : valD l = valF 0 l := rfl
theorem atoi_digs {l : List UInt8} (hd : digs l) : Lib.atoiAll l = if l = [] then Lib.atoiAll [] else if valD l < 9223372036854775808 then .ok (valD l) else .range := by
  cases l with
  | nil => rfl
  | cons c r =>
    have hc := dig_range (hd c (by simp))
    rw [if_neg (by simp)]
    unfold Lib.atoiAll
    simp only
    rw [if_neg (by omega : ¬ (c.toNat = 43 ∨ c.toNat = 45))]
    unfold Lib.parseMag
    rw [if_neg (by simp), parse_digs _ _ hd (by omega), ← valD_eq]
    by_cases h1 : valD (c :: r) < 18446744073709551616
    · rw [if_pos h1]
      have h4 : ¬ c.toNat = 45 := by omega
      simp only [h4, not_false_eq_true, true_and, false_and, if_false]
      by_cases h2 : valD (c :: r) < 9223372036854775808
      · rw [if_pos h2, if_neg (by omega)]
      · rw [if_neg h2, if_pos (by omega)]
    · rw [if_neg h1, if_neg (by omega)]
end Lx
theorem ints_In (n : Int) (w : World) : Calls Tryd.prog 50 #[.int .i64 n] w fun e w' => e = .returned (.bool (decide (Lx.inR n))) ∧ w = w' := by
  by_cases h1 : -1073741824 ≤ n
  · by_cases h2 : n < 1073741824
    · go_enter Tryd.func50, Tryd.ntmps50
      go_wp2
      go_ret
      exact ⟨ret_bool (by simp [Lx.inR, h1, h2]), rfl⟩
    · go_enter Tryd.func50, Tryd.ntmps50
      go_wp2
      go_ret
      exact ⟨ret_bool (by simp [Lx.inR, h1, h2]), rfl⟩
  · go_enter Tryd.func50, Tryd.ntmps50
    go_wp2
    go_ret
    exact ⟨ret_bool (decide_eq_false (fun h => by have := h.1; omega)).symm, rfl⟩
def numV (neg : Bool) (d : List UInt8) : Value :=
  if d = [] ∨ (1 < d.length ∧ d.head? = some 48) ∨ ¬ Lx.inR (Lx.valS neg d) then .tuple #[tok0, .int .i64 110] else .tuple #[tokV 4 ⟨#[]⟩ (Lx.valS neg d) 0, .int .i64 0]
theorem num_bad {neg : Bool} {d : List UInt8} (h : d = [] ∨ (1 < d.length ∧ d.head? = some 48) ∨ ¬ Lx.inR (Lx.valS neg d)) : numV neg d = .tuple #[tok0, .int .i64 110] := if_pos h
theorem num_good {neg : Bool} {d : List UInt8} (h1 : d ≠ []) (h2 : ¬ (1 < d.length ∧ d.head? = some 48)) (h3 : Lx.inR (Lx.valS neg d)) : numV neg d = .tuple #[tokV 4 ⟨#[]⟩ (Lx.valS neg d) 0, .int .i64 0] := if_neg (fun h => h.elim h1 (fun h => h.elim h2 (fun h => h h3)))
/-- What a text is cut into: a sign, or none, and digits. -/
def CutIs (s d : ByteArray) (neg : Bool) : Prop := (⟨(Lib.trimPrefix s.data.toList [126]).toArray⟩ : ByteArray) = d ∧ Lib.hasPrefix s.data.toList [126] = neg
/-- The errors' variables hold some error. -/
def ErrVars (w : World) : Prop := ∀ g : Nat, g = 1 ∨ g = 2 → ∃ ev, w.cell? ⟨g, 0, none⟩ = some ev ∧ (ev = .nilIface ∨ ∃ te pe, ev = .iface te pe) ∧ g < w.heap.size
theorem ErrVars.up {w w' : World} (h : ErrVars w) (hb : Below w.heap.size w w') : ErrVars w' := fun g hg => by
  obtain ⟨ev, h1, h2, h3⟩ := h g hg
  exact ⟨ev, (hb.cell (p := ⟨g, 0, none⟩) h3).trans h1, h2, Nat.lt_of_lt_of_le h3 hb.size⟩
set_option maxHeartbeats 4000000 in
set_option maxRecDepth 100000 in
theorem number_syntax (s d : ByteArray) (neg : Bool) (w : World) (hE : ErrVars w) (hc : CutIs s d neg) (ha : Lib.atoiAll d.data.toList = Lib.atoiAll []) (hs : d.size ≤ 281474976710656) : Calls Tryd.prog 30 #[.string s] w fun e w' => e = .returned (.tuple #[tok0, .int .i64 110]) ∧ Below w.heap.size w w' := by
  obtain ⟨e1, e2⟩ := hc
  have E1 := hid e1
  have E2 := hid e2
  have HE := hid hE
  have HA := hid ha
  have HS := hid hs
  clear e1 e2 hE ha hs
  cases neg
  all_goals
    go_enter Tryd.func30, Tryd.ntmps30
    go_wp2_with (first
      | (go_at_call 48; (with_reducible refine (Tryd.strings_CutPrefix _ _ _).mono ?_); rw [E1.out, E2.out]; rintro e w' ⟨rfl, rfl⟩)
      | (go_at_call 49; obtain ⟨ev, h1, h2, _⟩ := (HE.out.up (alB w _)) 1 (.inl rfl); (with_reducible refine (Tryd.strconv_Atoi_syntax d HS.out HA.out ev _ h1 h2).mono ?_); rintro e w1 ⟨N, rfl, _, _, b⟩; clear h1 h2; have BR := hid ((Blk.new w 32 #[.int .i64 0, .string ⟨#[]⟩, .int .i64 0, .int .i64 0]).below b (by simp)); obtain ⟨x0, x1, x2, x3, f0, f1, f2, f3⟩ := BR.out.cells4))
    have b9 := below_hop b (alB w _)
    exact bodyPost_ret (v := .tuple #[tok0, .int .i64 110]) (by simp [results, Tryd.results30, go_sem, tok0, tokV, x0, x1, x2, x3]) rfl ⟨rfl, by go_grown⟩
set_option maxHeartbeats 4000000 in
set_option maxRecDepth 100000 in
theorem number_range (s d : ByteArray) (neg : Bool) (w : World) (hE : ErrVars w) (hc : CutIs s d neg) (ha : Lib.atoiAll d.data.toList = .range) (hs : d.size ≤ 281474976710656) : Calls Tryd.prog 30 #[.string s] w fun e w' => e = .returned (.tuple #[tok0, .int .i64 110]) ∧ Below w.heap.size w w' := by
  obtain ⟨e1, e2⟩ := hc
  have E1 := hid e1
  have E2 := hid e2
  have HE := hid hE
  have HA := hid ha
  have HS := hid hs
  obtain ⟨sat, hsat⟩ : ∃ z, Lib.atoiSat d.data.toList = z := ⟨_, rfl⟩
  have HT := hid hsat
  clear e1 e2 hE ha hs hsat
  cases neg
  all_goals
    go_enter Tryd.func30, Tryd.ntmps30
    go_wp2_with (first
      | (go_at_call 48; (with_reducible refine (Tryd.strings_CutPrefix _ _ _).mono ?_); rw [E1.out, E2.out]; rintro e w' ⟨rfl, rfl⟩)
      | (go_at_call 49; obtain ⟨ev, h1, h2, _⟩ := (HE.out.up (alB w _)) 2 (.inr rfl); (with_reducible refine (Tryd.strconv_Atoi_range d HS.out HA.out ev _ h1 h2).mono ?_); rw [HT.out]; rintro e w1 ⟨N, rfl, _, _, b⟩; clear h1 h2; have BR := hid ((Blk.new w 32 #[.int .i64 0, .string ⟨#[]⟩, .int .i64 0, .int .i64 0]).below b (by simp)); obtain ⟨x0, x1, x2, x3, f0, f1, f2, f3⟩ := BR.out.cells4))
    have b9 := below_hop b (alB w _)
    exact bodyPost_ret (v := .tuple #[tok0, .int .i64 110]) (by simp [results, Tryd.results30, go_sem, tok0, tokV, x0, x1, x2, x3]) rfl ⟨rfl, by go_grown⟩
theorem atoi_ok (s : ByteArray) (hmax : s.size ≤ 281474976710656) (v : Int) (h : Lib.atoiAll s.data.toList = .ok v) (w : World) :
    Calls Tryd.prog 49 #[.string s] w fun e w' => e = .returned (.tuple #[.int .i64 v, .nilIface]) ∧ Below w.heap.size w w' :=
  (Tryd.strconv_Atoi_ok s (by omega) v h w).mono fun _ _ ⟨h1, h2⟩ => ⟨h1, by rcases h2 with rfl | ⟨t, rfl⟩; exact Below.refl _ _; exact Lib.bytesWorld_below _ _ _⟩
set_option maxHeartbeats 4000000 in
set_option maxRecDepth 100000 in
theorem number_zero (s d : ByteArray) (neg : Bool) (v : Int) (w : World) (hE : ErrVars w) (hc : CutIs s d neg) (ha : Lib.atoiAll d.data.toList = .ok v) (hs : d.size ≤ 281474976710656) (h1 : 1 < d.size) (h2 : 0 < d.size) (h0 : (d[0]'h2).toNat = 48) : Calls Tryd.prog 30 #[.string s] w fun e w' => e = .returned (.tuple #[tok0, .int .i64 110]) ∧ Below w.heap.size w w' := by
  obtain ⟨e1, e2⟩ := hc
  have E1 := hid e1
  have E2 := hid e2
  have HE := hid hE
  have HA := hid ha
  have HS := hid hs
  clear e1 e2 hE ha hs
  cases neg
  all_goals
    go_enter Tryd.func30, Tryd.ntmps30
    go_wp2_with (first
      | (go_at_call 48; (with_reducible refine (Tryd.strings_CutPrefix _ _ _).mono ?_); rw [E1.out, E2.out]; rintro e w' ⟨rfl, rfl⟩)
      | (go_at_call 49; (with_reducible refine (atoi_ok d HS.out _ HA.out _).mono ?_); rintro e w1 ⟨rfl, b⟩; have BR := hid ((Blk.new w 32 #[.int .i64 0, .string ⟨#[]⟩, .int .i64 0, .int .i64 0]).below b (by simp)); obtain ⟨x0, x1, x2, x3, f0, f1, f2, f3⟩ := BR.out.cells4))
    have b9 := below_hop b (alB w _)
    exact bodyPost_ret (v := .tuple #[tok0, .int .i64 110]) (by simp [results, Tryd.results30, go_sem, tok0, tokV, x0, x1, x2, x3]) rfl ⟨rfl, by go_grown⟩
def inB (v : Int) : Bool := decide (Lx.inR v)
set_option maxHeartbeats 8000000 in
set_option maxRecDepth 100000 in
theorem number_one (s d : ByteArray) (neg : Bool) (v u : Int) (w : World) (hE : ErrVars w) (hc : CutIs s d neg) (ha : Lib.atoiAll d.data.toList = .ok v) (hs : d.size ≤ 281474976710656) (hv0 : 0 ≤ v) (hv1 : v < 9223372036854775808) (hu : u = if neg then -v else v) (h1 : ¬ 1 < d.size ∨ ∃ h : 0 < d.size, (d[0]'h).toNat ≠ 48) : Calls Tryd.prog 30 #[.string s] w fun e w' => e = .returned (if Lx.inR u then .tuple #[tokV 4 ⟨#[]⟩ u 0, .int .i64 0] else .tuple #[tok0, .int .i64 110]) ∧ Below w.heap.size w w' := by
  obtain ⟨e1, e2⟩ := hc
  have E1 := hid e1
  have E2 := hid e2
  have HE := hid hE
  have HA := hid ha
  have HS := hid hs
  obtain ⟨b, hb⟩ : ∃ b, decide (Lx.inR u) = b := ⟨_, rfl⟩
  have HI0 := hid hb
  have hin : (if Lx.inR u then (.tuple #[tokV 4 ⟨#[]⟩ u 0, .int .i64 0] : Value) else .tuple #[tok0, .int .i64 110]) = if b then .tuple #[tokV 4 ⟨#[]⟩ u 0, .int .i64 0] else .tuple #[tok0, .int .i64 110] := by
    rw [← hb]
    by_cases h : Lx.inR u <;> simp [h]
  rw [hin]
  clear e1 e2 hE ha hs hb hin
  cases neg
  · simp only [Bool.false_eq_true, if_false] at hu
    subst hu
    have HI := HI0
    clear hv0 hv1
    rcases h1 with h1 | ⟨h2, h1⟩
    all_goals
      cases b
      all_goals
        go_enter Tryd.func30, Tryd.ntmps30
        go_wp2_with (first | (go_at_call 48; (with_reducible refine (Tryd.strings_CutPrefix _ _ _).mono ?_); rw [E1.out, E2.out]; rintro e w' ⟨rfl, rfl⟩) | (go_at_call 49; (with_reducible refine (atoi_ok d HS.out _ HA.out _).mono ?_); rintro e w1 ⟨rfl, b⟩; have BR := hid ((Blk.new w 32 #[.int .i64 0, .string ⟨#[]⟩, .int .i64 0, .int .i64 0]).below b (by simp)); obtain ⟨x0, x1, x2, x3, f0, f1, f2, f3⟩ := BR.out.cells4) | (go_at_call 50; (with_reducible refine (ints_In _ _).mono ?_); rw [HI.out]; rintro e w2 ⟨rfl, rfl⟩))
        all_goals
          have b9 := below_hop b (alB w _)
          first
            | exact bodyPost_ret (v := .tuple #[tok0, .int .i64 110]) (by simp [results, Tryd.results30, go_sem, tok0, tokV, x0, x1, x2, x3]) rfl ⟨rfl, by go_grown⟩
            | exact bodyPost_ret (v := .tuple #[tokV 4 ⟨#[]⟩ u 0, .int .i64 0]) (by simp [results, Tryd.results30, go_sem, tokV, x0, x1, x2, x3]) rfl ⟨rfl, by go_grown⟩
  · have hq : IntKind.i64.wrap (-v) = u := by rw [hu, if_pos rfl]; exact IntWalk.i64_in _ (by omega)
    have HI := HI0
    clear hv0 hv1 hu
    rcases h1 with h1 | ⟨h2, h1⟩
    all_goals
      cases b
      all_goals
        go_enter Tryd.func30, Tryd.ntmps30
        go_wp2_with (first | (go_at_call 48; (with_reducible refine (Tryd.strings_CutPrefix _ _ _).mono ?_); rw [E1.out, E2.out]; rintro e w' ⟨rfl, rfl⟩) | (go_at_call 49; (with_reducible refine (atoi_ok d HS.out _ HA.out _).mono ?_); rintro e w1 ⟨rfl, b⟩; have BR := hid ((Blk.new w 32 #[.int .i64 0, .string ⟨#[]⟩, .int .i64 0, .int .i64 0]).below b (by simp)); obtain ⟨x0, x1, x2, x3, f0, f1, f2, f3⟩ := BR.out.cells4) | (go_at_call 50; (with_reducible refine (ints_In _ _).mono ?_); rw [HI.out]; rintro e w2 ⟨rfl, rfl⟩))
        all_goals
          have b9 := below_hop b (alB w _)
          first
            | exact bodyPost_ret (v := .tuple #[tok0, .int .i64 110]) (by simp [results, Tryd.results30, go_sem, tok0, tokV, x0, x1, x2, x3]) rfl ⟨rfl, by go_grown⟩
            | exact bodyPost_ret (v := .tuple #[tokV 4 ⟨#[]⟩ u 0, .int .i64 0]) (by simp [results, Tryd.results30, go_sem, tokV, x0, x1, x2, x3]) rfl ⟨rfl, by go_grown⟩
end Go.Proofs.YtngbaghkjaibeaaDoor
