/-
  THE WALK OF athanorref11.one.
-/
import Derived.Test.YtngbaghkjaibeaaDoorXRef2
namespace Go.Proofs.YtngbaghkjaibeaaDoor
set_option linter.all false
open Go.ChangeShapes Go.WideShapes Go.ChangeAt Go.RowKit

/-- What one hands back: the token at place p. -/
def OneR (r : Lx.TR) (p : Nat) (v : Value) : Prop :=
  match r with
  | .ok kd tx n len => v = .tuple #[.agg #[.int .i64 kd, .string ⟨tx.toArray⟩, .int .i64 n, .int .i64 p], .int .i64 (p + len : Nat), .int .i64 0]
  | .bad er => v = .tuple #[.agg #[.int .i64 0, .string ⟨#[]⟩, .int .i64 0, .int .i64 0], .int .i64 0, .int .i64 er]
def OneP (r : Lx.TR) (p : Nat) (w : World) (e : Ending) (w' : World) : Prop := Below w.heap.size w w' ∧ ∃ v, e = .returned v ∧ OneR r p v
set_option maxHeartbeats 8000000 in
set_option maxRecDepth 100000 in
theorem one_word_long (s : ByteArray) (p : Nat) (w : World) (hp : p < s.size) (hm : s.size ≤ 100000) (sm : Bool) (hs : Lx.smI ((s[p]'hp).toNat : Int) = sm) (hg : sm = false → Lx.grI ((s[p]'hp).toNat : Int) = true) (n0 : Nat) (hn : p + Lx.runL Lx.isPart (s.data.toList.drop p) = n0) (hl : 32 < n0 - p) (r : Lx.TR) (hr : r = .bad 2) :
    Calls Tryd.prog 18 #[.string s, .int .i64 p] w (OneP r p w) := by
  have HN := hid hn
  have HR := hid hr
  have HS := hid hs
  have hp1 : (p : Int) < s.size := by omega
  have hl1 : 32 < (n0 : Int) - p := by omega
  have hl2 : (n0 : Int) ≤ 1000000 := by have := Lx.runL_le Lx.isPart (s.data.toList.drop p); rw [List.length_drop, size_list] at this; omega
  have hl3 : (p : Int) ≤ 1000000 := by omega
  clear hn hr hs hl
  cases sm
  · have HG := hid (hg rfl)
    clear hg
    go_enter Tryd.func18, Tryd.ntmps18
    go_wp2_with (first | (go_at_call 33; (with_reducible refine (rf_small _ _).mono ?_); rw [HS.out]; rintro e w' ⟨rfl, h9⟩; subst h9) | (go_at_call 34; (with_reducible refine (rf_capital _ _).mono ?_); rw [HG.out]; rintro e w' ⟨rfl, h9⟩; subst h9) | (go_at_call 35; go_must (with_reducible refine (rf_run s _ _ (Nat.le_of_lt hp) (by omega)).mono ?_); rw [HN.out]; rintro e w' ⟨rfl, h9⟩; subst h9))
    exact bodyPost_ret (v := .tuple #[.agg #[.int .i64 0, .string ⟨#[]⟩, .int .i64 0, .int .i64 0], .int .i64 0, .int .i64 2]) (by simp [results, Tryd.results18, go_sem]) rfl ⟨by go_grown, _, rfl, by rw [HR.out]; exact rfl⟩
  · clear hg
    go_enter Tryd.func18, Tryd.ntmps18
    go_wp2_with (first | (go_at_call 33; (with_reducible refine (rf_small _ _).mono ?_); rw [HS.out]; rintro e w' ⟨rfl, h9⟩; subst h9) | (go_at_call 35; go_must (with_reducible refine (rf_run s _ _ (Nat.le_of_lt hp) (by omega)).mono ?_); rw [HN.out]; rintro e w' ⟨rfl, h9⟩; subst h9))
    exact bodyPost_ret (v := .tuple #[.agg #[.int .i64 0, .string ⟨#[]⟩, .int .i64 0, .int .i64 0], .int .i64 0, .int .i64 2]) (by simp [results, Tryd.results18, go_sem]) rfl ⟨by go_grown, _, rfl, by rw [HR.out]; exact rfl⟩
theorem one_okR {kd n : Int} {S : ByteArray} {p n0 : Nat} (h : p ≤ n0) : OneR (.ok kd S.data.toList n (n0 - p)) p (.tuple #[.agg #[.int .i64 kd, .string S, .int .i64 n, .int .i64 p], .int .i64 n0, .int .i64 0]) := by
  show _ = Value.tuple #[.agg #[.int .i64 kd, .string ⟨S.data.toList.toArray⟩, .int .i64 n, .int .i64 p], .int .i64 (p + (n0 - p) : Nat), .int .i64 0]
  rw [mk_data', show p + (n0 - p) = n0 by omega]
def OneK (sm b : Bool) : Int := if sm then (if b then 5 else 1) else 2
set_option maxHeartbeats 8000000 in
set_option maxRecDepth 100000 in
theorem one_word (s : ByteArray) (p : Nat) (w : World) (hp : p < s.size) (hm : s.size ≤ 100000) (sm : Bool) (hs : Lx.smI ((s[p]'hp).toNat : Int) = sm) (hg : Lx.grI ((s[p]'hp).toNat : Int) = !sm) (n0 : Nat) (hn : p + Lx.runL Lx.isPart (s.data.toList.drop p) = n0) (hl : n0 - p ≤ 32) (b : Bool) (hb : Lx.isKey (s.extract p n0).data.toList = b) (r : Lx.TR) (hr : r = .ok (OneK sm b) (s.extract p n0).data.toList 0 (n0 - p)) :
    Calls Tryd.prog 18 #[.string s, .int .i64 p] w (OneP r p w) := by
  have HN := hid hn
  have HR := hid hr
  have HS := hid hs
  have HG := hid hg
  have HB := hid hb
  have hp1 : (p : Int) < s.size := by omega
  have hn0 : n0 ≤ s.size := by have := Lx.runL_le Lx.isPart (s.data.toList.drop p); rw [List.length_drop, size_list] at this; omega
  have hnp : p ≤ n0 := by omega
  have hl1 : (n0 : Int) - p ≤ 32 := by omega
  have hl2 : (n0 : Int) ≤ 1000000 := by omega
  have hl3 : (p : Int) ≤ 1000000 := by omega
  have hl4 : (n0 : Int) ≤ s.size := by omega
  have hl5 : (p : Int) ≤ n0 := by omega
  clear hn hr hs hl hg hb
  cases sm <;> cases b
  all_goals
    go_enter Tryd.func18, Tryd.ntmps18
    go_wp2_with (first
      | (go_at_call 33; (with_reducible refine (rf_small _ _).mono ?_); rw [HS.out]; rintro e w' ⟨rfl, h9⟩; subst h9)
      | (go_at_call 34; (with_reducible refine (rf_capital _ _).mono ?_); rw [HG.out]; rintro e w' ⟨rfl, h9⟩; subst h9)
      | (go_at_call 35; go_must (with_reducible refine (rf_run s _ _ (Nat.le_of_lt hp) (by omega)).mono ?_); rw [HN.out]; rintro e w' ⟨rfl, h9⟩; subst h9)
      | (go_at_call 36; go_must (with_reducible refine (rf_Key _ _).mono ?_); rw [HB.out]; rintro e w2 ⟨rfl, b⟩; have BR := hid (((Blk.new w 32 #[.int .i64 0, .string ⟨#[]⟩, .int .i64 0, .int .i64 0]).alloc _).below b (by simp; omega)); have BT := hid ((Blk.new' (w := w.alloc (.cells #[.int .i64 0, .string ⟨#[]⟩, .int .i64 0, .int .i64 0] 32)) (g := w.heap.size + 1) (by simp) 32 #[.int .i64 1, .string (s.extract p n0), .int .i64 0, .int .i64 p]).below b (by simp)); obtain ⟨x0, x1, x2, x3, f0, f1, f2, f3⟩ := BR.out.cells4; obtain ⟨t0, t1, t2, t3, g0, g1, g2, g3⟩ := BT.out.cells4; have b9 := below_hop b ((alB w _).alloc (by simp) _); clear b))
    exact bodyPost_ret (v := .tuple #[.agg #[_, .string (s.extract p n0), .int .i64 0, .int .i64 p], .int .i64 n0, .int .i64 0]) (by simp [results, Tryd.results18, go_sem, x0, x1, x2, x3, t0, t1, t2, t3]; exact rfl) rfl ⟨by have hz := b9.size; go_grown, _, rfl, by rw [HR.out]; exact one_okR hnp⟩
theorem rf_run1 (s : ByteArray) (p : Nat) (w : World) (hp : p + 1 ≤ s.size) (hm : s.size ≤ 100000) : Calls Tryd.prog 35 #[.string s, .int .i64 ((p : Int) + 1)] w fun e w' => e = .returned (.int .i64 (p + 1 + Lx.runL Lx.isPart (s.data.toList.drop (p + 1)) : Nat)) ∧ w = w' := rf_run s (p + 1) w hp hm
set_option maxHeartbeats 8000000 in
set_option maxRecDepth 100000 in
theorem one_quote_end (s : ByteArray) (p : Nat) (w : World) (hp : p < s.size) (hm : s.size ≤ 100000) (hs : Lx.smI ((s[p]'hp).toNat : Int) = false) (hg : Lx.grI ((s[p]'hp).toNat : Int) = false) (hq : (((s[p]'hp).toNat : Int) == 39) = true) (he : p + 1 = s.size) (r : Lx.TR) (hr : r = .bad 110) :
    Calls Tryd.prog 18 #[.string s, .int .i64 p] w (OneP r p w) := by
  have HR := hid hr
  have HS := hid hs
  have HG := hid hg
  have hp1 : (p : Int) < s.size := by omega
  have hl3 : (p : Int) ≤ 1000000 := by omega
  clear hr hs hg
  have e1 : ((p : Int) + 1 == s.size) = true := by simp; omega
  have HE := hid he
  clear he
  go_enter Tryd.func18, Tryd.ntmps18
  go_wp2_with (first | (go_at_call 33; (with_reducible refine (rf_small _ _).mono ?_); rw [HS.out]; rintro e w' ⟨rfl, h9⟩; subst h9) | (go_at_call 34; (with_reducible refine (rf_capital _ _).mono ?_); rw [HG.out]; rintro e w' ⟨rfl, h9⟩; subst h9))
  exact bodyPost_ret (v := .tuple #[.agg #[.int .i64 0, .string ⟨#[]⟩, .int .i64 0, .int .i64 0], .int .i64 0, .int .i64 110]) (by simp [results, Tryd.results18, go_sem]) rfl ⟨by go_grown, _, rfl, by rw [HR.out]; exact rfl⟩
set_option maxHeartbeats 8000000 in
set_option maxRecDepth 100000 in
theorem one_quote_not (s : ByteArray) (p : Nat) (w : World) (hp : p < s.size) (hm : s.size ≤ 100000) (hs : Lx.smI ((s[p]'hp).toNat : Int) = false) (hg : Lx.grI ((s[p]'hp).toNat : Int) = false) (hq : (((s[p]'hp).toNat : Int) == 39) = true) (he : p + 1 < s.size) (h2 : Lx.smI ((s[p + 1]'he).toNat : Int) = false) (r : Lx.TR) (hr : r = .bad 110) :
    Calls Tryd.prog 18 #[.string s, .int .i64 p] w (OneP r p w) := by
  have HR := hid hr
  have HS := hid hs
  have HG := hid hg
  have hp1 : (p : Int) < s.size := by omega
  have hl3 : (p : Int) ≤ 1000000 := by omega
  clear hr hs hg
  have e1 : ((p : Int) + 1 == s.size) = false := by simp; omega
  have e2 : (p : Int) + 1 < s.size := by omega
  have HE := hid h2
  clear h2
  go_enter Tryd.func18, Tryd.ntmps18
  go_wp2_with (first | (go_at_call 33; (with_reducible refine (rf_small _ _).mono ?_); (first | rw [HS.out] | rw [HE.out]); rintro e w' ⟨rfl, h9⟩; subst h9) | (go_at_call 34; (with_reducible refine (rf_capital _ _).mono ?_); rw [HG.out]; rintro e w' ⟨rfl, h9⟩; subst h9))
  exact bodyPost_ret (v := .tuple #[.agg #[.int .i64 0, .string ⟨#[]⟩, .int .i64 0, .int .i64 0], .int .i64 0, .int .i64 110]) (by simp [results, Tryd.results18, go_sem]) rfl ⟨by go_grown, _, rfl, by rw [HR.out]; exact rfl⟩
set_option maxHeartbeats 8000000 in
set_option maxRecDepth 100000 in
theorem one_quote_long (s : ByteArray) (p : Nat) (w : World) (hp : p < s.size) (hm : s.size ≤ 100000) (hs : Lx.smI ((s[p]'hp).toNat : Int) = false) (hg : Lx.grI ((s[p]'hp).toNat : Int) = false) (hq : (((s[p]'hp).toNat : Int) == 39) = true) (he : p + 1 < s.size) (h2 : Lx.smI ((s[p + 1]'he).toNat : Int) = true) (n0 : Nat) (hn : p + 1 + Lx.runL Lx.isPart (s.data.toList.drop (p + 1)) = n0) (hl : 32 < n0 - p - 1) (r : Lx.TR) (hr : r = .bad 2) :
    Calls Tryd.prog 18 #[.string s, .int .i64 p] w (OneP r p w) := by
  have HR := hid hr
  have HS := hid hs
  have HG := hid hg
  have hp1 : (p : Int) < s.size := by omega
  have hl3 : (p : Int) ≤ 1000000 := by omega
  clear hr hs hg
  have e1 : ((p : Int) + 1 == s.size) = false := by simp; omega
  have e2 : (p : Int) + 1 < s.size := by omega
  have HE := hid h2
  have HN := hid hn
  have hn0 : n0 ≤ s.size := by have := Lx.runL_le Lx.isPart (s.data.toList.drop (p + 1)); rw [List.length_drop, size_list] at this; omega
  have e3 : 32 < (n0 : Int) - p - 1 := by omega
  have e4 : (n0 : Int) ≤ 1000000 := by omega
  clear h2 hn hl
  go_enter Tryd.func18, Tryd.ntmps18
  go_wp2_with (first | (go_at_call 33; (with_reducible refine (rf_small _ _).mono ?_); (first | rw [HS.out] | rw [HE.out]); rintro e w' ⟨rfl, h9⟩; subst h9) | (go_at_call 34; (with_reducible refine (rf_capital _ _).mono ?_); rw [HG.out]; rintro e w' ⟨rfl, h9⟩; subst h9) | (go_at_call 35; (with_reducible refine (rf_run1 s p _ (Nat.le_of_lt he) (by omega)).mono ?_); rw [HN.out]; rintro e w' ⟨rfl, h9⟩; subst h9))
  exact bodyPost_ret (v := .tuple #[.agg #[.int .i64 0, .string ⟨#[]⟩, .int .i64 0, .int .i64 0], .int .i64 0, .int .i64 2]) (by simp [results, Tryd.results18, go_sem]) rfl ⟨by go_grown, _, rfl, by rw [HR.out]; exact rfl⟩
set_option maxHeartbeats 8000000 in
set_option maxRecDepth 100000 in
theorem one_quote (s : ByteArray) (p : Nat) (w : World) (hp : p < s.size) (hm : s.size ≤ 100000) (hs : Lx.smI ((s[p]'hp).toNat : Int) = false) (hg : Lx.grI ((s[p]'hp).toNat : Int) = false) (hq : (((s[p]'hp).toNat : Int) == 39) = true) (he : p + 1 < s.size) (h2 : Lx.smI ((s[p + 1]'he).toNat : Int) = true) (n0 : Nat) (hn : p + 1 + Lx.runL Lx.isPart (s.data.toList.drop (p + 1)) = n0) (hl : n0 - p - 1 ≤ 32) (r : Lx.TR) (hr : r = .ok 3 (s.extract (p + 1) n0).data.toList 0 (n0 - p)) :
    Calls Tryd.prog 18 #[.string s, .int .i64 p] w (OneP r p w) := by
  have HR := hid hr
  have HS := hid hs
  have HG := hid hg
  have hp1 : (p : Int) < s.size := by omega
  have hl3 : (p : Int) ≤ 1000000 := by omega
  clear hr hs hg
  have e1 : ((p : Int) + 1 == s.size) = false := by simp; omega
  have e2 : (p : Int) + 1 < s.size := by omega
  have HE := hid h2
  have HN := hid hn
  have hn0 : n0 ≤ s.size := by have := Lx.runL_le Lx.isPart (s.data.toList.drop (p + 1)); rw [List.length_drop, size_list] at this; omega
  have e3 : (n0 : Int) - p - 1 ≤ 32 := by omega
  have e4 : (n0 : Int) ≤ 1000000 := by omega
  have e5 : (p : Int) + 1 ≤ n0 := by omega
  have e6 : (n0 : Int) ≤ s.size := by omega
  have hnp : p ≤ n0 := by omega
  clear h2 hn hl
  go_enter Tryd.func18, Tryd.ntmps18
  go_wp2_with (first | (go_at_call 33; (with_reducible refine (rf_small _ _).mono ?_); (first | rw [HS.out] | rw [HE.out]); rintro e w' ⟨rfl, h9⟩; subst h9) | (go_at_call 34; (with_reducible refine (rf_capital _ _).mono ?_); rw [HG.out]; rintro e w' ⟨rfl, h9⟩; subst h9) | (go_at_call 35; (with_reducible refine (rf_run1 s p _ (Nat.le_of_lt he) (by omega)).mono ?_); rw [HN.out]; rintro e w' ⟨rfl, h9⟩; subst h9))
  exact bodyPost_ret (v := .tuple #[.agg #[.int .i64 3, .string (s.extract (p + 1) n0), .int .i64 0, .int .i64 p], .int .i64 n0, .int .i64 0]) (by simp [results, Tryd.results18, go_sem]) rfl ⟨by go_grown, _, rfl, by rw [HR.out]; exact one_okR hnp⟩
end Go.Proofs.YtngbaghkjaibeaaDoor
