/-
  THE WALKS OF athanorref20's once, Tags AND shape, WHERE THEY SAY YES.
-/
import Derived.Test.YtohdaclbgedeiaaRGa
import Derived.Test.YtohdaclbgedeiaaEVal
import Derived.Test.YtohdaclbgedeiaaEGoodP
import Derived.Test.YtohdaclbgedeiaaESimA
import Derived.BigQuiet
import Derived.Deep.RegionHeld3
import Derived.Test.YtohdaclbgedeiaaESimZ
import Derived.Test.YtohdaclbgedeiaaEvR
import Derived.Test.YtohdaclbgedeiaaESimB
namespace Go.Proofs.Ytohdaclbgedeiaa
set_option linter.all false
open Go.ChangeShapes Go.WideShapes Go.ChangeAt Go.RowKit
open Ev (Co tagsB tagIn formB plainB taggedB bindL)
/-- It says so. -/
def SayP (b : Bool) (w : World) (e : Ending) (w' : World) : Prop := e = .returned (.bool b) ∧ Below w.heap.size w w'
theorem say_of {b c : Bool} {w w' : World} (h : c = b) (hb : Below w.heap.size w w') : SayP b w (.returned (.bool c)) w' := ⟨by rw [h], hb⟩
theorem of_tags {i : Bool} : ∀ {ts seen : List Int}, tagsB i seen ts = true → (∀ n ∈ ts, tagIn i n = true) ∧ ts.Nodup ∧ ∀ n ∈ ts, n ∉ seen
  | [], _, _ => ⟨by simp, List.nodup_nil, by simp⟩
  | n :: ts, seen, h => by
    rw [tagsB] at h
    obtain ⟨h1, h2⟩ := Ev.plain_false h
    obtain ⟨h0, h1⟩ := Ev.plain_false h1
    obtain ⟨q1, q2, q3⟩ := of_tags h2
    have h0' : n ∉ seen := by simpa using h0
    refine ⟨fun m hm => ?_, List.nodup_cons.2 ⟨fun hm => q3 n hm (by simp), q2⟩, fun m hm => ?_⟩
    · rcases List.mem_cons.1 hm with rfl | hm
      · exact h1
      · exact q1 m hm
    · rcases List.mem_cons.1 hm with rfl | hm
      · exact h0'
      · exact fun hs => q3 m hm (by simp [hs])
theorem nodup_at {l : List Int} (h : l.Nodup) {i k : Nat} (hi : i < l.length) (hk : k < i) : l[k]'(by omega) ≠ l[i]'hi := by
  unfold List.Nodup at h
  rw [List.pairwise_iff_getElem] at h
  exact h k i (by omega) hi hk
set_option maxHeartbeats 4000000 in
set_option maxRecDepth 100000 in
theorem once_yes (l : List Int) (T : Option Addr) (tc : Nat) (S : Nat → Prop) (w : World) (hI : IAt w S l T tc) (hn : l.Nodup) : Calls Try.prog 65 #[.slice T l.length tc] w (SayP true w) := by
  have HI := hid hI
  have HN := hid hn
  have ht := hI.1.2.2.2
  clear hI hn
  go_enter Try.func65, Try.ntmps65
  go_wp2
  go_loopg [3] l.length (fun g z wr => ∃ i : Nat, i + g = l.length ∧ z = .int .i64 i ∧ Hid (Below w.heap.size w wr))
  case atStart => exact ⟨0, by omega, rfl, hid (Below.refl _ _)⟩
  case round =>
    obtain ⟨i, hi, rfl, hb⟩ := hrel
    have Hi := hid hi
    by_cases hlt : i < l.length
    case neg =>
      obtain rfl : i = l.length := by omega
      clear hi
      go_wp2
      go_ret
      exact ⟨rfl, hb.out⟩
    have hlt' : (i : Int) < l.length := by omega
    have HLT := hid hlt
    obtain ⟨W, hW⟩ : ∃ W, W = wr := ⟨_, rfl⟩
    subst hW
    obtain ⟨gi, hgi⟩ : ∃ gi, gi = gk := ⟨_, rfl⟩
    subst hgi
    clear hi
    go_wp2
    go_loopg [4] i (fun g z wr => ∃ k : Nat, k + g = i ∧ z = .int .i64 k ∧ Hid (Below w.heap.size w wr))
    case atStart => exact ⟨0, by omega, rfl, hb⟩
    case round =>
      obtain ⟨k, hk, rfl, hbb⟩ := hrel
      have Hk := hid hk
      by_cases hlk : k < i
      case neg =>
        obtain rfl : k = i := by omega
        clear hk
        go_wp2
        have hgk := Hi.out
        go_roundg (gi - 1)
        case rel => exact ⟨k + 1, by omega, by go_num, hbb⟩
        case measure => omega
      have hlk' : (k : Int) < i := by omega
      have hlk2 : (k : Int) < l.length := by omega
      obtain ⟨ad, rfl, hS9, y0, _⟩ := (HI.out.keep (fun b hb' hl => ⟨hbb.out.block b hl, hb'⟩)).2 k (by omega)
      obtain ⟨ad', e9, hS8, y1, _⟩ := (HI.out.keep (fun b hb' hl => ⟨hbb.out.block b hl, hb'⟩)).2 i HLT.out
      injection e9 with e9
      subst e9
      obtain ⟨t, ht9⟩ : ∃ t, t = l[k]'(by omega) := ⟨_, rfl⟩
      obtain ⟨u, hu9⟩ : ∃ u, u = l[i]'HLT.out := ⟨_, rfl⟩
      have he : ¬ t = u := by rw [ht9, hu9]; exact nodup_at HN.out HLT.out hlk
      replace y0 : wr.cell? (ad.add k) = some (.int .i64 t) := by rw [ht9]; exact y0
      replace y1 : wr.cell? (ad.add i) = some (.int .i64 u) := by rw [hu9]; exact y1
      have HK := hid hlk
      clear hk ht9 hu9 hS8 hS9
      go_wp2
      go_region
      go_wp2
      have hgk := Hk.out
      have hlk9 := HK.out
      go_roundg (gk - 1)
      case rel => exact ⟨k + 1, by omega, by go_num, hid hbb.out.drew⟩
      case measure => omega
set_option maxHeartbeats 4000000 in
set_option maxRecDepth 100000 in
theorem tags_ints_yes (l : List Int) (T : Option Addr) (tc : Nat) (S : Nat → Prop) (w : World) (hI : IAt w S l T tc) (hl : l.length ≤ 65536) (hN : l.Nodup) (hT : ∀ n ∈ l, tagIn true n = true) : Calls Try.prog 53 #[.slice T l.length tc, .bool true] w (SayP true w) := by
  have HI := hid hI
  have HN := hid hN
  have HT := hid hT
  have ht := hI.1.2.2.2
  have hl' : (l.length : Int) ≤ 65536 := by omega
  clear hI hN hT
  go_enter Try.func53, Try.ntmps53
  go_wp2
  go_loopg [5] l.length (fun g z wr => ∃ i : Nat, i + g = l.length ∧ z = .int .i64 i ∧ Hid (Below w.heap.size w wr))
  case atStart => exact ⟨0, by omega, rfl, hid (Below.refl _ _)⟩
  case round =>
    obtain ⟨i, hi, rfl, hb⟩ := hrel
    have Hi := hid hi
    by_cases hlt : i < l.length
    case neg =>
      obtain rfl : i = l.length := by omega
      clear hi
      go_wp2_with (go_at_call 65; (refine (once_yes l T tc S _ (HI.out.keep (fun b hb' hl => ⟨hb.out.block b hl, hb'⟩)) HN.out).mono ?_); rintro e w1 ⟨rfl, b1⟩; have B1 := hid b1; clear b1)
      all_goals go_ret
      all_goals exact ⟨rfl, below_hop B1.out hb.out⟩
    have hlt' : (i : Int) < l.length := by omega
    have HLT := hid hlt
    obtain ⟨ad, rfl, hS9, y0, hwf⟩ := (HI.out.keep (fun b hb' hl => ⟨hb.out.block b hl, hb'⟩)).2 i hlt
    obtain ⟨t, ht9⟩ : ∃ t, t = l[i]'hlt := ⟨_, rfl⟩
    have he := HT.out t (by rw [ht9]; exact List.getElem_mem hlt)
    unfold tagIn at he
    replace y0 : wr.cell? (ad.add i) = some (.int .i64 t) := by rw [ht9]; exact y0
    clear hi ht9 hwf hS9
    replace he : in31 t = true := by simpa using he
    have he2 := he
    go_wp2_with (go_at_call 51; (refine (ref10_In t _).mono ?_); rw [he]; rintro e w1 ⟨rfl, h9⟩; have h8 := h9.symm; subst h8; clear h9)
    have hgk := Hi.out
    have hlt9 := HLT.out
    go_roundg (gk - 1)
    case rel => exact ⟨i + 1, by omega, by go_num, hb⟩
    case measure => omega
set_option maxHeartbeats 4000000 in
set_option maxRecDepth 100000 in
theorem tags_cons_yes (l : List Int) (T : Option Addr) (tc : Nat) (S : Nat → Prop) (w : World) (hI : IAt w S l T tc) (hl : l.length ≤ 65536) (hN : l.Nodup) (hT : ∀ n ∈ l, tagIn false n = true) : Calls Try.prog 53 #[.slice T l.length tc, .bool false] w (SayP true w) := by
  have HI := hid hI
  have HN := hid hN
  have HT := hid hT
  have ht := hI.1.2.2.2
  have hl' : (l.length : Int) ≤ 65536 := by omega
  clear hI hN hT
  go_enter Try.func53, Try.ntmps53
  go_wp2
  go_loopg [5] l.length (fun g z wr => ∃ i : Nat, i + g = l.length ∧ z = .int .i64 i ∧ Hid (Below w.heap.size w wr))
  case atStart => exact ⟨0, by omega, rfl, hid (Below.refl _ _)⟩
  case round =>
    obtain ⟨i, hi, rfl, hb⟩ := hrel
    have Hi := hid hi
    by_cases hlt : i < l.length
    case neg =>
      obtain rfl : i = l.length := by omega
      clear hi
      go_wp2_with (go_at_call 65; (refine (once_yes l T tc S _ (HI.out.keep (fun b hb' hl => ⟨hb.out.block b hl, hb'⟩)) HN.out).mono ?_); rintro e w1 ⟨rfl, b1⟩; have B1 := hid b1; clear b1)
      all_goals go_ret
      all_goals exact ⟨rfl, below_hop B1.out hb.out⟩
    have hlt' : (i : Int) < l.length := by omega
    have HLT := hid hlt
    obtain ⟨ad, rfl, hS9, y0, hwf⟩ := (HI.out.keep (fun b hb' hl => ⟨hb.out.block b hl, hb'⟩)).2 i hlt
    obtain ⟨t, ht9⟩ : ∃ t, t = l[i]'hlt := ⟨_, rfl⟩
    have he := HT.out t (by rw [ht9]; exact List.getElem_mem hlt)
    unfold tagIn at he
    replace y0 : wr.cell? (ad.add i) = some (.int .i64 t) := by rw [ht9]; exact y0
    clear hi ht9 hwf hS9
    replace he : ¬ t < 0 ∧ ¬ 31 < t := by simp at he; omega
    obtain ⟨he1, he2⟩ := he
    go_wp2
    have hgk := Hi.out
    have hlt9 := HLT.out
    go_roundg (gk - 1)
    case rel => exact ⟨i + 1, by omega, by go_num, hb⟩
    case measure => omega
theorem tags_yes (l : List Int) (b : Bool) (T : Option Addr) (tl tc : Nat) (S : Nat → Prop) (w : World) (htl : tl = l.length) (hI : IAt w S l T tc) (hl : l.length ≤ 65536) (h : tagsB b [] l = true) : Calls Try.prog 53 #[.slice T tl tc, .bool b] w (SayP true w) := by
  subst htl
  obtain ⟨h1, h2, _⟩ := of_tags h
  cases b
  · exact tags_cons_yes l T tc S w hI hl h2 h1
  · exact tags_ints_yes l T tc S w hI hl h2 h1
end Go.Proofs.Ytohdaclbgedeiaa
/-
  THE WALK OF athanorref20.shape, WHERE IT SAYS YES.
-/
namespace Go.Proofs.Ytohdaclbgedeiaa
set_option linter.all false
open Go.ChangeShapes Go.WideShapes Go.ChangeAt Go.RowKit
open Ev (Co tagsB tagIn formB plainB taggedB bindL)

set_option maxHeartbeats 8000000 in
set_option maxRecDepth 100000 in
theorem shape1_yes (x : Int) (T A : Option Addr) (tc c : Nat) (w : World) : Calls Try.prog 38 #[.agg #[.int .i64 1, .int .i64 x, .int .i64 0, .int .i64 0, .bool false, .slice T 0 tc, .slice A 0 c]] w (SayP true w) := by
  go_enter Try.func38, Try.ntmps38
  go_wp2_with fail
  go_ret
  exact say_of (by first | rfl | simp [*]) (al1 _ _)

set_option maxHeartbeats 8000000 in
set_option maxRecDepth 100000 in
theorem shape2_yes (m : Int) (T A : Option Addr) (tc c : Nat) (w : World) (hin : in31 m = true) : Calls Try.prog 38 #[.agg #[.int .i64 2, .int .i64 0, .int .i64 0, .int .i64 m, .bool false, .slice T 0 tc, .slice A 0 c]] w (SayP true w) := by
  go_enter Try.func38, Try.ntmps38
  go_wp2_with (go_at_call 51; (refine (ref10_In m _).mono ?_); rw [hin]; rintro e9 w1 ⟨rfl, h9⟩; have h8 := h9.symm; subst h8; clear h9)
  go_ret
  exact say_of (by first | rfl | simp [*]) (al1 _ _)

set_option maxHeartbeats 8000000 in
set_option maxRecDepth 100000 in
theorem shape3_yes (x : Int) (T A : Option Addr) (tc c : Nat) (w : World) (hx : 1 ≤ x ∧ x ≤ 65536) : Calls Try.prog 38 #[.agg #[.int .i64 3, .int .i64 x, .int .i64 0, .int .i64 0, .bool false, .slice T 0 tc, .slice A 1 c]] w (SayP true w) := by
  go_enter Try.func38, Try.ntmps38
  go_wp2_with (go_at_call 52; (refine (ref20_binder x _).mono ?_); rw [decide_eq_true hx]; rintro e9 w1 ⟨rfl, h9⟩; subst h9)
  go_ret
  exact say_of (by first | rfl | simp [*]) (al1 _ _)

set_option maxHeartbeats 8000000 in
set_option maxRecDepth 100000 in
theorem shape5_yes (x : Int) (T A : Option Addr) (tc c : Nat) (w : World) (hx : 1 ≤ x ∧ x ≤ 65536) : Calls Try.prog 38 #[.agg #[.int .i64 5, .int .i64 x, .int .i64 0, .int .i64 0, .bool false, .slice T 0 tc, .slice A 2 c]] w (SayP true w) := by
  go_enter Try.func38, Try.ntmps38
  go_wp2_with (go_at_call 52; (refine (ref20_binder x _).mono ?_); rw [decide_eq_true hx]; rintro e9 w1 ⟨rfl, h9⟩; subst h9)
  go_ret
  exact say_of (by first | rfl | simp [*]) (al1 _ _)

set_option maxHeartbeats 8000000 in
set_option maxRecDepth 100000 in
theorem shape6_yes (x y : Int) (T A : Option Addr) (tc c : Nat) (w : World) (hx : 1 ≤ x ∧ x ≤ 65536) (hy : 1 ≤ y ∧ y ≤ 65536) : Calls Try.prog 38 #[.agg #[.int .i64 6, .int .i64 x, .int .i64 y, .int .i64 0, .bool false, .slice T 0 tc, .slice A 2 c]] w (SayP true w) := by
  go_enter Try.func38, Try.ntmps38
  go_wp2_with (first | (go_at_call 52; (refine (ref20_binder x _).mono ?_); rw [decide_eq_true hx]; rintro e9 w1 ⟨rfl, h9⟩; subst h9) | (go_at_call 52; (refine (ref20_binder y _).mono ?_); rw [decide_eq_true hy]; rintro e9 w1 ⟨rfl, h9⟩; subst h9))
  go_ret
  exact say_of (by first | rfl | simp [*]) (al1 _ _)

set_option maxHeartbeats 8000000 in
set_option maxRecDepth 100000 in
theorem shape4_yes (T A : Option Addr) (tc c : Nat) (w : World) : Calls Try.prog 38 #[.agg #[.int .i64 4, .int .i64 0, .int .i64 0, .int .i64 0, .bool false, .slice T 0 tc, .slice A 2 c]] w (SayP true w) := by
  go_enter Try.func38, Try.ntmps38
  go_wp2_with fail
  go_ret
  exact say_of (by first | rfl | simp [*]) (al1 _ _)

set_option maxHeartbeats 8000000 in
set_option maxRecDepth 100000 in
theorem shape7_yes (m : Int) (l : Nat) (T A : Option Addr) (tc c : Nat) (w : World) (h1 : (l : Int) ≤ 8) (h2 : 0 ≤ m) (h3 : m < 32) : Calls Try.prog 38 #[.agg #[.int .i64 7, .int .i64 0, .int .i64 0, .int .i64 m, .bool false, .slice T 0 tc, .slice A l c]] w (SayP true w) := by
  go_enter Try.func38, Try.ntmps38
  go_wp2_with fail
  go_ret
  exact say_of (by first | rfl | simp [*]) (al1 _ _)

set_option maxHeartbeats 8000000 in
set_option maxRecDepth 100000 in
theorem shape8_yes (m : Int) (T A : Option Addr) (tc c : Nat) (w : World) (h2 : 0 ≤ m) (h3 : m < 8) : Calls Try.prog 38 #[.agg #[.int .i64 8, .int .i64 0, .int .i64 0, .int .i64 m, .bool false, .slice T 0 tc, .slice A 1 c]] w (SayP true w) := by
  go_enter Try.func38, Try.ntmps38
  go_wp2_with fail
  go_ret
  exact say_of (by first | rfl | simp [*]) (al1 _ _)

set_option maxHeartbeats 8000000 in
set_option maxRecDepth 100000 in
theorem shape10_yes (m : Int) (T A : Option Addr) (tc c : Nat) (w : World) (h2 : 1 ≤ m) (h3 : m ≤ 7) : Calls Try.prog 38 #[.agg #[.int .i64 10, .int .i64 0, .int .i64 0, .int .i64 m, .bool false, .slice T 0 tc, .slice A 2 c]] w (SayP true w) := by
  go_enter Try.func38, Try.ntmps38
  go_wp2_with fail
  go_ret
  exact say_of (by first | rfl | simp [*]) (al1 _ _)

set_option maxHeartbeats 8000000 in
set_option maxRecDepth 100000 in
theorem shape11_yes (T A : Option Addr) (tc c : Nat) (w : World) : Calls Try.prog 38 #[.agg #[.int .i64 11, .int .i64 0, .int .i64 0, .int .i64 0, .bool false, .slice T 0 tc, .slice A 1 c]] w (SayP true w) := by
  go_enter Try.func38, Try.ntmps38
  go_wp2_with fail
  go_ret
  exact say_of (by first | rfl | simp [*]) (al1 _ _)

set_option maxHeartbeats 8000000 in
set_option maxRecDepth 100000 in
theorem shape9_yes (b : Bool) (T A : Option Addr) (tl tc l c : Nat) (ts : List Int) (S : Nat → Prop) (w : World) (htl : tl = ts.length) (hI : IAt w S ts T tc) (hl : ts.length ≤ 65536) (h2 : 2 ≤ l) (h3 : l = tl + 1 ∨ l = tl + 2) (ht : tagsB b [] ts = true) : Calls Try.prog 38 #[.agg #[.int .i64 9, .int .i64 0, .int .i64 0, .int .i64 0, .bool b, .slice T tl tc, .slice A l c]] w (SayP true w) := by
  have HI := hid (And.intro htl (And.intro hI (And.intro hl ht)))
  have q0 : (2 : Int) ≤ (l : Int) := by omega
  have q1 : IntKind.i64.wrap ((tl : Int) + 1) = (tl : Int) + 1 := IntWalk.i64_in _ (by omega)
  have q2 : IntKind.i64.wrap ((tl : Int) + 2) = (tl : Int) + 2 := IntWalk.i64_in _ (by omega)
  clear htl hI hl ht h2
  rcases h3 with h3 | h3
  · have e1 : ((l : Int) == (tl : Int) + 1) = true := by simp; omega
    clear h3
    go_enter Try.func38, Try.ntmps38
    go_wp2_with (go_at_call 53; (refine (tags_yes ts b T tl tc S _ HI.out.1 (HI.out.2.1.keep (fun b hb' hl => ⟨(al1 w _).block b hl, hb'⟩)) HI.out.2.2.1 HI.out.2.2.2).mono ?_); rintro e w1 ⟨rfl, b1⟩; have B1 := hid b1; clear b1)
    go_ret
    exact say_of (by first | rfl | simp [*]) (below_hop B1.out (al1 _ _))
  · have e1 : ((l : Int) == (tl : Int) + 1) = false := by simp; omega
    have e2 : ((l : Int) == (tl : Int) + 2) = true := by simp; omega
    clear h3
    go_enter Try.func38, Try.ntmps38
    go_wp2_with (go_at_call 53; (refine (tags_yes ts b T tl tc S _ HI.out.1 (HI.out.2.1.keep (fun b hb' hl => ⟨(al1 w _).block b hl, hb'⟩)) HI.out.2.2.1 HI.out.2.2.2).mono ?_); rintro e w1 ⟨rfl, b1⟩; have B1 := hid b1; clear b1)
    go_ret
    exact say_of (by first | rfl | simp [*]) (below_hop B1.out (al1 _ _))
theorem plain_of {b : Bool} {ts : List Int} (h : plainB b ts = true) : b = false ∧ ts = [] := by
  unfold plainB at h
  cases b <;> cases ts <;> simp at h ⊢
theorem shape_yes (k x y m : Int) (b : Bool) (T A : Option Addr) (tc : Nat) (ts : List Int) (l c : Nat) (S : Nat → Prop) (w : World) (hI : IAt w S ts T tc) (hl : l ≤ 65536) (h : ShapeIs k x y m b ts l) : Calls Try.prog 38 #[.agg #[.int .i64 k, .int .i64 x, .int .i64 y, .int .i64 m, .bool b, .slice T ts.length tc, .slice A l c]] w (SayP true w) := by
  obtain ⟨hF, hL⟩ := h
  unfold formB at hF
  by_cases k1 : k = 1
  · subst k1
    rw [if_pos rfl] at hF
    obtain ⟨h1, h2⟩ := Ev.plain_false hF
    obtain ⟨rfl, rfl⟩ := plain_of h2
    have h3 := of_decide_eq_true h1
    obtain ⟨rfl, rfl, rfl⟩ := h3
    exact shape1_yes x T A tc c w
  rw [if_neg k1] at hF
  by_cases k2 : k = 2
  · subst k2
    rw [if_pos rfl] at hF
    obtain ⟨h1, h2⟩ := Ev.plain_false hF
    obtain ⟨h1, h4⟩ := Ev.plain_false h1
    obtain ⟨rfl, rfl⟩ := plain_of h2
    obtain ⟨rfl, rfl, rfl⟩ := of_decide_eq_true h1
    exact shape2_yes m T A tc c w h4
  rw [if_neg k2] at hF
  by_cases k3 : k = 3
  · subst k3
    rw [if_pos rfl] at hF
    obtain ⟨h1, h2⟩ := Ev.plain_false hF
    obtain ⟨rfl, rfl⟩ := plain_of h2
    have h3 := of_decide_eq_true h1
    obtain ⟨rfl, rfl, rfl⟩ := h3
    exact shape3_yes x T A tc c w (hL x (by simp [bindL]))
  rw [if_neg k3] at hF
  by_cases k4 : k = 4
  · subst k4
    rw [if_pos rfl] at hF
    obtain ⟨h1, h2⟩ := Ev.plain_false hF
    obtain ⟨rfl, rfl⟩ := plain_of h2
    have h3 := of_decide_eq_true h1
    obtain ⟨rfl, rfl, rfl, rfl⟩ := h3
    exact shape4_yes T A tc c w
  rw [if_neg k4] at hF
  by_cases k5 : k = 5
  · subst k5
    rw [if_pos rfl] at hF
    obtain ⟨h1, h2⟩ := Ev.plain_false hF
    obtain ⟨rfl, rfl⟩ := plain_of h2
    have h3 := of_decide_eq_true h1
    obtain ⟨rfl, rfl, rfl⟩ := h3
    exact shape5_yes x T A tc c w (hL x (by simp [bindL]))
  rw [if_neg k5] at hF
  by_cases k6 : k = 6
  · subst k6
    rw [if_pos rfl] at hF
    obtain ⟨h1, h2⟩ := Ev.plain_false hF
    obtain ⟨rfl, rfl⟩ := plain_of h2
    have h3 := of_decide_eq_true h1
    obtain ⟨rfl, rfl⟩ := h3
    exact shape6_yes x y T A tc c w (hL x (by simp [bindL])) (hL y (by simp [bindL]))
  rw [if_neg k6] at hF
  by_cases k7 : k = 7
  · subst k7
    rw [if_pos rfl] at hF
    obtain ⟨h1, h2⟩ := Ev.plain_false hF
    obtain ⟨rfl, rfl⟩ := plain_of h2
    have h3 := of_decide_eq_true h1
    obtain ⟨h4, rfl, rfl, h5, h6⟩ := h3
    exact shape7_yes m l T A tc c w (by omega) h5 h6
  rw [if_neg k7] at hF
  by_cases k8 : k = 8
  · subst k8
    rw [if_pos rfl] at hF
    obtain ⟨h1, h2⟩ := Ev.plain_false hF
    obtain ⟨rfl, rfl⟩ := plain_of h2
    have h3 := of_decide_eq_true h1
    obtain ⟨rfl, rfl, rfl, h5, h6⟩ := h3
    exact shape8_yes m T A tc c w h5 h6
  rw [if_neg k8] at hF
  by_cases k9 : k = 9
  · subst k9
    rw [if_pos rfl] at hF
    obtain ⟨h1, h2⟩ := Ev.plain_false hF
    obtain ⟨rfl, rfl, rfl⟩ := of_decide_eq_true h1
    unfold taggedB at h2
    obtain ⟨h3, h4⟩ := Ev.plain_false h2
    have h5 := of_decide_eq_true h3
    exact shape9_yes b T A ts.length tc l c ts S w rfl hI (by omega) h5.1 h5.2 h4
  rw [if_neg k9] at hF
  by_cases k10 : k = 10
  · subst k10
    rw [if_pos rfl] at hF
    obtain ⟨h1, h2⟩ := Ev.plain_false hF
    obtain ⟨rfl, rfl⟩ := plain_of h2
    have h3 := of_decide_eq_true h1
    obtain ⟨rfl, rfl, rfl, h5, h6⟩ := h3
    exact shape10_yes m T A tc c w h5 h6
  rw [if_neg k10] at hF
  by_cases k11 : k = 11
  · subst k11
    rw [if_pos rfl] at hF
    obtain ⟨h1, h2⟩ := Ev.plain_false hF
    obtain ⟨rfl, rfl⟩ := plain_of h2
    have h3 := of_decide_eq_true h1
    obtain ⟨rfl, rfl, rfl, rfl⟩ := h3
    exact shape11_yes T A tc c w
  rw [if_neg k11] at hF
  cases hF
end Go.Proofs.Ytohdaclbgedeiaa
/-
  THE WALKS OF athanorref20's deep AND shapes, WHERE THEY LET AN EXPRESSION BE.
-/
namespace Go.Proofs.Ytohdaclbgedeiaa
set_option linter.all false
open Go.ChangeShapes Go.WideShapes Go.ChangeAt Go.RowKit
open Ev (Co nodes nodesL updI formB bindL addM)
theorem lowML_at : ∀ {us : List Co} {d : Nat}, lowML us d → ∀ u ∈ us, lowM u d
  | [], d, _, u, hu => by cases hu
  | c :: cs, d, h, u, hu => by
    rw [lowML] at h
    rcases List.mem_cons.1 hu with rfl | hu
    · exact h.1
    · exact lowML_at h.2 u hu
set_option maxHeartbeats 4000000 in
set_option maxRecDepth 100000 in
theorem deep_nodeY (k x y m : Int) (b : Bool) (T A : Option Addr) (tc : Nat) (ts : List Int) (us : List Co) (c d : Nat) (S : Nat → Prop) (w : World) (hm : us.length ≤ 17592186044416) (hd : d < 17592186044416) (hrow : CRow w S us A 0)
    (ih : ∀ t ∈ us, ∀ (v : Value) (S : Nat → Prop) (w : World), CAt w S t v → Calls Try.prog 26 #[v, .int .i64 d] w (SayP false w)) :
    Calls Try.prog 26 #[.agg #[.int .i64 k, .int .i64 x, .int .i64 y, .int .i64 m, .bool b, .slice T ts.length tc, .slice A us.length c], .int .i64 ((d : Int) + 1)] w (SayP false w) := by
  have hL : us.length ≤ 281474976710656 := by omega
  have H := hid (And.intro hm (And.intro hrow ih))
  have e0 : ((d : Int) + 1 == 0) = false := by simp; omega
  have q1 : IntKind.i64.wrap ((d : Int) + 1 - 1) = (d : Int) := by rw [IntWalk.i64_in _ (by omega)]; omega
  obtain ⟨z0, hz0⟩ : ∃ z : Int, z = (d : Int) + 1 := ⟨_, rfl⟩
  rw [← hz0] at e0 q1 ⊢
  clear hm hrow ih hz0
  go_enter Try.func26, Try.ntmps26
  go_wp2
  go_loopg [5] us.length (fun g z wr => ∃ (i : Nat), i + g = us.length ∧ z = .int .i64 i ∧ Hid (Blk wr w.heap.size 25 #[.int .i64 k, .int .i64 x, .int .i64 y, .int .i64 m, .bool b, .slice T ts.length tc, .slice A us.length c]) ∧ Hid (Below w.heap.size w wr))
  case atStart => exact ⟨0, by omega, rfl, hid (Blk.new _ _ _), hid (al1 _ _)⟩
  case round =>
    obtain ⟨i, hi, rfl, hb, hbl⟩ := hrel
    have Hi := hid hi
    have x6 : wr.cell? ⟨w.heap.size, 6, none⟩ = some (.slice A us.length c) := hb.out.cell 6
    by_cases hlt : i < us.length
    · have hlt' : (i : Int) < us.length := by omega
      obtain ⟨ad, k2, x2, y2, n2, i2, T2, tl2, tc2, A2, m2', c2, rfl, hSb, hab, ⟨y0, y1, y2', y3, y4, y5, y6⟩, hel⟩ := (H.out.2.1.up hbl.out).elem hlt
      obtain ⟨t, ht⟩ : ∃ t, t = us[i] := ⟨_, rfl⟩
      rw [← ht] at hel
      have Q := hid (And.intro hel (show t ∈ us by rw [ht]; exact List.getElem_mem hlt))
      clear hi hel hSb hab ht
      go_wp2_with (go_at_call 26; go_must (refine (H.out.2.2 t Q.out.2 _ _ _ Q.out.1).mono ?_); rintro e w1 ⟨rfl, b1⟩; have R := hid b1; clear b1)
      have hgk := Hi.out
      have hbm := hb.out.lt
      go_roundg (gk - 1)
      case rel => exact ⟨i + 1, by omega, by go_num, hid (hb.out.below R.out hbm), hid (below_hop R.out hbl.out)⟩
      case measure => omega
    · obtain rfl : i = us.length := by omega
      clear hi
      go_wp2
      go_ret
      exact ⟨rfl, hbl.out⟩
theorem deep_low : ∀ (N : Nat) (t : Co), SizeOf.sizeOf t ≤ N → ∀ (d : Nat), d < 17592186044416 → lowM t d → ∀ (v : Value) (S : Nat → Prop) (w : World), CAt w S t v → Calls Try.prog 26 #[v, .int .i64 d] w (SayP false w) := by
  intro N
  induction N with
  | zero => intro t ht; cases t; simp at ht
  | succ N ih =>
  intro t ht d hd hl v S w hv
  obtain ⟨k, x, y, m, i, ts, us⟩ := t
  obtain ⟨T, tc, A, c, rfl, hI, hc, hrow, _⟩ := hv.parts
  rw [lowM] at hl
  cases d with
  | zero => omega
  | succ d => exact deep_nodeY k x y m i T A tc ts us c d S w hc.2.2.2 (by omega) hrow (fun t hm v S w => ih t (by have := co_lt (k := k) (x := x) (y := y) (n := m) (i := i) (ts := ts) hm; omega) d (by omega) (lowML_at hl.2 t hm) v S w)
/-- It says yes, and has written which were met. -/
def ShaY (f' : Int → Int) (g : Nat) (w : World) (e : Ending) (w' : World) : Prop := e = .returned (.bool true) ∧ BRow w' g f' ∧ w.grownBy w' (some g)
def ShYH (us : List Co) (g N : Nat) : Prop := ∀ t ∈ us, ∀ (v : Value) (S : Nat → Prop) (f f' : Int → Int) (w : World), CAt w S t v → (∀ b, S b → b ≠ g) → BRow w g f → Z01 f → nodes t ≤ 65536 → bindsM t f = some f' → Calls Try.prog 27 #[v, .slice (some ⟨g, 0, none⟩) N N] w (ShaY f' g w)
set_option maxHeartbeats 8000000 in
set_option maxRecDepth 100000 in
theorem sy_rest (k x y m : Int) (b : Bool) (T A : Option Addr) (tc : Nat) (ts : List Int) (us : List Co) (c : Nat) (S : Nat → Prop) (g N : Nat) (f f' : Int → Int) (w : World) (hl : us.length ≤ 17592186044416 ∧ us.length ≤ 65536) (hI : IAt w S ts T tc) (hrow : CRow w S us A 0) (hS : ∀ b, S b → b ≠ g) (hB : BRow w g f) (hZ : Z01 f) (hN : N = 65537) (hw : ∀ u ∈ us, nodes u ≤ 65536)
    (k3 : (k == 3) = false) (k5 : (k == 5) = false) (k6 : (k == 6) = false) (hF : ShapeIs k x y m b ts us.length) (hP : bindsML us f = some f') (ih : ShYH us g N) :
    Calls Try.prog 27 #[.agg #[.int .i64 k, .int .i64 x, .int .i64 y, .int .i64 m, .bool b, .slice T ts.length tc, .slice A us.length c], .slice (some ⟨g, 0, none⟩) N N] w (ShaY f' g w) := by
  have HI := hid hI
  have HL := hid hl
  have HB := hid hB
  have HZ := hid hZ
  have HS := hid hS
  have HR := hid hrow
  have IH := hid ih
  have HP := hid hP
  have HN := hid hN
  have HF := hid hF
  have HW := hid hw
  have hgl := hB.lt
  have hgne : ¬ w.heap.size = g := by omega
  have hgne2 : ¬ g = w.heap.size := by omega
  have hL : us.length ≤ 281474976710656 := by omega
  clear hI hl hB hZ hS hrow ih hP hN hF hw
  go_enter Try.func27, Try.ntmps27
  go_wp2_with (go_at_call 38; (refine (shape_yes _ x y m b T A tc ts us.length c S _ (HI.out.up (al1 _ _)) HL.out.2 HF.out).mono ?_); rintro e w1 ⟨rfl, b1⟩; have HA := hid (ShSt.start HB.out HZ.out b1); clear b1; obtain ⟨x0, x1, x2, x3, x4, x5, x6⟩ := HA.out.bx.seven; have hl0 := HA.out.bx.lt)
  go_loopg [6] 0 (fun gg z wr => gg = 0 ∧ z = .int .i64 0 ∧ Hid (ShSt w g #[.int .i64 k, .int .i64 x, .int .i64 y, .int .i64 m, .bool b, .slice T ts.length tc, .slice A us.length c] f wr))
  case atStart => exact ⟨rfl, rfl, HA⟩
  case round =>
    obtain ⟨rfl, rfl, hs⟩ := hrel
    have hl0 := hs.out.bx.lt
    go_wp2
    go_loopg [7] us.length (fun gg z wr => ∃ (q : Nat) (fq : Int → Int), q + gg = us.length ∧ z = .int .i64 q ∧ Hid (ShSt w g #[.int .i64 k, .int .i64 x, .int .i64 y, .int .i64 m, .bool b, .slice T ts.length tc, .slice A us.length c] fq wr) ∧ Hid (bindsML (us.drop q) fq = some f'))
    case atStart => exact ⟨0, f, by omega, rfl, hs, hid HP.out⟩
    case round =>
      obtain ⟨q, fq, hq, rfl, hb, hp⟩ := hrel
      have Hq := hid hq
      have x6 : wr.cell? ⟨w.heap.size, 6, none⟩ = some (.slice A us.length c) := hb.out.bx.cell 6
      by_cases hlt : q < us.length
      · have hlt' : (q : Int) < us.length := by omega
        have hkeep : ∀ b, S b → b < w.heap.size → wr.heap[b]? = w.heap[b]? ∧ S b := fun b hb' hl => ⟨hb.out.gr.block b hl (fun e => HS.out b hb' (by injection e)), hb'⟩
        obtain ⟨ad, k2, x2, y2, n2, i2, T2, tl2, tc2, A2, m2', c2, rfl, hSb, hab, ⟨y0, y1, y2', y3, y4, y5, y6⟩, hel⟩ := (CRow.keep hkeep _ _ _ HR.out).elem hlt
        have hp2 := hp.out
        rw [List.drop_eq_getElem_cons hlt, bindsML] at hp2
        obtain ⟨f9, hf9, hp3⟩ : ∃ f9, bindsM us[q] fq = some f9 ∧ bindsML (us.drop (q + 1)) f9 = some f' := by (cases h9 : bindsM us[q] fq with | none => (rw [h9] at hp2; cases hp2) | some f9 => (rw [h9] at hp2; exact ⟨f9, rfl, hp2⟩))
        have hsz : nodes us[q] ≤ 65536 := by (have h8 := HW.out us[q] (List.getElem_mem hlt); exact h8)
        have Q := hid (And.intro hel (And.intro (List.getElem_mem hlt) (And.intro hf9 (And.intro hp3 hsz))))
        clear hq hel hSb hab hkeep hp2 hf9 hp3 hsz
        generalize us[q] = t at Q
        go_wp2_with (go_at_call 27; go_must (refine (IH.out t Q.out.2.1 _ S fq f9 _ Q.out.1 HS.out hb.out.row hb.out.z01 Q.out.2.2.2.2 Q.out.2.2.1).mono ?_); rintro e w9 ⟨rfl, hr, hg9⟩; go_must (have R := hid (And.intro hr hg9); clear hr hg9))
        have hgk := Hq.out
        go_roundg (gk - 1)
        case rel => exact ⟨q + 1, f9, by omega, by go_num, hid (hb.out.call R.out.2 R.out.1 (hb.out.z01.binds Q.out.2.2.1) hgne), hid Q.out.2.2.2.1⟩
        case measure => omega
      · obtain rfl : q = us.length := by omega
        clear hq
        go_wp2
        go_ret
        exact ⟨rfl, (by have h9 := hp.out; rw [List.drop_length, bindsML] at h9; injection h9 with h9; subst h9; exact hb.out.row), hb.out.gr⟩
set_option maxHeartbeats 8000000 in
set_option maxRecDepth 100000 in
theorem sy_one3 (y m : Int) (i : Nat) (b : Bool) (T A : Option Addr) (tc : Nat) (ts : List Int) (us : List Co) (c : Nat) (S : Nat → Prop) (g N : Nat) (f f' : Int → Int) (w : World) (hi1 : 0 < i) (hi2 : i < 65537) (hl : us.length ≤ 17592186044416 ∧ us.length ≤ 65536) (hI : IAt w S ts T tc) (hrow : CRow w S us A 0) (hS : ∀ b, S b → b ≠ g) (hB : BRow w g f) (hZ : Z01 f) (hN : N = 65537) (hw : ∀ u ∈ us, nodes u ≤ 65536)
    (hF : ShapeIs 3 i y m b ts us.length) (hf : f i = 0) (hP : bindsML us (updI f i (f i + 1)) = some f') (ih : ShYH us g N) :
    Calls Try.prog 27 #[.agg #[.int .i64 3, .int .i64 i, .int .i64 y, .int .i64 m, .bool b, .slice T ts.length tc, .slice A us.length c], .slice (some ⟨g, 0, none⟩) N N] w (ShaY f' g w) := by
  have HFI := hid hf
  clear hf
  have HI := hid hI
  have HL := hid hl
  have HB := hid hB
  have HZ := hid hZ
  have HS := hid hS
  have HR := hid hrow
  have IH := hid ih
  have HP := hid hP
  have HN := hid hN
  have HF := hid hF
  have HW := hid hw
  have hgl := hB.lt
  have hgne : ¬ w.heap.size = g := by omega
  have hgne2 : ¬ g = w.heap.size := by omega
  have hL : us.length ≤ 281474976710656 := by omega
  clear hI hl hB hZ hS hrow ih hP hN hF hw
  have i1 : (0 : Int) ≤ (i : Int) := by omega
  have i2 : (i : Int) < N := by have := HN.out; omega
  have i4 : i < N := by have := HN.out; omega
  have HI2 := hid hi2
  clear hi2
  go_enter Try.func27, Try.ntmps27
  go_wp2_with (go_at_call 38; (refine (shape_yes _ i y m b T A tc ts us.length c S _ (HI.out.up (al1 _ _)) HL.out.2 HF.out).mono ?_); rintro e w1 ⟨rfl, b1⟩; have HA := hid (ShSt.start HB.out HZ.out b1); clear b1; obtain ⟨x0, x1, x2, x3, x4, x5, x6⟩ := HA.out.bx.seven; have hl0 := HA.out.bx.lt)
  go_loopg [6] 1 (fun gg z wr => (gg = 1 ∧ z = .int .i64 0 ∧ Hid (ShSt w g #[.int .i64 3, .int .i64 i, .int .i64 y, .int .i64 m, .bool b, .slice T ts.length tc, .slice A us.length c] f wr ∧ Blk wr w1.heap.size 3 #[.int .i64 i])) ∨ (gg = 0 ∧ z = .int .i64 1 ∧ Hid (ShSt w g #[.int .i64 3, .int .i64 i, .int .i64 y, .int .i64 m, .bool b, .slice T ts.length tc, .slice A us.length c] (updI f i (f i + 1)) wr)))
  case atStart => exact .inl ⟨rfl, rfl, hid ⟨HA.out.up (al1 _ _), Blk.new _ _ _⟩⟩
  case round =>
    rcases hrel with ⟨rfl, rfl, hs⟩ | ⟨rfl, rfl, hs⟩
    · have l0 : wr.cell? ⟨w1.heap.size, 0, none⟩ = some (.int .i64 i) := hs.out.2.cell 0
      have c1 : wr.cell? ⟨g, i, none⟩ = some (.int .i64 0) := by rw [hs.out.1.row.cell HI2.out, HFI.out]
      have f1 : wr.frozen? ⟨g, i, none⟩ = false := hs.out.1.row.frozen i
      have g1 := hs.out.1.row.lt
      go_wp2
      go_roundg 0
      case rel => exact .inr ⟨rfl, by go_num, hid (hs.out.1.set_ HI2.out (by have := HFI.out; omega) hgne)⟩
      case measure => omega
    · have hl0 := hs.out.bx.lt
      go_wp2
      go_loopg [7] us.length (fun gg z wr => ∃ (q : Nat) (fq : Int → Int), q + gg = us.length ∧ z = .int .i64 q ∧ Hid (ShSt w g #[.int .i64 3, .int .i64 i, .int .i64 y, .int .i64 m, .bool b, .slice T ts.length tc, .slice A us.length c] fq wr) ∧ Hid (bindsML (us.drop q) fq = some f'))
      case atStart => exact ⟨0, _, by omega, rfl, hs, hid HP.out⟩
      case round =>
        obtain ⟨q, fq, hq, rfl, hb, hp⟩ := hrel
        have Hq := hid hq
        have x6 : wr.cell? ⟨w.heap.size, 6, none⟩ = some (.slice A us.length c) := hb.out.bx.cell 6
        by_cases hlt : q < us.length
        · have hlt' : (q : Int) < us.length := by omega
          have hkeep : ∀ b, S b → b < w.heap.size → wr.heap[b]? = w.heap[b]? ∧ S b := fun b hb' hl => ⟨hb.out.gr.block b hl (fun e => HS.out b hb' (by injection e)), hb'⟩
          obtain ⟨ad, k2, x2, y2, n2, i2, T2, tl2, tc2, A2, m2', c2, rfl, hSb, hab, ⟨y0, y1, y2', y3, y4, y5, y6⟩, hel⟩ := (CRow.keep hkeep _ _ _ HR.out).elem hlt
          have hp2 := hp.out
          rw [List.drop_eq_getElem_cons hlt, bindsML] at hp2
          obtain ⟨f9, hf9, hp3⟩ : ∃ f9, bindsM us[q] fq = some f9 ∧ bindsML (us.drop (q + 1)) f9 = some f' := by (cases h9 : bindsM us[q] fq with | none => (rw [h9] at hp2; cases hp2) | some f9 => (rw [h9] at hp2; exact ⟨f9, rfl, hp2⟩))
          have hsz : nodes us[q] ≤ 65536 := by (have h8 := HW.out us[q] (List.getElem_mem hlt); exact h8)
          have Q := hid (And.intro hel (And.intro (List.getElem_mem hlt) (And.intro hf9 (And.intro hp3 hsz))))
          clear hq hel hSb hab hkeep hp2 hf9 hp3 hsz
          generalize us[q] = t at Q
          go_wp2_with (go_at_call 27; go_must (refine (IH.out t Q.out.2.1 _ S fq f9 _ Q.out.1 HS.out hb.out.row hb.out.z01 Q.out.2.2.2.2 Q.out.2.2.1).mono ?_); rintro e w9 ⟨rfl, hr, hg9⟩; go_must (have R := hid (And.intro hr hg9); clear hr hg9))
          have hgk := Hq.out
          go_roundg (gk - 1)
          case rel => exact ⟨q + 1, f9, by omega, by go_num, hid (hb.out.call R.out.2 R.out.1 (hb.out.z01.binds Q.out.2.2.1) hgne), hid Q.out.2.2.2.1⟩
          case measure => omega
        · obtain rfl : q = us.length := by omega
          clear hq
          go_wp2
          go_ret
          exact ⟨rfl, (by have h9 := hp.out; rw [List.drop_length, bindsML] at h9; injection h9 with h9; subst h9; exact hb.out.row), hb.out.gr⟩
set_option maxHeartbeats 8000000 in
set_option maxRecDepth 100000 in
theorem sy_one5 (y m : Int) (i : Nat) (b : Bool) (T A : Option Addr) (tc : Nat) (ts : List Int) (us : List Co) (c : Nat) (S : Nat → Prop) (g N : Nat) (f f' : Int → Int) (w : World) (hi1 : 0 < i) (hi2 : i < 65537) (hl : us.length ≤ 17592186044416 ∧ us.length ≤ 65536) (hI : IAt w S ts T tc) (hrow : CRow w S us A 0) (hS : ∀ b, S b → b ≠ g) (hB : BRow w g f) (hZ : Z01 f) (hN : N = 65537) (hw : ∀ u ∈ us, nodes u ≤ 65536)
    (hF : ShapeIs 5 i y m b ts us.length) (hf : f i = 0) (hP : bindsML us (updI f i (f i + 1)) = some f') (ih : ShYH us g N) :
    Calls Try.prog 27 #[.agg #[.int .i64 5, .int .i64 i, .int .i64 y, .int .i64 m, .bool b, .slice T ts.length tc, .slice A us.length c], .slice (some ⟨g, 0, none⟩) N N] w (ShaY f' g w) := by
  have HFI := hid hf
  clear hf
  have HI := hid hI
  have HL := hid hl
  have HB := hid hB
  have HZ := hid hZ
  have HS := hid hS
  have HR := hid hrow
  have IH := hid ih
  have HP := hid hP
  have HN := hid hN
  have HF := hid hF
  have HW := hid hw
  have hgl := hB.lt
  have hgne : ¬ w.heap.size = g := by omega
  have hgne2 : ¬ g = w.heap.size := by omega
  have hL : us.length ≤ 281474976710656 := by omega
  clear hI hl hB hZ hS hrow ih hP hN hF hw
  have i1 : (0 : Int) ≤ (i : Int) := by omega
  have i2 : (i : Int) < N := by have := HN.out; omega
  have i4 : i < N := by have := HN.out; omega
  have HI2 := hid hi2
  clear hi2
  go_enter Try.func27, Try.ntmps27
  go_wp2_with (go_at_call 38; (refine (shape_yes _ i y m b T A tc ts us.length c S _ (HI.out.up (al1 _ _)) HL.out.2 HF.out).mono ?_); rintro e w1 ⟨rfl, b1⟩; have HA := hid (ShSt.start HB.out HZ.out b1); clear b1; obtain ⟨x0, x1, x2, x3, x4, x5, x6⟩ := HA.out.bx.seven; have hl0 := HA.out.bx.lt)
  go_loopg [6] 1 (fun gg z wr => (gg = 1 ∧ z = .int .i64 0 ∧ Hid (ShSt w g #[.int .i64 5, .int .i64 i, .int .i64 y, .int .i64 m, .bool b, .slice T ts.length tc, .slice A us.length c] f wr ∧ Blk wr w1.heap.size 3 #[.int .i64 i])) ∨ (gg = 0 ∧ z = .int .i64 1 ∧ Hid (ShSt w g #[.int .i64 5, .int .i64 i, .int .i64 y, .int .i64 m, .bool b, .slice T ts.length tc, .slice A us.length c] (updI f i (f i + 1)) wr)))
  case atStart => exact .inl ⟨rfl, rfl, hid ⟨HA.out.up (al1 _ _), Blk.new _ _ _⟩⟩
  case round =>
    rcases hrel with ⟨rfl, rfl, hs⟩ | ⟨rfl, rfl, hs⟩
    · have l0 : wr.cell? ⟨w1.heap.size, 0, none⟩ = some (.int .i64 i) := hs.out.2.cell 0
      have c1 : wr.cell? ⟨g, i, none⟩ = some (.int .i64 0) := by rw [hs.out.1.row.cell HI2.out, HFI.out]
      have f1 : wr.frozen? ⟨g, i, none⟩ = false := hs.out.1.row.frozen i
      have g1 := hs.out.1.row.lt
      go_wp2
      go_roundg 0
      case rel => exact .inr ⟨rfl, by go_num, hid (hs.out.1.set_ HI2.out (by have := HFI.out; omega) hgne)⟩
      case measure => omega
    · have hl0 := hs.out.bx.lt
      go_wp2
      go_loopg [7] us.length (fun gg z wr => ∃ (q : Nat) (fq : Int → Int), q + gg = us.length ∧ z = .int .i64 q ∧ Hid (ShSt w g #[.int .i64 5, .int .i64 i, .int .i64 y, .int .i64 m, .bool b, .slice T ts.length tc, .slice A us.length c] fq wr) ∧ Hid (bindsML (us.drop q) fq = some f'))
      case atStart => exact ⟨0, _, by omega, rfl, hs, hid HP.out⟩
      case round =>
        obtain ⟨q, fq, hq, rfl, hb, hp⟩ := hrel
        have Hq := hid hq
        have x6 : wr.cell? ⟨w.heap.size, 6, none⟩ = some (.slice A us.length c) := hb.out.bx.cell 6
        by_cases hlt : q < us.length
        · have hlt' : (q : Int) < us.length := by omega
          have hkeep : ∀ b, S b → b < w.heap.size → wr.heap[b]? = w.heap[b]? ∧ S b := fun b hb' hl => ⟨hb.out.gr.block b hl (fun e => HS.out b hb' (by injection e)), hb'⟩
          obtain ⟨ad, k2, x2, y2, n2, i2, T2, tl2, tc2, A2, m2', c2, rfl, hSb, hab, ⟨y0, y1, y2', y3, y4, y5, y6⟩, hel⟩ := (CRow.keep hkeep _ _ _ HR.out).elem hlt
          have hp2 := hp.out
          rw [List.drop_eq_getElem_cons hlt, bindsML] at hp2
          obtain ⟨f9, hf9, hp3⟩ : ∃ f9, bindsM us[q] fq = some f9 ∧ bindsML (us.drop (q + 1)) f9 = some f' := by (cases h9 : bindsM us[q] fq with | none => (rw [h9] at hp2; cases hp2) | some f9 => (rw [h9] at hp2; exact ⟨f9, rfl, hp2⟩))
          have hsz : nodes us[q] ≤ 65536 := by (have h8 := HW.out us[q] (List.getElem_mem hlt); exact h8)
          have Q := hid (And.intro hel (And.intro (List.getElem_mem hlt) (And.intro hf9 (And.intro hp3 hsz))))
          clear hq hel hSb hab hkeep hp2 hf9 hp3 hsz
          generalize us[q] = t at Q
          go_wp2_with (go_at_call 27; go_must (refine (IH.out t Q.out.2.1 _ S fq f9 _ Q.out.1 HS.out hb.out.row hb.out.z01 Q.out.2.2.2.2 Q.out.2.2.1).mono ?_); rintro e w9 ⟨rfl, hr, hg9⟩; go_must (have R := hid (And.intro hr hg9); clear hr hg9))
          have hgk := Hq.out
          go_roundg (gk - 1)
          case rel => exact ⟨q + 1, f9, by omega, by go_num, hid (hb.out.call R.out.2 R.out.1 (hb.out.z01.binds Q.out.2.2.1) hgne), hid Q.out.2.2.2.1⟩
          case measure => omega
        · obtain rfl : q = us.length := by omega
          clear hq
          go_wp2
          go_ret
          exact ⟨rfl, (by have h9 := hp.out; rw [List.drop_length, bindsML] at h9; injection h9 with h9; subst h9; exact hb.out.row), hb.out.gr⟩
set_option maxHeartbeats 8000000 in
set_option maxRecDepth 100000 in
theorem sy_two (m : Int) (i j : Nat) (b : Bool) (T A : Option Addr) (tc : Nat) (ts : List Int) (us : List Co) (c : Nat) (S : Nat → Prop) (g N : Nat) (f f' : Int → Int) (w : World) (hi1 : 0 < i) (hi2 : i < 65537) (hj1 : 0 < j) (hj2 : j < 65537) (hl : us.length ≤ 17592186044416 ∧ us.length ≤ 65536) (hI : IAt w S ts T tc) (hrow : CRow w S us A 0) (hS : ∀ b, S b → b ≠ g) (hB : BRow w g f) (hZ : Z01 f) (hN : N = 65537) (hw : ∀ u ∈ us, nodes u ≤ 65536)
    (hF : ShapeIs 6 i j m b ts us.length) (hf : f i = 0) (hf2 : (updI f i (f i + 1)) j = 0) (hP : bindsML us (updI (updI f i (f i + 1)) j ((updI f i (f i + 1)) j + 1)) = some f') (ih : ShYH us g N) :
    Calls Try.prog 27 #[.agg #[.int .i64 6, .int .i64 i, .int .i64 j, .int .i64 m, .bool b, .slice T ts.length tc, .slice A us.length c], .slice (some ⟨g, 0, none⟩) N N] w (ShaY f' g w) := by
  have HFI := hid hf
  have HFJ := hid hf2
  clear hf hf2
  have HI := hid hI
  have HL := hid hl
  have HB := hid hB
  have HZ := hid hZ
  have HS := hid hS
  have HR := hid hrow
  have IH := hid ih
  have HP := hid hP
  have HN := hid hN
  have HF := hid hF
  have HW := hid hw
  have hgl := hB.lt
  have hgne : ¬ w.heap.size = g := by omega
  have hgne2 : ¬ g = w.heap.size := by omega
  have hL : us.length ≤ 281474976710656 := by omega
  clear hI hl hB hZ hS hrow ih hP hN hF hw
  have i1 : (0 : Int) ≤ (i : Int) := by omega
  have i2 : (i : Int) < N := by have := HN.out; omega
  have i4 : i < N := by have := HN.out; omega
  have j1 : (0 : Int) ≤ (j : Int) := by omega
  have j2 : (j : Int) < N := by have := HN.out; omega
  have j4 : j < N := by have := HN.out; omega
  have HI2 := hid hi2
  have HJ2 := hid hj2
  clear hi2 hj2
  go_enter Try.func27, Try.ntmps27
  go_wp2_with (go_at_call 38; (refine (shape_yes _ i j m b T A tc ts us.length c S _ (HI.out.up (al1 _ _)) HL.out.2 HF.out).mono ?_); rintro e w1 ⟨rfl, b1⟩; have HA := hid (ShSt.start HB.out HZ.out b1); clear b1; obtain ⟨x0, x1, x2, x3, x4, x5, x6⟩ := HA.out.bx.seven; have hl0 := HA.out.bx.lt)
  go_loopg [6] 2 (fun gg z wr => (gg = 2 ∧ z = .int .i64 0 ∧ Hid (ShSt w g #[.int .i64 6, .int .i64 i, .int .i64 j, .int .i64 m, .bool b, .slice T ts.length tc, .slice A us.length c] f wr ∧ Blk wr (w1.heap.size + 1) 3 #[.int .i64 i, .int .i64 j])) ∨ (gg = 1 ∧ z = .int .i64 1 ∧ Hid (ShSt w g #[.int .i64 6, .int .i64 i, .int .i64 j, .int .i64 m, .bool b, .slice T ts.length tc, .slice A us.length c] (updI f i (f i + 1)) wr ∧ Blk wr (w1.heap.size + 1) 3 #[.int .i64 i, .int .i64 j])) ∨ (gg = 0 ∧ z = .int .i64 2 ∧ Hid (ShSt w g #[.int .i64 6, .int .i64 i, .int .i64 j, .int .i64 m, .bool b, .slice T ts.length tc, .slice A us.length c] (updI (updI f i (f i + 1)) j ((updI f i (f i + 1)) j + 1)) wr)))
  case atStart => exact .inl ⟨rfl, rfl, hid ⟨(HA.out.up (al1 _ _)).up (al1 _ _), Blk.new' (by simp) _ _⟩⟩
  case round =>
    rcases hrel with ⟨rfl, rfl, hs⟩ | ⟨rfl, rfl, hs⟩ | ⟨rfl, rfl, hs⟩
    · have l0 : wr.cell? ⟨w1.heap.size + 1, 0, none⟩ = some (.int .i64 i) := hs.out.2.cell 0
      have c1 : wr.cell? ⟨g, i, none⟩ = some (.int .i64 0) := by rw [hs.out.1.row.cell HI2.out, HFI.out]
      have f1 : wr.frozen? ⟨g, i, none⟩ = false := hs.out.1.row.frozen i
      have g1 := hs.out.1.row.lt
      have hw1 := HA.out.row.lt
      go_wp2
      go_roundg 1
      case rel => exact .inr (.inl ⟨rfl, by go_num, hid ⟨hs.out.1.set_ HI2.out (by have := HFI.out; omega) hgne, hs.out.2.far (p := ⟨g, i, none⟩) (by dsimp only; omega) _⟩⟩)
      case measure => omega
    · have l0 : wr.cell? ⟨w1.heap.size + 1, 1, none⟩ = some (.int .i64 j) := hs.out.2.cell 1
      have c1 : wr.cell? ⟨g, j, none⟩ = some (.int .i64 0) := by rw [hs.out.1.row.cell HJ2.out, HFJ.out]
      have f1 : wr.frozen? ⟨g, j, none⟩ = false := hs.out.1.row.frozen j
      have g1 := hs.out.1.row.lt
      go_wp2
      go_roundg 0
      case rel => exact .inr (.inr ⟨rfl, by go_num, hid (hs.out.1.set_ HJ2.out (by have := HFJ.out; omega) hgne)⟩)
      case measure => omega
    · have hl0 := hs.out.bx.lt
      go_wp2
      go_loopg [7] us.length (fun gg z wr => ∃ (q : Nat) (fq : Int → Int), q + gg = us.length ∧ z = .int .i64 q ∧ Hid (ShSt w g #[.int .i64 6, .int .i64 i, .int .i64 j, .int .i64 m, .bool b, .slice T ts.length tc, .slice A us.length c] fq wr) ∧ Hid (bindsML (us.drop q) fq = some f'))
      case atStart => exact ⟨0, _, by omega, rfl, hs, hid HP.out⟩
      case round =>
        obtain ⟨q, fq, hq, rfl, hb, hp⟩ := hrel
        have Hq := hid hq
        have x6 : wr.cell? ⟨w.heap.size, 6, none⟩ = some (.slice A us.length c) := hb.out.bx.cell 6
        by_cases hlt : q < us.length
        · have hlt' : (q : Int) < us.length := by omega
          have hkeep : ∀ b, S b → b < w.heap.size → wr.heap[b]? = w.heap[b]? ∧ S b := fun b hb' hl => ⟨hb.out.gr.block b hl (fun e => HS.out b hb' (by injection e)), hb'⟩
          obtain ⟨ad, k2, x2, y2, n2, i2, T2, tl2, tc2, A2, m2', c2, rfl, hSb, hab, ⟨y0, y1, y2', y3, y4, y5, y6⟩, hel⟩ := (CRow.keep hkeep _ _ _ HR.out).elem hlt
          have hp2 := hp.out
          rw [List.drop_eq_getElem_cons hlt, bindsML] at hp2
          obtain ⟨f9, hf9, hp3⟩ : ∃ f9, bindsM us[q] fq = some f9 ∧ bindsML (us.drop (q + 1)) f9 = some f' := by (cases h9 : bindsM us[q] fq with | none => (rw [h9] at hp2; cases hp2) | some f9 => (rw [h9] at hp2; exact ⟨f9, rfl, hp2⟩))
          have hsz : nodes us[q] ≤ 65536 := by (have h8 := HW.out us[q] (List.getElem_mem hlt); exact h8)
          have Q := hid (And.intro hel (And.intro (List.getElem_mem hlt) (And.intro hf9 (And.intro hp3 hsz))))
          clear hq hel hSb hab hkeep hp2 hf9 hp3 hsz
          generalize us[q] = t at Q
          go_wp2_with (go_at_call 27; go_must (refine (IH.out t Q.out.2.1 _ S fq f9 _ Q.out.1 HS.out hb.out.row hb.out.z01 Q.out.2.2.2.2 Q.out.2.2.1).mono ?_); rintro e w9 ⟨rfl, hr, hg9⟩; go_must (have R := hid (And.intro hr hg9); clear hr hg9))
          have hgk := Hq.out
          go_roundg (gk - 1)
          case rel => exact ⟨q + 1, f9, by omega, by go_num, hid (hb.out.call R.out.2 R.out.1 (hb.out.z01.binds Q.out.2.2.1) hgne), hid Q.out.2.2.2.1⟩
          case measure => omega
        · obtain rfl : q = us.length := by omega
          clear hq
          go_wp2
          go_ret
          exact ⟨rfl, (by have h9 := hp.out; rw [List.drop_length, bindsML] at h9; injection h9 with h9; subst h9; exact hb.out.row), hb.out.gr⟩
theorem add_inv1 {x : Int} {f g : Int → Int} (hz : Z01 f) (h : addM [x] f = some g) : f x = 0 ∧ 1 ≤ x ∧ x ≤ 65536 ∧ g = updI f x (f x + 1) := by
  rw [addM] at h
  by_cases h1 : 1 < f x + 1 ∨ x < 1 ∨ 65536 < x
  · rw [if_pos h1] at h; cases h
  · rw [if_neg h1, addM] at h
    injection h with h
    have := hz x
    exact ⟨by omega, by omega, by omega, h.symm⟩
theorem add_inv2 {x y : Int} {f g : Int → Int} (hz : Z01 f) (h : addM [x, y] f = some g) : f x = 0 ∧ 1 ≤ x ∧ x ≤ 65536 ∧ (updI f x (f x + 1)) y = 0 ∧ 1 ≤ y ∧ y ≤ 65536 ∧ g = updI (updI f x (f x + 1)) y ((updI f x (f x + 1)) y + 1) := by
  rw [addM] at h
  by_cases h1 : 1 < f x + 1 ∨ x < 1 ∨ 65536 < x
  · rw [if_pos h1] at h; cases h
  · rw [if_neg h1] at h
    have h2 := hz x
    have hz2 : Z01 (updI f x (f x + 1)) := fun z => by
      unfold updI
      have := hz z
      split
      · omega
      · exact this
    obtain ⟨q1, q2, q3, q4⟩ := add_inv1 hz2 h
    exact ⟨by omega, by omega, by omega, q1, q2, q3, q4⟩
theorem binds_inv {k x y n : Int} {i : Bool} {ts : List Int} {us : List Co} {f f' : Int → Int} (h : bindsM (.mk k x y n i ts us) f = some f') : formB k x y n i ts us.length = true ∧ ∃ g, addM (bindL k x y) f = some g ∧ bindsML us g = some f' := by
  rw [bindsM] at h
  cases hF : formB k x y n i ts us.length with
  | false => rw [if_pos hF] at h; cases h
  | true =>
    rw [if_neg (by rw [hF]; decide)] at h
    cases ha : addM (bindL k x y) f with
    | none => rw [ha] at h; cases h
    | some g => rw [ha] at h; exact ⟨rfl, g, rfl, h⟩
theorem nodes_at {us : List Co} {u : Co} (h : u ∈ us) : nodes u ≤ nodesL us := by
  induction us with
  | nil => cases h
  | cons a us ih =>
    rw [nodesL]
    rcases List.mem_cons.1 h with rfl | h
    · omega
    · have := ih h; omega
theorem shapes_yes : ∀ (n : Nat) (t : Co), SizeOf.sizeOf t ≤ n → ∀ (v : Value) (S : Nat → Prop) (g N : Nat) (f f' : Int → Int) (w : World), N = 65537 → CAt w S t v → (∀ b, S b → b ≠ g) → BRow w g f → Z01 f → nodes t ≤ 65536 → bindsM t f = some f' → Calls Try.prog 27 #[v, .slice (some ⟨g, 0, none⟩) N N] w (ShaY f' g w) := by
  intro n
  induction n with
  | zero => intro t ht; cases t; simp at ht
  | succ n ih =>
  intro t ht v S g N f f' w hN hv hS hB hZ hn hp
  obtain ⟨k, x, y, m, b, ts, us⟩ := t
  obtain ⟨T, tc, A, c, rfl, hI, hc, hrow, _⟩ := hv.parts
  have IH : ShYH us g N := fun t hm v S f f' w hv hS hB hZ hn hp => ih t (by have := co_lt (k := k) (x := x) (y := y) (n := m) (i := b) (ts := ts) hm; omega) v S g N f f' w hN hv hS hB hZ hn hp
  rw [nodes] at hn
  have hlu := length_nodes us
  have hl : us.length ≤ 17592186044416 ∧ us.length ≤ 65536 := ⟨hc.2.2.2, by omega⟩
  have hw : ∀ u ∈ us, nodes u ≤ 65536 := fun u hu => by have := nodes_at hu; omega
  obtain ⟨hF, f1, ha, hP⟩ := binds_inv hp
  by_cases k3 : k = 3
  · subst k3
    have ha2 : addM [x] f = some f1 := by simpa [bindL] using ha
    obtain ⟨q1, q2, q3, rfl⟩ := add_inv1 hZ ha2
    obtain ⟨i, rfl, h1, h2⟩ := nat_of q2 q3
    exact sy_one3 y m i b T A tc ts us c S g N f f' w h1 h2 hl hI hrow hS hB hZ hN hw ⟨hF, by simp [bindL]; omega⟩ q1 hP IH
  by_cases k5 : k = 5
  · subst k5
    have ha2 : addM [x] f = some f1 := by simpa [bindL] using ha
    obtain ⟨q1, q2, q3, rfl⟩ := add_inv1 hZ ha2
    obtain ⟨i, rfl, h1, h2⟩ := nat_of q2 q3
    exact sy_one5 y m i b T A tc ts us c S g N f f' w h1 h2 hl hI hrow hS hB hZ hN hw ⟨hF, by simp [bindL]; omega⟩ q1 hP IH
  by_cases k6 : k = 6
  · subst k6
    have ha2 : addM [x, y] f = some f1 := by simpa [bindL] using ha
    obtain ⟨q1, q2, q3, q4, q5, q6, rfl⟩ := add_inv2 hZ ha2
    obtain ⟨i, rfl, h1, h2⟩ := nat_of q2 q3
    obtain ⟨j, rfl, h3, h4⟩ := nat_of q5 q6
    exact sy_two m i j b T A tc ts us c S g N f f' w h1 h2 h3 h4 hl hI hrow hS hB hZ hN hw ⟨hF, by simp [bindL]; omega⟩ q1 q4 hP IH
  have hb : bindL k x y = [] := by simp [bindL, k3, k5, k6]
  rw [hb, addM] at ha
  injection ha with ha
  subst ha
  exact sy_rest k x y m b T A tc ts us c S g N f f' w hl hI hrow hS hB hZ hN hw (by simpa using k3) (by simpa using k5) (by simpa using k6) ⟨hF, by rw [hb]; simp⟩ hP IH
end Go.Proofs.Ytohdaclbgedeiaa
/-
  THE WALK OF athanorref20.closed, WHERE IT SAYS YES; athanorref20.Good, EXACTLY.
-/
namespace Go.Proofs.Ytohdaclbgedeiaa
set_option linter.all false
open Go.ChangeShapes Go.WideShapes Go.ChangeAt Go.RowKit
open Ev (Co nodes nodesL bindA upM closM closML goodB goodM)
set_option maxHeartbeats 4000000 in
set_option maxRecDepth 100000 in
theorem in_yes (l : List Int) (T : Option Addr) (tc : Nat) (n : Int) (S : Nat → Prop) (w : World) (hI : IAt w S l T tc) (hn : n ∈ l) : Calls Try.prog 54 #[.slice T l.length tc, .int .i64 n] w (SayP true w) := by
  have HI := hid hI
  have HN := hid hn
  have ht := hI.1.2.2.2
  have q1 : IntKind.i64.wrap ((l.length : Int) - 1) = (l.length : Int) - 1 := IntWalk.i64_in _ (by omega)
  clear hI hn
  go_enter Try.func54, Try.ntmps54
  go_wp2
  go_loopg [5] l.length (fun g z wr => z = .int .i64 ((g : Int) - 1) ∧ Hid (g ≤ l.length ∧ n ∈ l.take g) ∧ Hid (Below w.heap.size w wr))
  case atStart => exact ⟨rfl, hid ⟨Nat.le_refl _, by rw [List.take_length]; exact HN.out⟩, hid (Below.refl _ _)⟩
  case round =>
    obtain ⟨rfl, hg, hb⟩ := hrel
    rcases Nat.eq_zero_or_pos gk with rfl | hp
    · exact absurd hg.out.2 (by simp)
    obtain ⟨i, hi⟩ : ∃ i, gk = i + 1 := ⟨gk - 1, by omega⟩
    subst hi
    have e1 : ((i + 1 : Nat) : Int) - 1 = i := by omega
    have hlt : i < l.length := by have := hg.out.1; omega
    have hlt' : (i : Int) < l.length := by omega
    have hi0 : (0 : Int) ≤ i := by omega
    rw [e1]
    obtain ⟨ad, rfl, hS9, y0, _⟩ := (HI.out.keep (fun b hb' hl => ⟨hb.out.block b hl, hb'⟩)).2 i hlt
    obtain ⟨t, ht9⟩ : ∃ t, t = l[i]'hlt := ⟨_, rfl⟩
    rw [← ht9] at y0
    have HM := hid (show n ≠ t → n ∈ l.take i from fun hne => by
      have h9 := hg.out.2
      rw [List.take_succ_eq_append_getElem hlt, List.mem_append] at h9
      rcases h9 with h9 | h9
      · exact h9
      · simp at h9; exact absurd (h9.trans ht9.symm) hne)
    have q2 : IntKind.i64.wrap ((i : Int) - 1) = (i : Int) - 1 := IntWalk.i64_in _ (by omega)
    clear ht9 hS9 e1
    by_cases he : t = n
    · subst he
      go_wp2
      go_ret
      exact ⟨rfl, hb.out⟩
    · have HE := hid (HM.out (fun e => he e.symm))
      go_wp2
      go_roundg i
      case rel => exact ⟨rfl, hid ⟨by omega, HE.out⟩, hb⟩
      case measure => omega
/-- Closed with these bound. -/
def ClosY (t : Co) (L : List Int) : Prop := ∃ f : Int → Int, (∀ y, 0 ≤ f y) ∧ (∀ y, f y ≠ 0 → y ∈ L) ∧ closM t f = true
theorem closML_at {k x y : Int} : ∀ {us : List Co} {j : Nat} {f : Int → Int}, closML k x y j us f = true → ∀ i, (hi : i < us.length) → closM us[i] (upM (bindA k x y (j + i)) f) = true
  | [], j, f, _, i, hi => by simp at hi
  | c :: cs, j, f, h, i, hi => by
    rw [closML] at h
    obtain ⟨h1, h2⟩ := Ev.plain_false h
    cases i with
    | zero => exact h1
    | succ i =>
      have := closML_at h2 i (by simpa using hi)
      rw [show j + 1 + i = j + (i + 1) by omega] at this
      simpa using this
theorem closY_node {k x y m : Int} {b : Bool} {ts : List Int} {us : List Co} {L : List Int} (h : ClosY (.mk k x y m b ts us) L) : (k = 1 → x ∈ L) ∧ ∀ i, (hi : i < us.length) → ClosY us[i] (L ++ bindA k x y i) := by
  obtain ⟨f, h0, h1, h2⟩ := h
  rw [closM] at h2
  obtain ⟨h3, h4⟩ := Ev.plain_false h2
  refine ⟨fun hk => h1 x (fun e => ?_), fun i hi => ⟨upM (bindA k x y i) f, fun z => ?_, fun z hz => ?_, ?_⟩⟩
  · subst hk
    simp [e] at h3
  · rw [up_cnt]; have := h0 z; omega
  · rw [up_cnt] at hz
    by_cases e : f z = 0
    · refine List.mem_append.2 (.inr (List.count_pos_iff.1 ?_))
      omega
    · exact List.mem_append.2 (.inl (h1 z e))
  · have := closML_at h4 i hi
    rwa [Nat.zero_add] at this
def ClosYH (us : List Co) (L : List Int) : Prop := ∀ t ∈ us, ∀ (v : Value) (S S2 : Nat → Prop) (L2 : List Int) (T : Option Addr) (n tc : Nat) (w : World), CAt w S t v → IAt w S2 L2 T tc → n = L2.length → L2.length ≤ L.length + 2 → ClosY t L2 → Calls Try.prog 39 #[v, .slice T n tc] w (SayP true w)
set_option maxHeartbeats 8000000 in
set_option maxRecDepth 100000 in
theorem closedY_k1 (x y m : Int) (b : Bool) (T A T2 : Option Addr) (tc tc2 : Nat) (ts : List Int) (us : List Co) (c : Nat) (L : List Int) (S S2 : Nat → Prop) (w : World) (hm : us.length ≤ 17592186044416) (hLl : L.length ≤ 900000) (hwf : Wf4 1 x y m) (hrow : CRow w S us A 0) (hI : IAt w S2 L T2 tc2)
    (H0 : ClosYH us L) (hcl : ∀ i, (hi : i < us.length) → ClosY us[i] (L ++ bindA 1 x y i))(hxl : x ∈ L) :
    Calls Try.prog 39 #[.agg #[.int .i64 1, .int .i64 x, .int .i64 y, .int .i64 m, .bool b, .slice T ts.length tc, .slice A us.length c], .slice T2 L.length tc2] w (SayP true w) := by
  have hL : us.length ≤ 281474976710656 := by omega
  have H := hid (And.intro hm (And.intro hrow H0))
  have HI := hid hI
  have WX := hid hwf.2.1
  have WY := hid hwf.2.2.1
  have HCL := hid hcl
  (try have HXL := hid hxl)
  (try clear hxl)
  clear hm hrow H0 hI hwf hcl
  go_enter Try.func39, Try.ntmps39
  go_wp2_with (go_at_call 54; (refine (in_yes L T2 tc2 x S2 _ (HI.out.keep (fun b9 hb' hl => ⟨(al1 w _).block b9 hl, hb'⟩)) HXL.out).mono ?_); rintro e9 w1 ⟨rfl, b1⟩; have R1 := hid (And.intro trivial (And.intro ((Blk.new w 25 #[.int .i64 1, .int .i64 x, .int .i64 y, .int .i64 m, .bool b, .slice T ts.length tc, .slice A us.length c]).below b1 (by simp)) (below_hop b1 (al1 w _)))); clear b1)
  go_loopg [5] us.length (fun g z wr => ∃ (i : Nat), i + g = us.length ∧ z = .int .i64 i ∧ Hid (Blk wr w.heap.size 25 #[.int .i64 1, .int .i64 x, .int .i64 y, .int .i64 m, .bool b, .slice T ts.length tc, .slice A us.length c]) ∧ Hid (Below w.heap.size w wr))
  case atStart => first | exact ⟨0, by omega, rfl, hid R1.out.2.1, hid R1.out.2.2⟩ | exact ⟨0, by omega, rfl, hid (Blk.new _ _ _), hid (al1 _ _)⟩
  case round =>
    obtain ⟨i, hi, rfl, hb, hbl⟩ := hrel
    have Hi := hid hi
    by_cases hlt : i < us.length
    case neg =>
      obtain rfl : i = us.length := by omega
      obtain ⟨x0, x1, x2, x3, x4, x5, x6⟩ := hb.out.seven
      clear hi
      go_wp2
      go_ret
      exact ⟨rfl, hbl.out⟩
    have hlt' : (i : Int) < us.length := by omega
    obtain ⟨x0, x1, x2, x3, x4, x5, x6⟩ := hb.out.seven
    obtain ⟨ad, k2, q2, y2, n2, i2, T5, tl2, tc5, A2, m2', c2, rfl, hSb, hab, ⟨y0, y1, y2', y3, y4, y5, y6⟩, hel⟩ := (H.out.2.1.up hbl.out).elem hlt
    obtain ⟨t, ht⟩ : ∃ t, t = us[i] := ⟨_, rfl⟩
    rw [← ht] at hel
    have Q := hid (And.intro hel (And.intro (show t ∈ us by rw [ht]; exact List.getElem_mem hlt) ht))
    have HLT := hid hlt
    clear hi hel hSb hab ht
    have HA : Hid (bindA 1 x y i = []) := hid (by simp [bindA])
    have CY := hid (show ClosY t L by (have h5 := HCL.out i HLT.out; rw [HA.out, List.append_nil, ← Q.out.2.2] at h5; exact h5))
    go_wp2_with (go_at_call 39; go_must (refine (H.out.2.2 t Q.out.2.1 _ _ S2 L T2 L.length tc2 _ Q.out.1 (HI.out.keep (fun b9 hb' hl => ⟨hbl.out.block b9 hl, hb'⟩)) rfl (by omega) CY.out).mono ?_); rintro e w5 ⟨rfl, b5⟩; have R5 := hid (And.intro trivial (And.intro (below_hop b5 hbl.out) (hb.out.below b5 hb.out.lt))); clear b5)
    have hgk := Hi.out
    have hlt9 := HLT.out
    go_roundg (gk - 1)
    case rel => exact ⟨i + 1, by omega, by go_num, hid R5.out.2.2, hid R5.out.2.1⟩
    case measure => omega
set_option maxHeartbeats 8000000 in
set_option maxRecDepth 100000 in
theorem closedY_k0 (k : Int)(x y m : Int) (b : Bool) (T A T2 : Option Addr) (tc tc2 : Nat) (ts : List Int) (us : List Co) (c : Nat) (L : List Int) (S S2 : Nat → Prop) (w : World) (hm : us.length ≤ 17592186044416) (hLl : L.length ≤ 900000) (hwf : Wf4 k x y m) (hrow : CRow w S us A 0) (hI : IAt w S2 L T2 tc2)
    (H0 : ClosYH us L) (hcl : ∀ i, (hi : i < us.length) → ClosY us[i] (L ++ bindA k x y i))(h1 : (k == 1) = false) (h3 : (k == 3) = false) (h5 : (k == 5) = false) (h6 : (k == 6) = false) :
    Calls Try.prog 39 #[.agg #[.int .i64 k, .int .i64 x, .int .i64 y, .int .i64 m, .bool b, .slice T ts.length tc, .slice A us.length c], .slice T2 L.length tc2] w (SayP true w) := by
  have hL : us.length ≤ 281474976710656 := by omega
  have H := hid (And.intro hm (And.intro hrow H0))
  have HI := hid hI
  have WX := hid hwf.2.1
  have WY := hid hwf.2.2.1
  have HCL := hid hcl
  (try have HXL := hid hxl)
  (try clear hxl)
  clear hm hrow H0 hI hwf hcl
  go_enter Try.func39, Try.ntmps39
  go_wp2_with (go_at_call 54; (refine (in_yes L T2 tc2 x S2 _ (HI.out.keep (fun b9 hb' hl => ⟨(al1 w _).block b9 hl, hb'⟩)) HXL.out).mono ?_); rintro e9 w1 ⟨rfl, b1⟩; have R1 := hid (And.intro trivial (And.intro ((Blk.new w 25 #[.int .i64 k, .int .i64 x, .int .i64 y, .int .i64 m, .bool b, .slice T ts.length tc, .slice A us.length c]).below b1 (by simp)) (below_hop b1 (al1 w _)))); clear b1)
  go_loopg [5] us.length (fun g z wr => ∃ (i : Nat), i + g = us.length ∧ z = .int .i64 i ∧ Hid (Blk wr w.heap.size 25 #[.int .i64 k, .int .i64 x, .int .i64 y, .int .i64 m, .bool b, .slice T ts.length tc, .slice A us.length c]) ∧ Hid (Below w.heap.size w wr))
  case atStart => first | exact ⟨0, by omega, rfl, hid R1.out.2.1, hid R1.out.2.2⟩ | exact ⟨0, by omega, rfl, hid (Blk.new _ _ _), hid (al1 _ _)⟩
  case round =>
    obtain ⟨i, hi, rfl, hb, hbl⟩ := hrel
    have Hi := hid hi
    by_cases hlt : i < us.length
    case neg =>
      obtain rfl : i = us.length := by omega
      obtain ⟨x0, x1, x2, x3, x4, x5, x6⟩ := hb.out.seven
      clear hi
      go_wp2
      go_ret
      exact ⟨rfl, hbl.out⟩
    have hlt' : (i : Int) < us.length := by omega
    obtain ⟨x0, x1, x2, x3, x4, x5, x6⟩ := hb.out.seven
    obtain ⟨ad, k2, q2, y2, n2, i2, T5, tl2, tc5, A2, m2', c2, rfl, hSb, hab, ⟨y0, y1, y2', y3, y4, y5, y6⟩, hel⟩ := (H.out.2.1.up hbl.out).elem hlt
    obtain ⟨t, ht⟩ : ∃ t, t = us[i] := ⟨_, rfl⟩
    rw [← ht] at hel
    have Q := hid (And.intro hel (And.intro (show t ∈ us by rw [ht]; exact List.getElem_mem hlt) ht))
    have HLT := hid hlt
    clear hi hel hSb hab ht
    have HA : Hid (bindA k x y i = []) := hid ((by simp at h3 h5 h6; simp [bindA, h3, h5, h6]))
    have CY := hid (show ClosY t L by (have h5 := HCL.out i HLT.out; rw [HA.out, List.append_nil, ← Q.out.2.2] at h5; exact h5))
    go_wp2_with (go_at_call 39; go_must (refine (H.out.2.2 t Q.out.2.1 _ _ S2 L T2 L.length tc2 _ Q.out.1 (HI.out.keep (fun b9 hb' hl => ⟨hbl.out.block b9 hl, hb'⟩)) rfl (by omega) CY.out).mono ?_); rintro e w5 ⟨rfl, b5⟩; have R5 := hid (And.intro trivial (And.intro (below_hop b5 hbl.out) (hb.out.below b5 hb.out.lt))); clear b5)
    have hgk := Hi.out
    have hlt9 := HLT.out
    go_roundg (gk - 1)
    case rel => exact ⟨i + 1, by omega, by go_num, hid R5.out.2.2, hid R5.out.2.1⟩
    case measure => omega
set_option maxHeartbeats 8000000 in
set_option maxRecDepth 100000 in
theorem closedY_k3 (x y m : Int) (b : Bool) (T A T2 : Option Addr) (tc tc2 : Nat) (ts : List Int) (us : List Co) (c : Nat) (L : List Int) (S S2 : Nat → Prop) (w : World) (hm : us.length ≤ 17592186044416) (hLl : L.length ≤ 900000) (hwf : Wf4 3 x y m) (hrow : CRow w S us A 0) (hI : IAt w S2 L T2 tc2)
    (H0 : ClosYH us L) (hcl : ∀ i, (hi : i < us.length) → ClosY us[i] (L ++ bindA 3 x y i)) :
    Calls Try.prog 39 #[.agg #[.int .i64 3, .int .i64 x, .int .i64 y, .int .i64 m, .bool b, .slice T ts.length tc, .slice A us.length c], .slice T2 L.length tc2] w (SayP true w) := by
  have hL : us.length ≤ 281474976710656 := by omega
  have H := hid (And.intro hm (And.intro hrow H0))
  have HI := hid hI
  have WX := hid hwf.2.1
  have WY := hid hwf.2.2.1
  have HCL := hid hcl
  (try have HXL := hid hxl)
  (try clear hxl)
  clear hm hrow H0 hI hwf hcl
  go_enter Try.func39, Try.ntmps39
  go_wp2_with (go_at_call 54; (refine (in_yes L T2 tc2 x S2 _ (HI.out.keep (fun b9 hb' hl => ⟨(al1 w _).block b9 hl, hb'⟩)) HXL.out).mono ?_); rintro e9 w1 ⟨rfl, b1⟩; have R1 := hid (And.intro trivial (And.intro ((Blk.new w 25 #[.int .i64 3, .int .i64 x, .int .i64 y, .int .i64 m, .bool b, .slice T ts.length tc, .slice A us.length c]).below b1 (by simp)) (below_hop b1 (al1 w _)))); clear b1)
  go_loopg [5] us.length (fun g z wr => ∃ (i : Nat), i + g = us.length ∧ z = .int .i64 i ∧ Hid (Blk wr w.heap.size 25 #[.int .i64 3, .int .i64 x, .int .i64 y, .int .i64 m, .bool b, .slice T ts.length tc, .slice A us.length c]) ∧ Hid (Below w.heap.size w wr))
  case atStart => first | exact ⟨0, by omega, rfl, hid R1.out.2.1, hid R1.out.2.2⟩ | exact ⟨0, by omega, rfl, hid (Blk.new _ _ _), hid (al1 _ _)⟩
  case round =>
    obtain ⟨i, hi, rfl, hb, hbl⟩ := hrel
    have Hi := hid hi
    by_cases hlt : i < us.length
    case neg =>
      obtain rfl : i = us.length := by omega
      obtain ⟨x0, x1, x2, x3, x4, x5, x6⟩ := hb.out.seven
      clear hi
      go_wp2
      go_ret
      exact ⟨rfl, hbl.out⟩
    have hlt' : (i : Int) < us.length := by omega
    obtain ⟨x0, x1, x2, x3, x4, x5, x6⟩ := hb.out.seven
    obtain ⟨ad, k2, q2, y2, n2, i2, T5, tl2, tc5, A2, m2', c2, rfl, hSb, hab, ⟨y0, y1, y2', y3, y4, y5, y6⟩, hel⟩ := (H.out.2.1.up hbl.out).elem hlt
    obtain ⟨t, ht⟩ : ∃ t, t = us[i] := ⟨_, rfl⟩
    rw [← ht] at hel
    have Q := hid (And.intro hel (And.intro (show t ∈ us by rw [ht]; exact List.getElem_mem hlt) ht))
    have HLT := hid hlt
    clear hi hel hSb hab ht
    cases e0 : ((i : Int) == 0)
    · have HE := hid e0
      have HA : Hid (bindA 3 x y i = []) := hid ((by have h9 := HE.out; simp at h9; simp [bindA, h9]))
      have CY := hid (show ClosY t L by (have h5 := HCL.out i HLT.out; rw [HA.out, List.append_nil, ← Q.out.2.2] at h5; exact h5))
      go_wp2_with (go_at_call 39; go_must (refine (H.out.2.2 t Q.out.2.1 _ _ S2 L T2 L.length tc2 _ Q.out.1 (HI.out.keep (fun b9 hb' hl => ⟨hbl.out.block b9 hl, hb'⟩)) rfl (by omega) CY.out).mono ?_); rintro e w5 ⟨rfl, b5⟩; have R5 := hid (And.intro trivial (And.intro (below_hop b5 hbl.out) (hb.out.below b5 hb.out.lt))); clear b5)
      have hgk := Hi.out
      have hlt9 := HLT.out
      go_roundg (gk - 1)
      case rel => exact ⟨i + 1, by omega, by go_num, hid R5.out.2.2, hid R5.out.2.1⟩
      case measure => omega
    · have HE := hid e0
      have HA : Hid (bindA 3 x y i = [x]) := hid (by have h9 := HE.out; simp at h9; simp [bindA, h9])
      go_wp2
      have CY := hid (show ClosY t (L ++ [x]) by (have h5 := HCL.out i HLT.out; rw [HA.out, ← Q.out.2.2] at h5; exact h5))
      go_region_held3 (fun w' => w'.cell? ⟨w.heap.size, 1, none⟩ = some (.int .i64 x)) (first | with_reducible exact x1 | with_reducible exact z1 | go_keep) (first | (first | (refine step_appI (by rfl) _ _ (by rfl) wr.heap.size (v := .slice (some ⟨wr.heap.size, 0, none⟩) 0 0) (xs := []) (by rfl) ?_ (A := T2) (n := L.length) (c := tc2) (Bi := w.heap.size) (ys := L) (by rfl) ?_ ?_ ?_ ?_; (· first | exact (OwnI.lit0 (by simp) (by simp)).drew | exact ((OwnI.lit0 (by simp) (by simp)).alloc _).drew); (· exact iat_ints (B := w.heap.size) (HI.out.keep (T := fun b => b < w.heap.size) (fun b hb' hl => ⟨(by have h7 := hbl.out; (first | exact (h7.alloc h7.size _).drew | exact ((h7.alloc h7.size _).alloc (by have := h7.size; simp; omega) _).drew) : Below w.heap.size w _).block b hl, hl⟩)) (fun b hb _ => hb)); (· first | (simp; done) | (simp; omega)); (· first | (simp; done) | (simp; omega)); intro A1 c1 w2 ho hg hbb; simp only [List.length_nil, Nat.zero_add, List.nil_append] at ho ⊢; have O1 := hid ho; have B1 := hid (hbb wr.heap.size wr (Nat.le_refl _) (by first | exact (al1 _ _).drew | exact (al2 _ _ _).drew)); have z1 : w2.cell? ⟨w.heap.size, 1, none⟩ = some (.int .i64 x) := (hb.out.below B1.out hb.out.lt).cell 1; have z2 : w2.cell? ⟨w.heap.size, 2, none⟩ = some (.int .i64 y) := (hb.out.below B1.out hb.out.lt).cell 2; first | have LX := hid ((Blk.new' (g := wr.heap.size + 1) (w := wr.alloc (.cells #[] 3)) (by simp) 3 #[.int .i64 x]).drew.grown hg (by simp [Value.ownBlock])) | have LX := hid (((Blk.new' (g := wr.heap.size) (w := wr) (by simp) 3 #[.int .i64 x]).alloc (.cells #[] 3)).drew.grown hg (by simp [Value.ownBlock])) | skip) | (refine step_appI (by rfl) _ _ (by rfl) wr.heap.size (v := .slice (some ⟨wr.heap.size + 1, 0, none⟩) 0 0) (xs := []) (by rfl) ?_ (A := T2) (n := L.length) (c := tc2) (Bi := w.heap.size) (ys := L) (by rfl) ?_ ?_ ?_ ?_; (· first | exact (OwnI.lit0 (by simp) (by simp)).drew | exact ((OwnI.lit0 (by simp) (by simp)).alloc _).drew); (· exact iat_ints (B := w.heap.size) (HI.out.keep (T := fun b => b < w.heap.size) (fun b hb' hl => ⟨(by have h7 := hbl.out; (first | exact (h7.alloc h7.size _).drew | exact ((h7.alloc h7.size _).alloc (by have := h7.size; simp; omega) _).drew) : Below w.heap.size w _).block b hl, hl⟩)) (fun b hb _ => hb)); (· first | (simp; done) | (simp; omega)); (· first | (simp; done) | (simp; omega)); intro A1 c1 w2 ho hg hbb; simp only [List.length_nil, Nat.zero_add, List.nil_append] at ho ⊢; have O1 := hid ho; have B1 := hid (hbb wr.heap.size wr (Nat.le_refl _) (by first | exact (al1 _ _).drew | exact (al2 _ _ _).drew)); have z1 : w2.cell? ⟨w.heap.size, 1, none⟩ = some (.int .i64 x) := (hb.out.below B1.out hb.out.lt).cell 1; have z2 : w2.cell? ⟨w.heap.size, 2, none⟩ = some (.int .i64 y) := (hb.out.below B1.out hb.out.lt).cell 2; first | have LX := hid ((Blk.new' (g := wr.heap.size + 1) (w := wr.alloc (.cells #[] 3)) (by simp) 3 #[.int .i64 x]).drew.grown hg (by simp [Value.ownBlock])) | have LX := hid (((Blk.new' (g := wr.heap.size) (w := wr) (by simp) 3 #[.int .i64 x]).alloc (.cells #[] 3)).drew.grown hg (by simp [Value.ownBlock])) | skip)) | (have _ := O1; first | (refine step_appI (by rfl) _ _ (by rfl) wr.heap.size (v := .slice A1 L.length c1) (xs := L) (by rfl) ?_ (A := some ⟨w2.heap.size, 0, none⟩) (n := 1) (c := 1) (Bi := w2.heap.size + 1) (ys := [x]) (by rfl) ?_ ?_ ?_ ?_; (· first | exact O1.out | exact O1.out.alloc _); (· (first | exact ints_lit1 LX.out WX.out | exact ints_lit1 (Blk.new' (by simp) _ _) WX.out)); (· omega); (· have h6 := B1.out.size; first | exact h6 | exact Nat.le_trans h6 (al1 _ _).size); intro A3 c3 w3 ho hg hbb; have O3 := hid ho; have B3 := hid (hbb wr.heap.size wr (Nat.le_refl _) (by have b1 := B1.out; first | exact b1 | exact b1.alloc b1.size _)); have z1 : w3.cell? ⟨w.heap.size, 1, none⟩ = some (.int .i64 x) := (hb.out.below B3.out hb.out.lt).cell 1; have z2 : w3.cell? ⟨w.heap.size, 2, none⟩ = some (.int .i64 y) := (hb.out.below B3.out hb.out.lt).cell 2) | (refine step_appI (by rfl) _ _ (by rfl) wr.heap.size (v := .slice A1 L.length c1) (xs := L) (by rfl) ?_ (A := some ⟨wr.heap.size + 1, 0, none⟩) (n := 1) (c := 1) (Bi := wr.heap.size + 1 + 1) (ys := [x]) (by rfl) ?_ ?_ ?_ ?_; (· first | exact O1.out | exact O1.out.alloc _); (· (first | exact ints_lit1 LX.out WX.out | exact ints_lit1 (Blk.new' (by simp) _ _) WX.out)); (· omega); (· have h6 := B1.out.size; first | exact h6 | exact Nat.le_trans h6 (al1 _ _).size); intro A3 c3 w3 ho hg hbb; have O3 := hid ho; have B3 := hid (hbb wr.heap.size wr (Nat.le_refl _) (by have b1 := B1.out; first | exact b1 | exact b1.alloc b1.size _)); have z1 : w3.cell? ⟨w.heap.size, 1, none⟩ = some (.int .i64 x) := (hb.out.below B3.out hb.out.lt).cell 1; have z2 : w3.cell? ⟨w.heap.size, 2, none⟩ = some (.int .i64 y) := (hb.out.below B3.out hb.out.lt).cell 2) | (refine step_appI (by rfl) _ _ (by rfl) wr.heap.size (v := .slice A1 L.length c1) (xs := L) (by rfl) ?_ (A := some ⟨wr.heap.size, 0, none⟩) (n := 1) (c := 1) (Bi := wr.heap.size + 1) (ys := [x]) (by rfl) ?_ ?_ ?_ ?_; (· first | exact O1.out | exact O1.out.alloc _); (· (first | exact ints_lit1 LX.out WX.out | exact ints_lit1 (Blk.new' (by simp) _ _) WX.out)); (· omega); (· have h6 := B1.out.size; first | exact h6 | exact Nat.le_trans h6 (al1 _ _).size); intro A3 c3 w3 ho hg hbb; have O3 := hid ho; have B3 := hid (hbb wr.heap.size wr (Nat.le_refl _) (by have b1 := B1.out; first | exact b1 | exact b1.alloc b1.size _)); have z1 : w3.cell? ⟨w.heap.size, 1, none⟩ = some (.int .i64 x) := (hb.out.below B3.out hb.out.lt).cell 1; have z2 : w3.cell? ⟨w.heap.size, 2, none⟩ = some (.int .i64 y) := (hb.out.below B3.out hb.out.lt).cell 2)))
      all_goals
        have x7 := (hb.out.below B3.out hb.out.lt).seven
        obtain ⟨v0, v1, v2, v3, v4, v5, v6⟩ := x7
        have y7 := at7_keep (B3.out.block _ (cell_lt y0)) rfl (And.intro y0 (And.intro y1 (And.intro y2' (And.intro y3 (And.intro y4 (And.intro y5 y6))))))
        obtain ⟨z0, z1, z2, z3, z4, z5, z6⟩ := y7
        go_wp2_with (go_at_call 39; go_must (refine (H.out.2.2 t Q.out.2.1 _ _ _ (L ++ [x]) A3 (L.length + 1) c3 _ (Q.out.1.up B3.out) (own_iat O3.out (by simp; omega)).2 (by simp) (by simp) CY.out).mono ?_); rintro e w5 ⟨rfl, b5⟩; have R5 := hid (And.intro trivial (And.intro (below_hop b5 (below_hop B3.out hbl.out)) ((hb.out.below B3.out hb.out.lt).below b5 (hb.out.below B3.out hb.out.lt).lt))); clear b5)
      all_goals (
      have hgk := Hi.out
      have hlt9 := HLT.out
      go_roundg (gk - 1)
      case rel => exact ⟨i + 1, by omega, by go_num, hid R5.out.2.2, hid R5.out.2.1⟩
      case measure => omega)
set_option maxHeartbeats 8000000 in
set_option maxRecDepth 100000 in
theorem closedY_k5 (x y m : Int) (b : Bool) (T A T2 : Option Addr) (tc tc2 : Nat) (ts : List Int) (us : List Co) (c : Nat) (L : List Int) (S S2 : Nat → Prop) (w : World) (hm : us.length ≤ 17592186044416) (hLl : L.length ≤ 900000) (hwf : Wf4 5 x y m) (hrow : CRow w S us A 0) (hI : IAt w S2 L T2 tc2)
    (H0 : ClosYH us L) (hcl : ∀ i, (hi : i < us.length) → ClosY us[i] (L ++ bindA 5 x y i)) :
    Calls Try.prog 39 #[.agg #[.int .i64 5, .int .i64 x, .int .i64 y, .int .i64 m, .bool b, .slice T ts.length tc, .slice A us.length c], .slice T2 L.length tc2] w (SayP true w) := by
  have hL : us.length ≤ 281474976710656 := by omega
  have H := hid (And.intro hm (And.intro hrow H0))
  have HI := hid hI
  have WX := hid hwf.2.1
  have WY := hid hwf.2.2.1
  have HCL := hid hcl
  (try have HXL := hid hxl)
  (try clear hxl)
  clear hm hrow H0 hI hwf hcl
  go_enter Try.func39, Try.ntmps39
  go_wp2_with (go_at_call 54; (refine (in_yes L T2 tc2 x S2 _ (HI.out.keep (fun b9 hb' hl => ⟨(al1 w _).block b9 hl, hb'⟩)) HXL.out).mono ?_); rintro e9 w1 ⟨rfl, b1⟩; have R1 := hid (And.intro trivial (And.intro ((Blk.new w 25 #[.int .i64 5, .int .i64 x, .int .i64 y, .int .i64 m, .bool b, .slice T ts.length tc, .slice A us.length c]).below b1 (by simp)) (below_hop b1 (al1 w _)))); clear b1)
  go_loopg [5] us.length (fun g z wr => ∃ (i : Nat), i + g = us.length ∧ z = .int .i64 i ∧ Hid (Blk wr w.heap.size 25 #[.int .i64 5, .int .i64 x, .int .i64 y, .int .i64 m, .bool b, .slice T ts.length tc, .slice A us.length c]) ∧ Hid (Below w.heap.size w wr))
  case atStart => first | exact ⟨0, by omega, rfl, hid R1.out.2.1, hid R1.out.2.2⟩ | exact ⟨0, by omega, rfl, hid (Blk.new _ _ _), hid (al1 _ _)⟩
  case round =>
    obtain ⟨i, hi, rfl, hb, hbl⟩ := hrel
    have Hi := hid hi
    by_cases hlt : i < us.length
    case neg =>
      obtain rfl : i = us.length := by omega
      obtain ⟨x0, x1, x2, x3, x4, x5, x6⟩ := hb.out.seven
      clear hi
      go_wp2
      go_ret
      exact ⟨rfl, hbl.out⟩
    have hlt' : (i : Int) < us.length := by omega
    obtain ⟨x0, x1, x2, x3, x4, x5, x6⟩ := hb.out.seven
    obtain ⟨ad, k2, q2, y2, n2, i2, T5, tl2, tc5, A2, m2', c2, rfl, hSb, hab, ⟨y0, y1, y2', y3, y4, y5, y6⟩, hel⟩ := (H.out.2.1.up hbl.out).elem hlt
    obtain ⟨t, ht⟩ : ∃ t, t = us[i] := ⟨_, rfl⟩
    rw [← ht] at hel
    have Q := hid (And.intro hel (And.intro (show t ∈ us by rw [ht]; exact List.getElem_mem hlt) ht))
    have HLT := hid hlt
    clear hi hel hSb hab ht
    cases e0 : ((i : Int) == 1)
    · have HE := hid e0
      have HA : Hid (bindA 5 x y i = []) := hid ((by have h9 := HE.out; simp at h9; have h8 : ¬ i = 1 := (by omega); simp [bindA, h8]))
      have CY := hid (show ClosY t L by (have h5 := HCL.out i HLT.out; rw [HA.out, List.append_nil, ← Q.out.2.2] at h5; exact h5))
      go_wp2_with (go_at_call 39; go_must (refine (H.out.2.2 t Q.out.2.1 _ _ S2 L T2 L.length tc2 _ Q.out.1 (HI.out.keep (fun b9 hb' hl => ⟨hbl.out.block b9 hl, hb'⟩)) rfl (by omega) CY.out).mono ?_); rintro e w5 ⟨rfl, b5⟩; have R5 := hid (And.intro trivial (And.intro (below_hop b5 hbl.out) (hb.out.below b5 hb.out.lt))); clear b5)
      have hgk := Hi.out
      have hlt9 := HLT.out
      go_roundg (gk - 1)
      case rel => exact ⟨i + 1, by omega, by go_num, hid R5.out.2.2, hid R5.out.2.1⟩
      case measure => omega
    · have HE := hid e0
      have HA : Hid (bindA 5 x y i = [x]) := hid (by have h9 := HE.out; simp at h9; have h8 : i = 1 := (by omega); simp [bindA, h8])
      go_wp2
      have CY := hid (show ClosY t (L ++ [x]) by (have h5 := HCL.out i HLT.out; rw [HA.out, ← Q.out.2.2] at h5; exact h5))
      go_region_held3 (fun w' => w'.cell? ⟨w.heap.size, 1, none⟩ = some (.int .i64 x)) (first | with_reducible exact x1 | with_reducible exact z1 | go_keep) (first | (first | (refine step_appI (by rfl) _ _ (by rfl) wr.heap.size (v := .slice (some ⟨wr.heap.size, 0, none⟩) 0 0) (xs := []) (by rfl) ?_ (A := T2) (n := L.length) (c := tc2) (Bi := w.heap.size) (ys := L) (by rfl) ?_ ?_ ?_ ?_; (· first | exact (OwnI.lit0 (by simp) (by simp)).drew | exact ((OwnI.lit0 (by simp) (by simp)).alloc _).drew); (· exact iat_ints (B := w.heap.size) (HI.out.keep (T := fun b => b < w.heap.size) (fun b hb' hl => ⟨(by have h7 := hbl.out; (first | exact (h7.alloc h7.size _).drew | exact ((h7.alloc h7.size _).alloc (by have := h7.size; simp; omega) _).drew) : Below w.heap.size w _).block b hl, hl⟩)) (fun b hb _ => hb)); (· first | (simp; done) | (simp; omega)); (· first | (simp; done) | (simp; omega)); intro A1 c1 w2 ho hg hbb; simp only [List.length_nil, Nat.zero_add, List.nil_append] at ho ⊢; have O1 := hid ho; have B1 := hid (hbb wr.heap.size wr (Nat.le_refl _) (by first | exact (al1 _ _).drew | exact (al2 _ _ _).drew)); have z1 : w2.cell? ⟨w.heap.size, 1, none⟩ = some (.int .i64 x) := (hb.out.below B1.out hb.out.lt).cell 1; have z2 : w2.cell? ⟨w.heap.size, 2, none⟩ = some (.int .i64 y) := (hb.out.below B1.out hb.out.lt).cell 2; first | have LX := hid ((Blk.new' (g := wr.heap.size + 1) (w := wr.alloc (.cells #[] 3)) (by simp) 3 #[.int .i64 x]).drew.grown hg (by simp [Value.ownBlock])) | have LX := hid (((Blk.new' (g := wr.heap.size) (w := wr) (by simp) 3 #[.int .i64 x]).alloc (.cells #[] 3)).drew.grown hg (by simp [Value.ownBlock])) | skip) | (refine step_appI (by rfl) _ _ (by rfl) wr.heap.size (v := .slice (some ⟨wr.heap.size + 1, 0, none⟩) 0 0) (xs := []) (by rfl) ?_ (A := T2) (n := L.length) (c := tc2) (Bi := w.heap.size) (ys := L) (by rfl) ?_ ?_ ?_ ?_; (· first | exact (OwnI.lit0 (by simp) (by simp)).drew | exact ((OwnI.lit0 (by simp) (by simp)).alloc _).drew); (· exact iat_ints (B := w.heap.size) (HI.out.keep (T := fun b => b < w.heap.size) (fun b hb' hl => ⟨(by have h7 := hbl.out; (first | exact (h7.alloc h7.size _).drew | exact ((h7.alloc h7.size _).alloc (by have := h7.size; simp; omega) _).drew) : Below w.heap.size w _).block b hl, hl⟩)) (fun b hb _ => hb)); (· first | (simp; done) | (simp; omega)); (· first | (simp; done) | (simp; omega)); intro A1 c1 w2 ho hg hbb; simp only [List.length_nil, Nat.zero_add, List.nil_append] at ho ⊢; have O1 := hid ho; have B1 := hid (hbb wr.heap.size wr (Nat.le_refl _) (by first | exact (al1 _ _).drew | exact (al2 _ _ _).drew)); have z1 : w2.cell? ⟨w.heap.size, 1, none⟩ = some (.int .i64 x) := (hb.out.below B1.out hb.out.lt).cell 1; have z2 : w2.cell? ⟨w.heap.size, 2, none⟩ = some (.int .i64 y) := (hb.out.below B1.out hb.out.lt).cell 2; first | have LX := hid ((Blk.new' (g := wr.heap.size + 1) (w := wr.alloc (.cells #[] 3)) (by simp) 3 #[.int .i64 x]).drew.grown hg (by simp [Value.ownBlock])) | have LX := hid (((Blk.new' (g := wr.heap.size) (w := wr) (by simp) 3 #[.int .i64 x]).alloc (.cells #[] 3)).drew.grown hg (by simp [Value.ownBlock])) | skip)) | (have _ := O1; first | (refine step_appI (by rfl) _ _ (by rfl) wr.heap.size (v := .slice A1 L.length c1) (xs := L) (by rfl) ?_ (A := some ⟨w2.heap.size, 0, none⟩) (n := 1) (c := 1) (Bi := w2.heap.size + 1) (ys := [x]) (by rfl) ?_ ?_ ?_ ?_; (· first | exact O1.out | exact O1.out.alloc _); (· (first | exact ints_lit1 LX.out WX.out | exact ints_lit1 (Blk.new' (by simp) _ _) WX.out)); (· omega); (· have h6 := B1.out.size; first | exact h6 | exact Nat.le_trans h6 (al1 _ _).size); intro A3 c3 w3 ho hg hbb; have O3 := hid ho; have B3 := hid (hbb wr.heap.size wr (Nat.le_refl _) (by have b1 := B1.out; first | exact b1 | exact b1.alloc b1.size _)); have z1 : w3.cell? ⟨w.heap.size, 1, none⟩ = some (.int .i64 x) := (hb.out.below B3.out hb.out.lt).cell 1; have z2 : w3.cell? ⟨w.heap.size, 2, none⟩ = some (.int .i64 y) := (hb.out.below B3.out hb.out.lt).cell 2) | (refine step_appI (by rfl) _ _ (by rfl) wr.heap.size (v := .slice A1 L.length c1) (xs := L) (by rfl) ?_ (A := some ⟨wr.heap.size + 1, 0, none⟩) (n := 1) (c := 1) (Bi := wr.heap.size + 1 + 1) (ys := [x]) (by rfl) ?_ ?_ ?_ ?_; (· first | exact O1.out | exact O1.out.alloc _); (· (first | exact ints_lit1 LX.out WX.out | exact ints_lit1 (Blk.new' (by simp) _ _) WX.out)); (· omega); (· have h6 := B1.out.size; first | exact h6 | exact Nat.le_trans h6 (al1 _ _).size); intro A3 c3 w3 ho hg hbb; have O3 := hid ho; have B3 := hid (hbb wr.heap.size wr (Nat.le_refl _) (by have b1 := B1.out; first | exact b1 | exact b1.alloc b1.size _)); have z1 : w3.cell? ⟨w.heap.size, 1, none⟩ = some (.int .i64 x) := (hb.out.below B3.out hb.out.lt).cell 1; have z2 : w3.cell? ⟨w.heap.size, 2, none⟩ = some (.int .i64 y) := (hb.out.below B3.out hb.out.lt).cell 2) | (refine step_appI (by rfl) _ _ (by rfl) wr.heap.size (v := .slice A1 L.length c1) (xs := L) (by rfl) ?_ (A := some ⟨wr.heap.size, 0, none⟩) (n := 1) (c := 1) (Bi := wr.heap.size + 1) (ys := [x]) (by rfl) ?_ ?_ ?_ ?_; (· first | exact O1.out | exact O1.out.alloc _); (· (first | exact ints_lit1 LX.out WX.out | exact ints_lit1 (Blk.new' (by simp) _ _) WX.out)); (· omega); (· have h6 := B1.out.size; first | exact h6 | exact Nat.le_trans h6 (al1 _ _).size); intro A3 c3 w3 ho hg hbb; have O3 := hid ho; have B3 := hid (hbb wr.heap.size wr (Nat.le_refl _) (by have b1 := B1.out; first | exact b1 | exact b1.alloc b1.size _)); have z1 : w3.cell? ⟨w.heap.size, 1, none⟩ = some (.int .i64 x) := (hb.out.below B3.out hb.out.lt).cell 1; have z2 : w3.cell? ⟨w.heap.size, 2, none⟩ = some (.int .i64 y) := (hb.out.below B3.out hb.out.lt).cell 2)))
      all_goals
        have x7 := (hb.out.below B3.out hb.out.lt).seven
        obtain ⟨v0, v1, v2, v3, v4, v5, v6⟩ := x7
        have y7 := at7_keep (B3.out.block _ (cell_lt y0)) rfl (And.intro y0 (And.intro y1 (And.intro y2' (And.intro y3 (And.intro y4 (And.intro y5 y6))))))
        obtain ⟨z0, z1, z2, z3, z4, z5, z6⟩ := y7
        go_wp2_with (go_at_call 39; go_must (refine (H.out.2.2 t Q.out.2.1 _ _ _ (L ++ [x]) A3 (L.length + 1) c3 _ (Q.out.1.up B3.out) (own_iat O3.out (by simp; omega)).2 (by simp) (by simp) CY.out).mono ?_); rintro e w5 ⟨rfl, b5⟩; have R5 := hid (And.intro trivial (And.intro (below_hop b5 (below_hop B3.out hbl.out)) ((hb.out.below B3.out hb.out.lt).below b5 (hb.out.below B3.out hb.out.lt).lt))); clear b5)
      all_goals (
      have hgk := Hi.out
      have hlt9 := HLT.out
      go_roundg (gk - 1)
      case rel => exact ⟨i + 1, by omega, by go_num, hid R5.out.2.2, hid R5.out.2.1⟩
      case measure => omega)
set_option maxHeartbeats 8000000 in
set_option maxRecDepth 100000 in
theorem closedY_k6 (x y m : Int) (b : Bool) (T A T2 : Option Addr) (tc tc2 : Nat) (ts : List Int) (us : List Co) (c : Nat) (L : List Int) (S S2 : Nat → Prop) (w : World) (hm : us.length ≤ 17592186044416) (hLl : L.length ≤ 900000) (hwf : Wf4 6 x y m) (hrow : CRow w S us A 0) (hI : IAt w S2 L T2 tc2)
    (H0 : ClosYH us L) (hcl : ∀ i, (hi : i < us.length) → ClosY us[i] (L ++ bindA 6 x y i)) :
    Calls Try.prog 39 #[.agg #[.int .i64 6, .int .i64 x, .int .i64 y, .int .i64 m, .bool b, .slice T ts.length tc, .slice A us.length c], .slice T2 L.length tc2] w (SayP true w) := by
  have hL : us.length ≤ 281474976710656 := by omega
  have H := hid (And.intro hm (And.intro hrow H0))
  have HI := hid hI
  have WX := hid hwf.2.1
  have WY := hid hwf.2.2.1
  have HCL := hid hcl
  (try have HXL := hid hxl)
  (try clear hxl)
  clear hm hrow H0 hI hwf hcl
  go_enter Try.func39, Try.ntmps39
  go_wp2_with (go_at_call 54; (refine (in_yes L T2 tc2 x S2 _ (HI.out.keep (fun b9 hb' hl => ⟨(al1 w _).block b9 hl, hb'⟩)) HXL.out).mono ?_); rintro e9 w1 ⟨rfl, b1⟩; have R1 := hid (And.intro trivial (And.intro ((Blk.new w 25 #[.int .i64 6, .int .i64 x, .int .i64 y, .int .i64 m, .bool b, .slice T ts.length tc, .slice A us.length c]).below b1 (by simp)) (below_hop b1 (al1 w _)))); clear b1)
  go_loopg [5] us.length (fun g z wr => ∃ (i : Nat), i + g = us.length ∧ z = .int .i64 i ∧ Hid (Blk wr w.heap.size 25 #[.int .i64 6, .int .i64 x, .int .i64 y, .int .i64 m, .bool b, .slice T ts.length tc, .slice A us.length c]) ∧ Hid (Below w.heap.size w wr))
  case atStart => first | exact ⟨0, by omega, rfl, hid R1.out.2.1, hid R1.out.2.2⟩ | exact ⟨0, by omega, rfl, hid (Blk.new _ _ _), hid (al1 _ _)⟩
  case round =>
    obtain ⟨i, hi, rfl, hb, hbl⟩ := hrel
    have Hi := hid hi
    by_cases hlt : i < us.length
    case neg =>
      obtain rfl : i = us.length := by omega
      obtain ⟨x0, x1, x2, x3, x4, x5, x6⟩ := hb.out.seven
      clear hi
      go_wp2
      go_ret
      exact ⟨rfl, hbl.out⟩
    have hlt' : (i : Int) < us.length := by omega
    obtain ⟨x0, x1, x2, x3, x4, x5, x6⟩ := hb.out.seven
    obtain ⟨ad, k2, q2, y2, n2, i2, T5, tl2, tc5, A2, m2', c2, rfl, hSb, hab, ⟨y0, y1, y2', y3, y4, y5, y6⟩, hel⟩ := (H.out.2.1.up hbl.out).elem hlt
    obtain ⟨t, ht⟩ : ∃ t, t = us[i] := ⟨_, rfl⟩
    rw [← ht] at hel
    have Q := hid (And.intro hel (And.intro (show t ∈ us by rw [ht]; exact List.getElem_mem hlt) ht))
    have HLT := hid hlt
    clear hi hel hSb hab ht
    rcases (show (((i : Int) == 1) = true ∧ True) ∨ (((i : Int) == 1) = false ∧ ((i : Int) == 0) = true) ∨ (((i : Int) == 1) = false ∧ ((i : Int) == 0) = false) by cases ((i : Int) == 1) <;> cases ((i : Int) == 0) <;> simp) with ⟨e1, e0⟩ | ⟨e1, e0⟩ | ⟨e1, e0⟩
    · have HE := hid e1
      have HA : Hid (bindA 6 x y i = [x]) := hid (by have h9 := HE.out; simp at h9; have h8 : i = 1 := (by omega); simp [bindA, h8])
      go_wp2
      have CY := hid (show ClosY t (L ++ [x]) by (have h5 := HCL.out i HLT.out; rw [HA.out, ← Q.out.2.2] at h5; exact h5))
      go_region_held3 (fun w' => w'.cell? ⟨w.heap.size, 1, none⟩ = some (.int .i64 x)) (first | with_reducible exact x1 | with_reducible exact z1 | go_keep) (first | (first | (refine step_appI (by rfl) _ _ (by rfl) wr.heap.size (v := .slice (some ⟨wr.heap.size, 0, none⟩) 0 0) (xs := []) (by rfl) ?_ (A := T2) (n := L.length) (c := tc2) (Bi := w.heap.size) (ys := L) (by rfl) ?_ ?_ ?_ ?_; (· first | exact (OwnI.lit0 (by simp) (by simp)).drew | exact ((OwnI.lit0 (by simp) (by simp)).alloc _).drew); (· exact iat_ints (B := w.heap.size) (HI.out.keep (T := fun b => b < w.heap.size) (fun b hb' hl => ⟨(by have h7 := hbl.out; (first | exact (h7.alloc h7.size _).drew | exact ((h7.alloc h7.size _).alloc (by have := h7.size; simp; omega) _).drew) : Below w.heap.size w _).block b hl, hl⟩)) (fun b hb _ => hb)); (· first | (simp; done) | (simp; omega)); (· first | (simp; done) | (simp; omega)); intro A1 c1 w2 ho hg hbb; simp only [List.length_nil, Nat.zero_add, List.nil_append] at ho ⊢; have O1 := hid ho; have B1 := hid (hbb wr.heap.size wr (Nat.le_refl _) (by first | exact (al1 _ _).drew | exact (al2 _ _ _).drew)); have z1 : w2.cell? ⟨w.heap.size, 1, none⟩ = some (.int .i64 x) := (hb.out.below B1.out hb.out.lt).cell 1; have z2 : w2.cell? ⟨w.heap.size, 2, none⟩ = some (.int .i64 y) := (hb.out.below B1.out hb.out.lt).cell 2; first | have LX := hid ((Blk.new' (g := wr.heap.size + 1) (w := wr.alloc (.cells #[] 3)) (by simp) 3 #[.int .i64 x]).drew.grown hg (by simp [Value.ownBlock])) | have LX := hid (((Blk.new' (g := wr.heap.size) (w := wr) (by simp) 3 #[.int .i64 x]).alloc (.cells #[] 3)).drew.grown hg (by simp [Value.ownBlock])) | skip) | (refine step_appI (by rfl) _ _ (by rfl) wr.heap.size (v := .slice (some ⟨wr.heap.size + 1, 0, none⟩) 0 0) (xs := []) (by rfl) ?_ (A := T2) (n := L.length) (c := tc2) (Bi := w.heap.size) (ys := L) (by rfl) ?_ ?_ ?_ ?_; (· first | exact (OwnI.lit0 (by simp) (by simp)).drew | exact ((OwnI.lit0 (by simp) (by simp)).alloc _).drew); (· exact iat_ints (B := w.heap.size) (HI.out.keep (T := fun b => b < w.heap.size) (fun b hb' hl => ⟨(by have h7 := hbl.out; (first | exact (h7.alloc h7.size _).drew | exact ((h7.alloc h7.size _).alloc (by have := h7.size; simp; omega) _).drew) : Below w.heap.size w _).block b hl, hl⟩)) (fun b hb _ => hb)); (· first | (simp; done) | (simp; omega)); (· first | (simp; done) | (simp; omega)); intro A1 c1 w2 ho hg hbb; simp only [List.length_nil, Nat.zero_add, List.nil_append] at ho ⊢; have O1 := hid ho; have B1 := hid (hbb wr.heap.size wr (Nat.le_refl _) (by first | exact (al1 _ _).drew | exact (al2 _ _ _).drew)); have z1 : w2.cell? ⟨w.heap.size, 1, none⟩ = some (.int .i64 x) := (hb.out.below B1.out hb.out.lt).cell 1; have z2 : w2.cell? ⟨w.heap.size, 2, none⟩ = some (.int .i64 y) := (hb.out.below B1.out hb.out.lt).cell 2; first | have LX := hid ((Blk.new' (g := wr.heap.size + 1) (w := wr.alloc (.cells #[] 3)) (by simp) 3 #[.int .i64 x]).drew.grown hg (by simp [Value.ownBlock])) | have LX := hid (((Blk.new' (g := wr.heap.size) (w := wr) (by simp) 3 #[.int .i64 x]).alloc (.cells #[] 3)).drew.grown hg (by simp [Value.ownBlock])) | skip)) | (have _ := O1; first | (refine step_appI (by rfl) _ _ (by rfl) wr.heap.size (v := .slice A1 L.length c1) (xs := L) (by rfl) ?_ (A := some ⟨w2.heap.size, 0, none⟩) (n := 1) (c := 1) (Bi := w2.heap.size + 1) (ys := [x]) (by rfl) ?_ ?_ ?_ ?_; (· first | exact O1.out | exact O1.out.alloc _); (· (first | exact ints_lit1 LX.out WX.out | exact ints_lit1 (Blk.new' (by simp) _ _) WX.out)); (· omega); (· have h6 := B1.out.size; first | exact h6 | exact Nat.le_trans h6 (al1 _ _).size); intro A3 c3 w3 ho hg hbb; have O3 := hid ho; have B3 := hid (hbb wr.heap.size wr (Nat.le_refl _) (by have b1 := B1.out; first | exact b1 | exact b1.alloc b1.size _)); have z1 : w3.cell? ⟨w.heap.size, 1, none⟩ = some (.int .i64 x) := (hb.out.below B3.out hb.out.lt).cell 1; have z2 : w3.cell? ⟨w.heap.size, 2, none⟩ = some (.int .i64 y) := (hb.out.below B3.out hb.out.lt).cell 2) | (refine step_appI (by rfl) _ _ (by rfl) wr.heap.size (v := .slice A1 L.length c1) (xs := L) (by rfl) ?_ (A := some ⟨wr.heap.size + 1, 0, none⟩) (n := 1) (c := 1) (Bi := wr.heap.size + 1 + 1) (ys := [x]) (by rfl) ?_ ?_ ?_ ?_; (· first | exact O1.out | exact O1.out.alloc _); (· (first | exact ints_lit1 LX.out WX.out | exact ints_lit1 (Blk.new' (by simp) _ _) WX.out)); (· omega); (· have h6 := B1.out.size; first | exact h6 | exact Nat.le_trans h6 (al1 _ _).size); intro A3 c3 w3 ho hg hbb; have O3 := hid ho; have B3 := hid (hbb wr.heap.size wr (Nat.le_refl _) (by have b1 := B1.out; first | exact b1 | exact b1.alloc b1.size _)); have z1 : w3.cell? ⟨w.heap.size, 1, none⟩ = some (.int .i64 x) := (hb.out.below B3.out hb.out.lt).cell 1; have z2 : w3.cell? ⟨w.heap.size, 2, none⟩ = some (.int .i64 y) := (hb.out.below B3.out hb.out.lt).cell 2) | (refine step_appI (by rfl) _ _ (by rfl) wr.heap.size (v := .slice A1 L.length c1) (xs := L) (by rfl) ?_ (A := some ⟨wr.heap.size, 0, none⟩) (n := 1) (c := 1) (Bi := wr.heap.size + 1) (ys := [x]) (by rfl) ?_ ?_ ?_ ?_; (· first | exact O1.out | exact O1.out.alloc _); (· (first | exact ints_lit1 LX.out WX.out | exact ints_lit1 (Blk.new' (by simp) _ _) WX.out)); (· omega); (· have h6 := B1.out.size; first | exact h6 | exact Nat.le_trans h6 (al1 _ _).size); intro A3 c3 w3 ho hg hbb; have O3 := hid ho; have B3 := hid (hbb wr.heap.size wr (Nat.le_refl _) (by have b1 := B1.out; first | exact b1 | exact b1.alloc b1.size _)); have z1 : w3.cell? ⟨w.heap.size, 1, none⟩ = some (.int .i64 x) := (hb.out.below B3.out hb.out.lt).cell 1; have z2 : w3.cell? ⟨w.heap.size, 2, none⟩ = some (.int .i64 y) := (hb.out.below B3.out hb.out.lt).cell 2)))
      all_goals
        have x7 := (hb.out.below B3.out hb.out.lt).seven
        obtain ⟨v0, v1, v2, v3, v4, v5, v6⟩ := x7
        have y7 := at7_keep (B3.out.block _ (cell_lt y0)) rfl (And.intro y0 (And.intro y1 (And.intro y2' (And.intro y3 (And.intro y4 (And.intro y5 y6))))))
        obtain ⟨z0, z1, z2, z3, z4, z5, z6⟩ := y7
        go_wp2_with (go_at_call 39; go_must (refine (H.out.2.2 t Q.out.2.1 _ _ _ (L ++ [x]) A3 (L.length + 1) c3 _ (Q.out.1.up B3.out) (own_iat O3.out (by simp; omega)).2 (by simp) (by simp) CY.out).mono ?_); rintro e w5 ⟨rfl, b5⟩; have R5 := hid (And.intro trivial (And.intro (below_hop b5 (below_hop B3.out hbl.out)) ((hb.out.below B3.out hb.out.lt).below b5 (hb.out.below B3.out hb.out.lt).lt))); clear b5)
      all_goals (
      have hgk := Hi.out
      have hlt9 := HLT.out
      go_roundg (gk - 1)
      case rel => exact ⟨i + 1, by omega, by go_num, hid R5.out.2.2, hid R5.out.2.1⟩
      case measure => omega)
    · have HE := hid e0
      have HA : Hid (bindA 6 x y i = [x, y]) := hid (by have h9 := HE.out; simp at h9; simp [bindA, h9])
      go_wp2
      have CY := hid (show ClosY t (L ++ [x, y]) by (have h5 := HCL.out i HLT.out; rw [HA.out, ← Q.out.2.2] at h5; exact h5))
      go_region_held3 (fun w' => w'.cell? ⟨w.heap.size, 1, none⟩ = some (.int .i64 x) ∧ w'.cell? ⟨w.heap.size, 2, none⟩ = some (.int .i64 y)) (first | with_reducible exact ⟨x1, x2⟩ | with_reducible exact ⟨z1, z2⟩ | go_keep) (first | (first | (refine step_appI (by rfl) _ _ (by rfl) wr.heap.size (v := .slice (some ⟨wr.heap.size, 0, none⟩) 0 0) (xs := []) (by rfl) ?_ (A := T2) (n := L.length) (c := tc2) (Bi := w.heap.size) (ys := L) (by rfl) ?_ ?_ ?_ ?_; (· first | exact (OwnI.lit0 (by simp) (by simp)).drew | exact ((OwnI.lit0 (by simp) (by simp)).alloc _).drew); (· exact iat_ints (B := w.heap.size) (HI.out.keep (T := fun b => b < w.heap.size) (fun b hb' hl => ⟨(by have h7 := hbl.out; (first | exact (h7.alloc h7.size _).drew | exact ((h7.alloc h7.size _).alloc (by have := h7.size; simp; omega) _).drew) : Below w.heap.size w _).block b hl, hl⟩)) (fun b hb _ => hb)); (· first | (simp; done) | (simp; omega)); (· first | (simp; done) | (simp; omega)); intro A1 c1 w2 ho hg hbb; simp only [List.length_nil, Nat.zero_add, List.nil_append] at ho ⊢; have O1 := hid ho; have B1 := hid (hbb wr.heap.size wr (Nat.le_refl _) (by first | exact (al1 _ _).drew | exact (al2 _ _ _).drew)); have z1 : w2.cell? ⟨w.heap.size, 1, none⟩ = some (.int .i64 x) := (hb.out.below B1.out hb.out.lt).cell 1; have z2 : w2.cell? ⟨w.heap.size, 2, none⟩ = some (.int .i64 y) := (hb.out.below B1.out hb.out.lt).cell 2; first | have LX := hid ((Blk.new' (g := wr.heap.size + 1) (w := wr.alloc (.cells #[] 3)) (by simp) 3 #[.int .i64 x, .int .i64 y]).drew.grown hg (by simp [Value.ownBlock])) | have LX := hid (((Blk.new' (g := wr.heap.size) (w := wr) (by simp) 3 #[.int .i64 x, .int .i64 y]).alloc (.cells #[] 3)).drew.grown hg (by simp [Value.ownBlock])) | skip) | (refine step_appI (by rfl) _ _ (by rfl) wr.heap.size (v := .slice (some ⟨wr.heap.size + 1, 0, none⟩) 0 0) (xs := []) (by rfl) ?_ (A := T2) (n := L.length) (c := tc2) (Bi := w.heap.size) (ys := L) (by rfl) ?_ ?_ ?_ ?_; (· first | exact (OwnI.lit0 (by simp) (by simp)).drew | exact ((OwnI.lit0 (by simp) (by simp)).alloc _).drew); (· exact iat_ints (B := w.heap.size) (HI.out.keep (T := fun b => b < w.heap.size) (fun b hb' hl => ⟨(by have h7 := hbl.out; (first | exact (h7.alloc h7.size _).drew | exact ((h7.alloc h7.size _).alloc (by have := h7.size; simp; omega) _).drew) : Below w.heap.size w _).block b hl, hl⟩)) (fun b hb _ => hb)); (· first | (simp; done) | (simp; omega)); (· first | (simp; done) | (simp; omega)); intro A1 c1 w2 ho hg hbb; simp only [List.length_nil, Nat.zero_add, List.nil_append] at ho ⊢; have O1 := hid ho; have B1 := hid (hbb wr.heap.size wr (Nat.le_refl _) (by first | exact (al1 _ _).drew | exact (al2 _ _ _).drew)); have z1 : w2.cell? ⟨w.heap.size, 1, none⟩ = some (.int .i64 x) := (hb.out.below B1.out hb.out.lt).cell 1; have z2 : w2.cell? ⟨w.heap.size, 2, none⟩ = some (.int .i64 y) := (hb.out.below B1.out hb.out.lt).cell 2; first | have LX := hid ((Blk.new' (g := wr.heap.size + 1) (w := wr.alloc (.cells #[] 3)) (by simp) 3 #[.int .i64 x, .int .i64 y]).drew.grown hg (by simp [Value.ownBlock])) | have LX := hid (((Blk.new' (g := wr.heap.size) (w := wr) (by simp) 3 #[.int .i64 x, .int .i64 y]).alloc (.cells #[] 3)).drew.grown hg (by simp [Value.ownBlock])) | skip)) | (have _ := O1; first | (refine step_appI (by rfl) _ _ (by rfl) wr.heap.size (v := .slice A1 L.length c1) (xs := L) (by rfl) ?_ (A := some ⟨w2.heap.size, 0, none⟩) (n := 2) (c := 2) (Bi := w2.heap.size + 1) (ys := [x, y]) (by rfl) ?_ ?_ ?_ ?_; (· first | exact O1.out | exact O1.out.alloc _); (· (first | exact ints_lit2 LX.out WX.out WY.out | exact ints_lit2 (Blk.new' (by simp) _ _) WX.out WY.out)); (· omega); (· have h6 := B1.out.size; first | exact h6 | exact Nat.le_trans h6 (al1 _ _).size); intro A3 c3 w3 ho hg hbb; have O3 := hid ho; have B3 := hid (hbb wr.heap.size wr (Nat.le_refl _) (by have b1 := B1.out; first | exact b1 | exact b1.alloc b1.size _)); have z1 : w3.cell? ⟨w.heap.size, 1, none⟩ = some (.int .i64 x) := (hb.out.below B3.out hb.out.lt).cell 1; have z2 : w3.cell? ⟨w.heap.size, 2, none⟩ = some (.int .i64 y) := (hb.out.below B3.out hb.out.lt).cell 2) | (refine step_appI (by rfl) _ _ (by rfl) wr.heap.size (v := .slice A1 L.length c1) (xs := L) (by rfl) ?_ (A := some ⟨wr.heap.size + 1, 0, none⟩) (n := 2) (c := 2) (Bi := wr.heap.size + 1 + 1) (ys := [x, y]) (by rfl) ?_ ?_ ?_ ?_; (· first | exact O1.out | exact O1.out.alloc _); (· (first | exact ints_lit2 LX.out WX.out WY.out | exact ints_lit2 (Blk.new' (by simp) _ _) WX.out WY.out)); (· omega); (· have h6 := B1.out.size; first | exact h6 | exact Nat.le_trans h6 (al1 _ _).size); intro A3 c3 w3 ho hg hbb; have O3 := hid ho; have B3 := hid (hbb wr.heap.size wr (Nat.le_refl _) (by have b1 := B1.out; first | exact b1 | exact b1.alloc b1.size _)); have z1 : w3.cell? ⟨w.heap.size, 1, none⟩ = some (.int .i64 x) := (hb.out.below B3.out hb.out.lt).cell 1; have z2 : w3.cell? ⟨w.heap.size, 2, none⟩ = some (.int .i64 y) := (hb.out.below B3.out hb.out.lt).cell 2) | (refine step_appI (by rfl) _ _ (by rfl) wr.heap.size (v := .slice A1 L.length c1) (xs := L) (by rfl) ?_ (A := some ⟨wr.heap.size, 0, none⟩) (n := 2) (c := 2) (Bi := wr.heap.size + 1) (ys := [x, y]) (by rfl) ?_ ?_ ?_ ?_; (· first | exact O1.out | exact O1.out.alloc _); (· (first | exact ints_lit2 LX.out WX.out WY.out | exact ints_lit2 (Blk.new' (by simp) _ _) WX.out WY.out)); (· omega); (· have h6 := B1.out.size; first | exact h6 | exact Nat.le_trans h6 (al1 _ _).size); intro A3 c3 w3 ho hg hbb; have O3 := hid ho; have B3 := hid (hbb wr.heap.size wr (Nat.le_refl _) (by have b1 := B1.out; first | exact b1 | exact b1.alloc b1.size _)); have z1 : w3.cell? ⟨w.heap.size, 1, none⟩ = some (.int .i64 x) := (hb.out.below B3.out hb.out.lt).cell 1; have z2 : w3.cell? ⟨w.heap.size, 2, none⟩ = some (.int .i64 y) := (hb.out.below B3.out hb.out.lt).cell 2)))
      all_goals
        have x7 := (hb.out.below B3.out hb.out.lt).seven
        obtain ⟨v0, v1, v2, v3, v4, v5, v6⟩ := x7
        have y7 := at7_keep (B3.out.block _ (cell_lt y0)) rfl (And.intro y0 (And.intro y1 (And.intro y2' (And.intro y3 (And.intro y4 (And.intro y5 y6))))))
        obtain ⟨z0, z1, z2, z3, z4, z5, z6⟩ := y7
        go_wp2_with (go_at_call 39; go_must (refine (H.out.2.2 t Q.out.2.1 _ _ _ (L ++ [x, y]) A3 (L.length + 2) c3 _ (Q.out.1.up B3.out) (own_iat O3.out (by simp; omega)).2 (by simp) (by simp) CY.out).mono ?_); rintro e w5 ⟨rfl, b5⟩; have R5 := hid (And.intro trivial (And.intro (below_hop b5 (below_hop B3.out hbl.out)) ((hb.out.below B3.out hb.out.lt).below b5 (hb.out.below B3.out hb.out.lt).lt))); clear b5)
      all_goals (
      have hgk := Hi.out
      have hlt9 := HLT.out
      go_roundg (gk - 1)
      case rel => exact ⟨i + 1, by omega, by go_num, hid R5.out.2.2, hid R5.out.2.1⟩
      case measure => omega)
    · have HE := hid (And.intro e0 e1)
      have HA : Hid (bindA 6 x y i = []) := hid ((by have h9 := HE.out; simp at h9; have h8 : ¬ i = 1 := (by omega); have h7 : ¬ i = 0 := (by omega); simp [bindA, h8, h7]))
      have CY := hid (show ClosY t L by (have h5 := HCL.out i HLT.out; rw [HA.out, List.append_nil, ← Q.out.2.2] at h5; exact h5))
      go_wp2_with (go_at_call 39; go_must (refine (H.out.2.2 t Q.out.2.1 _ _ S2 L T2 L.length tc2 _ Q.out.1 (HI.out.keep (fun b9 hb' hl => ⟨hbl.out.block b9 hl, hb'⟩)) rfl (by omega) CY.out).mono ?_); rintro e w5 ⟨rfl, b5⟩; have R5 := hid (And.intro trivial (And.intro (below_hop b5 hbl.out) (hb.out.below b5 hb.out.lt))); clear b5)
      have hgk := Hi.out
      have hlt9 := HLT.out
      go_roundg (gk - 1)
      case rel => exact ⟨i + 1, by omega, by go_num, hid R5.out.2.2, hid R5.out.2.1⟩
      case measure => omega
theorem closed_yes : ∀ (N : Nat) (t : Co), SizeOf.sizeOf t ≤ N → ∀ (v : Value) (S S2 : Nat → Prop) (L : List Int) (T : Option Addr) (n tc : Nat) (w : World), CAt w S t v → IAt w S2 L T tc → n = L.length → L.length + 2 * nodes t ≤ 900000 → ClosY t L → Calls Try.prog 39 #[v, .slice T n tc] w (SayP true w) := by
  intro N
  induction N with
  | zero => intro t ht; cases t; simp at ht
  | succ N ih =>
  intro t ht v S S2 L T2 n tc2 w hv hI hn hb hcl
  subst hn
  obtain ⟨k, x, y, m, b, ts, us⟩ := t
  obtain ⟨T, tc, A, c, rfl, _, hc, hrow, hwf⟩ := hv.parts
  rw [nodes] at hb
  obtain ⟨hx, hcs⟩ := closY_node hcl
  have H : ClosYH us L := fun t hm v S S2 L2 T n tc w hv hI hn hl hc => ih t (by have := co_lt (k := k) (x := x) (y := y) (n := m) (i := b) (ts := ts) hm; omega) v S S2 L2 T n tc w hv hI hn (by have := Ev.nodes_mem hm; omega) hc
  have hL : L.length ≤ 900000 := by omega
  by_cases h1 : k = 1
  · subst h1; exact closedY_k1 x y m b T A T2 tc tc2 ts us c L S S2 w hc.2.2.2 hL hwf hrow hI H hcs (hx rfl)
  by_cases h3 : k = 3
  · subst h3; exact closedY_k3 x y m b T A T2 tc tc2 ts us c L S S2 w hc.2.2.2 hL hwf hrow hI H hcs
  by_cases h5 : k = 5
  · subst h5; exact closedY_k5 x y m b T A T2 tc tc2 ts us c L S S2 w hc.2.2.2 hL hwf hrow hI H hcs
  by_cases h6 : k = 6
  · subst h6; exact closedY_k6 x y m b T A T2 tc tc2 ts us c L S S2 w hc.2.2.2 hL hwf hrow hI H hcs
  have e : ∀ {a b : Int}, a ≠ b → (a == b) = false := fun h => by simpa using h
  exact closedY_k0 k x y m b T A T2 tc tc2 ts us c L S S2 w hc.2.2.2 hL hwf hrow hI H hcs (e h1) (e h3) (e h5) (e h6)
end Go.Proofs.Ytohdaclbgedeiaa
/-
  THE WALK OF athanorref20.Good, EXACTLY.
-/
namespace Go.Proofs.Ytohdaclbgedeiaa
set_option linter.all false
open Go.ChangeShapes Go.WideShapes Go.ChangeAt Go.RowKit
open Ev (Co nodes nodesL goodB goodM goodML closM formB bindL addM)
mutual
theorem binds_of_good : ∀ {t : Co} {f g : Int → Int} {d : Nat} {D : Int}, goodM t D f = some g → (d : Int) + D = 1025 → bindsM t f = some g ∧ lowM t d
  | .mk k x y n i ts us, f, g, d, D, h, hd => by
    rw [goodM] at h
    rw [bindsM, lowM]
    by_cases hf : 1024 < D ∨ formB k x y n i ts us.length = false
    · rw [if_pos hf] at h; cases h
    rw [if_neg hf] at h
    rw [if_neg (fun e => hf (.inr e))]
    cases ha : addM (bindL k x y) f with
    | none => rw [ha] at h; cases h
    | some g2 =>
      rw [ha] at h
      have := bindsL_of_good (d := d - 1) h (by omega)
      exact ⟨this.1, by omega, this.2⟩
theorem bindsL_of_good : ∀ {us : List Co} {f g : Int → Int} {d : Nat} {D : Int}, goodML us D f = some g → (d : Int) + D = 1025 → bindsML us f = some g ∧ lowML us d
  | [], f, g, d, D, h, _ => by rw [goodML] at h; rw [bindsML, lowML]; exact ⟨h, trivial⟩
  | c :: cs, f, g, d, D, h, hd => by
    rw [goodML] at h
    rw [bindsML, lowML]
    cases hc : goodM c D f with
    | none => rw [hc] at h; cases h
    | some g2 =>
      rw [hc] at h
      have h1 := binds_of_good hc hd
      have h2 := bindsL_of_good h hd
      rw [h1.1]
      exact ⟨h2.1, h1.2, h2.2⟩
end
theorem good_parts {t : Co} (h : goodB t = true) : nodes t ≤ 65536 ∧ lowM t 1024 ∧ (∃ f, bindsM t (fun _ => 0) = some f) ∧ closM t (fun _ => 0) = true := by
  unfold goodB at h
  obtain ⟨h1, h2⟩ := Ev.plain_false h
  obtain ⟨h0, h1⟩ := Ev.plain_false h1
  obtain ⟨g, hg⟩ := Option.isSome_iff_exists.1 h1
  have h3 := binds_of_good (d := 1024) hg (by omega)
  exact ⟨of_decide_eq_true h0, h3.2, ⟨g, h3.1⟩, h2⟩
theorem Closed_yes (t : Co) (v : Value) (S : Nat → Prop) (w : World) (hv : CAt w S t v) (hb : 2 * nodes t ≤ 900000) (hc : closM t (fun _ => 0) = true) : Calls Try.prog 28 #[v] w (SayP true w) := by
  have hv0 := hv
  obtain ⟨k, x, y, m, i, T, tl, tc, A, l, c, rfl⟩ := hv.agg
  have HV := hid hv0
  have HC := hid (show ClosY t [] from ⟨_, fun _ => Int.le_refl _, fun y hy => absurd rfl hy, hc⟩)
  clear hv hv0 hc
  go_enter Try.func28, Try.ntmps28
  go_wp2_with (go_at_call 39; go_must (refine (closed_yes _ t (Nat.le_refl _) _ S (fun _ => False) [] none 0 0 _ (HV.out.up (by first | exact Below.refl _ _ | exact al1 _ _)) ⟨⟨Nat.le_refl _, Nat.zero_le _, fun _ => ⟨rfl, rfl⟩, by simp⟩, fun j hj => by simp at hj⟩ rfl (by simp; omega) HC.out).mono ?_); rintro e w1 ⟨rfl, b1⟩; have R := hid b1; clear b1)
  all_goals go_ret
  all_goals exact ⟨rfl, (by first | exact R.out | exact below_hop R.out (al1 _ _))⟩
set_option maxHeartbeats 8000000 in
set_option maxRecDepth 100000 in
theorem good_yes (t : Co) (v : Value) (S : Nat → Prop) (w : World) (hv : CAt w S t v) (hg : goodB t = true) : Calls Try.prog 14 #[v] w (SayP true w) := by
  have hv0 := hv.low
  obtain ⟨hb, hlow, ⟨f9, hf9⟩, hcl⟩ := good_parts hg
  obtain ⟨k, x, y, m, i, T, tl, tc, A, l, c, rfl⟩ := hv.agg
  have HV := hid hv0
  have HB := hid hb
  have HG := hid (And.intro hlow (And.intro hf9 hcl))
  obtain ⟨N, M, hN, hM, hmk⟩ := mk_big
  have HN := hid (And.intro hN hM)
  have K0 := hid (GK.start w #[.int .i64 k, .int .i64 x, .int .i64 y, .int .i64 m, .bool i, .slice T tl tc, .slice A l c])
  obtain ⟨x0, x1, x2, x3, x4, x5, x6⟩ := (Blk.new w 25 #[.int .i64 k, .int .i64 x, .int .i64 y, .int .i64 m, .bool i, .slice T tl tc, .slice A l c]).seven
  clear hv hv0 hb hN hM hlow hf9 hcl hg
  go_enter Try.func14, Try.ntmps14
  go_wp2
  refine wp_region_held_drew (S := fun w' => (w').cell? ⟨w.heap.size, 0, none⟩ = some (.int .i64 k) ∧ (w').cell? ⟨w.heap.size, 1, none⟩ = some (.int .i64 x) ∧ (w').cell? ⟨w.heap.size, 2, none⟩ = some (.int .i64 y) ∧ (w').cell? ⟨w.heap.size, 3, none⟩ = some (.int .i64 m) ∧ (w').cell? ⟨w.heap.size, 4, none⟩ = some (.bool i) ∧ (w').cell? ⟨w.heap.size, 5, none⟩ = some (.slice T tl tc) ∧ (w').cell? ⟨w.heap.size, 6, none⟩ = some (.slice A l c)) (by kernel_rfl) K0.out.bx.seven (fun hHeld => ?_)
  refine take_d (some 3) (i := 0) (v := .agg #[.int .i64 k, .int .i64 x, .int .i64 y, .int .i64 m, .bool i, .slice T tl tc, .slice A l c]) rfl rfl (by kernel_rfl) (by kernel_rfl) (by kernel_rfl) (fun _ _ _ h => h) (.inl ⟨by rfl, fun w7 hS7 => (by (try dsimp only at hS7); obtain ⟨s0, s1, s2, s3, s4, s5, s6⟩ := hS7; go_simp)⟩) (by assumption) ?_; try simp only [Act.put, List.setIfInBounds_toArray, List.set_cons_zero, List.set_cons_succ]
  refine wpAnyH_ready (rs := [1]) (by kernel_rfl) (by simp) (AllReadyH.cons rfl (fun K hK => ?_) AllReadyH.nil)
  go_simp
  go_wp2_with (go_at_call 15; (refine (size_small t _ _ _ HB.out (HV.out.up K0.out.bl)).mono ?_); rintro e w1 ⟨z, hz, rfl, b1⟩; have K1 := hid (K0.out.up b1); clear b1)
  refine hK.out _ _ K1.out.bx.seven (fun hHeld => ?_)
  clear hK K
  refine take_d (some 5) (i := 2) (v := .bool true) rfl rfl (by kernel_rfl) (by kernel_rfl) (by kernel_rfl) (fun _ _ _ h => h) (.inl ⟨by rfl, fun w7 hS7 => (by (try dsimp only at hS7); obtain ⟨s0, s1, s2, s3, s4, s5, s6⟩ := hS7; go_simp)⟩) (by assumption) ?_; try simp only [Act.put, List.setIfInBounds_toArray, List.set_cons_zero, List.set_cons_succ]
  refine take_d (some 6) (i := 3) (v := .bool true) rfl rfl (by kernel_rfl) (by kernel_rfl) (by kernel_rfl) (fun _ _ _ h => h) (.inl ⟨by rfl, fun w7 hS7 => (by (try dsimp only at hS7); obtain ⟨s0, s1, s2, s3, s4, s5, s6⟩ := hS7; go_simp)⟩) (by assumption) ?_; try simp only [Act.put, List.setIfInBounds_toArray, List.set_cons_zero, List.set_cons_succ]
  refine take_d (some 7) (i := 4) (v := .agg #[.int .i64 k, .int .i64 x, .int .i64 y, .int .i64 m, .bool i, .slice T tl tc, .slice A l c]) rfl rfl (by kernel_rfl) (by kernel_rfl) (by kernel_rfl) (fun _ _ _ h => h) (.inl ⟨by rfl, fun w7 hS7 => (by (try dsimp only at hS7); obtain ⟨s0, s1, s2, s3, s4, s5, s6⟩ := hS7; go_simp)⟩) (by assumption) ?_; try simp only [Act.put, List.setIfInBounds_toArray, List.set_cons_zero, List.set_cons_succ]
  refine wpAnyH_ready (rs := [5]) (by kernel_rfl) (by simp) (AllReadyH.cons rfl (fun K hK => ?_) AllReadyH.nil)
  go_simp
  go_wp2_with (go_at_call 26; (refine (deep_low _ t (Nat.le_refl _) 1024 (by omega) HG.out.1 _ _ _ (HV.out.up K1.out.bl)).mono ?_); rintro e w2 ⟨rfl, b2⟩; have K2 := hid (K1.out.up b2); clear b2)
  refine hK.out _ _ K2.out.bx.seven (fun hHeld => ?_)
  clear hK K
  refine take_d (some 9) (i := 6) (v := .bool true) rfl rfl (by kernel_rfl) (by kernel_rfl) (by kernel_rfl) (fun _ _ _ h => h) (.inl ⟨by rfl, fun w7 hS7 => (by (try dsimp only at hS7); obtain ⟨s0, s1, s2, s3, s4, s5, s6⟩ := hS7; go_simp)⟩) (by assumption) ?_; try simp only [Act.put, List.setIfInBounds_toArray, List.set_cons_zero, List.set_cons_succ]
  refine take_d (some 10) (i := 7) (v := .bool true) rfl rfl (by kernel_rfl) (by kernel_rfl) (by kernel_rfl) (fun _ _ _ h => h) (.inl ⟨by rfl, fun w7 hS7 => (by (try dsimp only at hS7); obtain ⟨s0, s1, s2, s3, s4, s5, s6⟩ := hS7; go_simp)⟩) (by assumption) ?_; try simp only [Act.put, List.setIfInBounds_toArray, List.set_cons_zero, List.set_cons_succ]
  refine take_d (some 11) (i := 8) (v := .bool true) rfl rfl (by kernel_rfl) (by kernel_rfl) (by kernel_rfl) (fun _ _ _ h => h) (.inl ⟨by rfl, fun w7 hS7 => (by (try dsimp only at hS7); obtain ⟨s0, s1, s2, s3, s4, s5, s6⟩ := hS7; go_simp)⟩) (by assumption) ?_; try simp only [Act.put, List.setIfInBounds_toArray, List.set_cons_zero, List.set_cons_succ]
  refine take_d (some 12) (i := 9) (v := .agg #[.int .i64 k, .int .i64 x, .int .i64 y, .int .i64 m, .bool i, .slice T tl tc, .slice A l c]) rfl rfl (by kernel_rfl) (by kernel_rfl) (by kernel_rfl) (fun _ _ _ h => h) (.inl ⟨by rfl, fun w7 hS7 => (by (try dsimp only at hS7); obtain ⟨s0, s1, s2, s3, s4, s5, s6⟩ := hS7; go_simp)⟩) (by assumption) ?_; try simp only [Act.put, List.setIfInBounds_toArray, List.set_cons_zero, List.set_cons_succ]
  refine wpAnyH_ready (rs := [10]) (by kernel_rfl) (by simp) (AllReadyH.cons rfl (fun K hK => ?_) AllReadyH.nil)
  go_simp
  have K2' := hid (K2.out.up (al1 w2 (.cells M 3)))
  refine hK.out _ _ K2'.out.bx.seven (fun hHeld => ?_)
  clear hK K
  refine wpAnyH_ready (rs := [11]) (by kernel_rfl) (by simp) (AllReadyH.cons rfl (fun K hK => ?_) AllReadyH.nil)
  go_simp
  go_wp2_with (go_at_call 27; (refine (shapes_yes _ t (Nat.le_refl _) _ (fun b => b < w.heap.size) w2.heap.size N (fun _ => 0) f9 _ HN.out.1 (HV.out.up (K2.out.bl.alloc K2.out.bl.size _)) (fun b hb' => (by have := K2.out.bl.size; omega)) (brow_made HN.out.1 HN.out.2) z01_none HB.out HG.out.2.1).mono ?_); rintro e w3 ⟨rfl, _, hg3⟩; have K3 := hid (K2.out.rowed hg3); clear hg3)
  refine hK.out _ _ K3.out.bx.seven (fun hHeld => ?_)
  clear hK K
  refine take_d (some 15) (i := 12) (v := .bool true) rfl rfl (by kernel_rfl) (by kernel_rfl) (by kernel_rfl) (fun _ _ _ h => h) (.inl ⟨by rfl, fun w7 hS7 => (by (try dsimp only at hS7); obtain ⟨s0, s1, s2, s3, s4, s5, s6⟩ := hS7; go_simp)⟩) (by assumption) ?_; try simp only [Act.put, List.setIfInBounds_toArray, List.set_cons_zero, List.set_cons_succ]
  refine take_d (some 16) (i := 13) (v := .bool true) rfl rfl (by kernel_rfl) (by kernel_rfl) (by kernel_rfl) (fun _ _ _ h => h) (.inl ⟨by rfl, fun w7 hS7 => (by (try dsimp only at hS7); obtain ⟨s0, s1, s2, s3, s4, s5, s6⟩ := hS7; go_simp)⟩) (by assumption) ?_; try simp only [Act.put, List.setIfInBounds_toArray, List.set_cons_zero, List.set_cons_succ]
  refine take_d (some 17) (i := 14) (v := .agg #[.int .i64 k, .int .i64 x, .int .i64 y, .int .i64 m, .bool i, .slice T tl tc, .slice A l c]) rfl rfl (by kernel_rfl) (by kernel_rfl) (by kernel_rfl) (fun _ _ _ h => h) (.inl ⟨by rfl, fun w7 hS7 => (by (try dsimp only at hS7); obtain ⟨s0, s1, s2, s3, s4, s5, s6⟩ := hS7; go_simp)⟩) (by assumption) ?_; try simp only [Act.put, List.setIfInBounds_toArray, List.set_cons_zero, List.set_cons_succ]
  refine wpAnyH_ready (rs := [15]) (by kernel_rfl) (by simp) (AllReadyH.cons rfl (fun K hK => ?_) AllReadyH.nil)
  go_simp
  go_wp2_with (go_at_call 28; (refine (Closed_yes t _ _ _ (HV.out.up K3.out.bl) (by have := HB.out; omega) HG.out.2.2).mono ?_); rintro e w4 ⟨rfl, b4⟩; have K4 := hid (K3.out.up b4); clear b4)
  refine hK.out _ _ K4.out.bx.seven (fun hHeld => ?_)
  clear hK K
  refine take_d (some 19) (i := 16) (v := .bool true) rfl rfl (by kernel_rfl) (by kernel_rfl) (by kernel_rfl) (fun _ _ _ h => h) (.inl ⟨by rfl, fun w7 hS7 => (by (try dsimp only at hS7); obtain ⟨s0, s1, s2, s3, s4, s5, s6⟩ := hS7; go_simp)⟩) (by assumption) ?_; try simp only [Act.put, List.setIfInBounds_toArray, List.set_cons_zero, List.set_cons_succ]
  refine take_d (some 2) (i := 17) (v := .bool true) rfl rfl (by kernel_rfl) (by kernel_rfl) (by kernel_rfl) (fun _ _ _ h => h) (.inl ⟨by rfl, fun w7 hS7 => (by (try dsimp only at hS7); obtain ⟨s0, s1, s2, s3, s4, s5, s6⟩ := hS7; go_simp)⟩) (by assumption) ?_; try simp only [Act.put, List.setIfInBounds_toArray, List.set_cons_zero, List.set_cons_succ]
  refine wpAnyH_done (by kernel_rfl) ?_ _
  go_wp2
  go_ret
  exact ⟨rfl, K4.out.bl⟩
/-- It says whether it is a core expression. -/
theorem ref20_GoodX (t : Co) (v : Value) (S : Nat → Prop) (w : World) (hv : CAt w S t v) (hb : nodes t ≤ 65536) : Calls Try.prog 14 #[v] w (SayP (goodB t) w) := by
  cases hg : goodB t with
  | true => exact good_yes t v S w hv hg
  | false =>
    refine (ref20_Good t v S w hv hb).mono ?_
    rintro e w1 ⟨⟨b, rfl, h⟩, hb⟩
    cases b with
    | false => exact ⟨rfl, hb⟩
    | true => rw [h rfl] at hg; cases hg
end Go.Proofs.Ytohdaclbgedeiaa
/-
  VALUES OF athanorref21 IN MEMORY; ITS RUNNER; number, stops, AND eval WHERE ALL IS AT ITS END.
-/
namespace Go.Proofs.Ytohdaclbgedeiaa
set_option linter.all false
open Go.ChangeShapes Go.WideShapes Go.ChangeAt Go.RowKit
open Ev (Co Va En Out nodes nodesL formB)
mutual
/-- Every node has what its kind has. -/
def FoT : Co → Prop
  | .mk k x y n i ts us => formB k x y n i ts us.length = true ∧ FoL us
def FoL : List Co → Prop
  | [] => True
  | c :: cs => FoT c ∧ FoL cs
end
theorem FoL.at_ : ∀ {us : List Co}, FoL us → ∀ u ∈ us, FoT u
  | [], _, u, hu => by cases hu
  | c :: cs, h, u, hu => by
    rw [FoL] at h
    rcases List.mem_cons.1 hu with rfl | hu
    · exact h.1
    · exact FoL.at_ h.2 u hu
mutual
/-- A value in memory, its blocks in S. -/
def RAt (w : World) (S : Nat → Prop) : Va → Value → Prop
  | .num n, v => (∃ p, v = .pointer (some ⟨p, 0, none⟩) ∧ S p ∧ Blk w p 60 #[.bool true, .int .i64 n, .slice none 0 0, .int .i64 0, .int .i64 0, .pointer none, .pointer none]) ∧ (Lit.int .i64 n).wf = true
  | .con t us, v => (∃ p A c, v = .pointer (some ⟨p, 0, none⟩) ∧ S p ∧ Blk w p 60 #[.bool false, .int .i64 t, .slice A us.length c, .int .i64 0, .int .i64 0, .pointer none, .pointer none] ∧ RRow w S us A 0) ∧ (Lit.int .i64 t).wf = true ∧ us.length ≤ 17592186044416
  | .clo x self b e, v => (∃ p bp ep, v = .pointer (some ⟨p, 0, none⟩) ∧ S p ∧ Blk w p 60 #[.bool false, .int .i64 0, .slice none 0 0, .int .i64 x, .int .i64 self, .pointer (some bp), .pointer ep] ∧ CPt w S bp b ∧ REAt w S e ep) ∧ FoT b
def RRow (w : World) (S : Nat → Prop) : List Va → Option Addr → Nat → Prop
  | [], _, _ => True
  | u :: us, A, j => (∃ ad v, A = some ad ∧ S ad.block ∧ w.cell? (ad.add j) = some v ∧ RAt w S u v) ∧ RRow w S us A (j + 1)
/-- What is bound, in memory. -/
def REAt (w : World) (S : Nat → Prop) : En → Option Addr → Prop
  | .nil, ep => ep = none
  | .bind x v e, ep => ∃ q val ep2, ep = some ⟨q, 0, none⟩ ∧ S q ∧ Blk w q 73 #[.int .i64 x, val, .pointer ep2] ∧ RAt w S v val ∧ REAt w S e ep2
end
mutual
theorem RAt.keep {w w' : World} {S T : Nat → Prop} (h : ∀ k, S k → k < w.heap.size → w'.heap[k]? = w.heap[k]? ∧ T k) : ∀ (u : Va) (v : Value), RAt w S u v → RAt w' T u v
  | .num n, v, hv => by
    rw [RAt] at hv ⊢
    obtain ⟨⟨p, h1, h2, h3⟩, h5⟩ := hv
    exact ⟨⟨p, h1, (h p h2 h3.lt).2, blk_keep h3 (fun hl => (h p h2 hl).1)⟩, h5⟩
  | .con t us, v, hv => by
    rw [RAt] at hv ⊢
    obtain ⟨⟨p, A, c, h1, h2, h3, h4⟩, h5⟩ := hv
    exact ⟨⟨p, A, c, h1, (h p h2 h3.lt).2, blk_keep h3 (fun hl => (h p h2 hl).1), RRow.keep h us A 0 h4⟩, h5⟩
  | .clo x self b e, v, hv => by
    rw [RAt] at hv ⊢
    obtain ⟨⟨p, bp, ep, h1, h2, h3, h4, h5⟩, h6⟩ := hv
    exact ⟨⟨p, bp, ep, h1, (h p h2 h3.lt).2, blk_keep h3 (fun hl => (h p h2 hl).1), h4.keep h, REAt.keep h e _ h5⟩, h6⟩
theorem RRow.keep {w w' : World} {S T : Nat → Prop} (h : ∀ k, S k → k < w.heap.size → w'.heap[k]? = w.heap[k]? ∧ T k) : ∀ (us : List Va) (A : Option Addr) (j : Nat), RRow w S us A j → RRow w' T us A j
  | [], _, _, _ => by rw [RRow]; trivial
  | u :: us, A, j, hv => by
    rw [RRow] at hv ⊢
    obtain ⟨⟨ad, v, h1, h2, h3, h4⟩, h5⟩ := hv
    have eb := add_block ad j
    have hlt : ad.block < w.heap.size := by have := cell_lt h3; omega
    exact ⟨⟨ad, v, h1, (h _ h2 hlt).2, cell_of (h _ h2 hlt).1 eb h3, RAt.keep h u v h4⟩, RRow.keep h us A (j + 1) h5⟩
theorem REAt.keep {w w' : World} {S T : Nat → Prop} (h : ∀ k, S k → k < w.heap.size → w'.heap[k]? = w.heap[k]? ∧ T k) : ∀ (e : En) (ep : Option Addr), REAt w S e ep → REAt w' T e ep
  | .nil, _, hv => by rw [REAt] at hv ⊢; exact hv
  | .bind x v e, ep, hv => by
    rw [REAt] at hv ⊢
    obtain ⟨q, val, ep2, h1, h2, h3, h4, h5⟩ := hv
    exact ⟨q, val, ep2, h1, (h q h2 h3.lt).2, blk_keep h3 (fun hl => (h q h2 hl).1), RAt.keep h v val h4, REAt.keep h e ep2 h5⟩
end
theorem RAt.up {w w' : World} {S : Nat → Prop} {u : Va} {v : Value} (h : RAt w S u v) (hb : Below w.heap.size w w') : RAt w' S u v := RAt.keep (fun k hk hl => ⟨hb.block k hl, hk⟩) u v h
theorem REAt.up {w w' : World} {S : Nat → Prop} {e : En} {ep : Option Addr} (h : REAt w S e ep) (hb : Below w.heap.size w w') : REAt w' S e ep := REAt.keep (fun k hk hl => ⟨hb.block k hl, hk⟩) e ep h
theorem RRow.get {w : World} {S : Nat → Prop} : ∀ {us : List Va} {A : Option Addr} {i k : Nat} (_ : RRow w S us A i) (hk : k < us.length), ∃ ad v, A = some ad ∧ S ad.block ∧ w.cell? (ad.add (i + k)) = some v ∧ RAt w S us[k] v
  | [], _, _, _, _, hk => by simp at hk
  | u :: us, A, i, 0, h, _ => by rw [RRow] at h; exact h.1
  | u :: us, A, i, k + 1, h, hk => by
    rw [RRow] at h
    have := RRow.get (i := i + 1) (k := k) h.2 (by simpa using hk)
    rw [show i + 1 + k = i + (k + 1) from by omega] at this
    simpa using this
theorem RRow.mk {w : World} {S : Nat → Prop} {ad : Addr} (hS : S ad.block) : ∀ (us : List Va) (i : Nat) (_ : ∀ k, (hk : k < us.length) → ∃ v, w.cell? (ad.add (i + k)) = some v ∧ RAt w S us[k] v), RRow w S us (some ad) i
  | [], _, _ => by rw [RRow]; trivial
  | u :: us, i, h => by
    rw [RRow]
    refine ⟨?_, RRow.mk hS us (i + 1) (fun k hk => ?_)⟩
    · obtain ⟨v, h1⟩ := h 0 (by simp)
      exact ⟨ad, v, rfl, hS, h1⟩
    · have := h (k + 1) (by simpa using hk)
      rw [show i + (k + 1) = i + 1 + k from by omega] at this
      simpa using this
/-- Every value is a pointer. -/
theorem RAt.ptr {w : World} {S : Nat → Prop} {u : Va} {v : Value} (h : RAt w S u v) : ∃ p, v = .pointer (some ⟨p, 0, none⟩) ∧ S p ∧ p < w.heap.size := by
  cases u with
  | num n => rw [RAt] at h; obtain ⟨⟨p, h1, h2, h3⟩, _⟩ := h; exact ⟨p, h1, h2, h3.lt⟩
  | con t us => rw [RAt] at h; obtain ⟨⟨p, A, c, h1, h2, h3, _⟩, _⟩ := h; exact ⟨p, h1, h2, h3.lt⟩
  | clo x self b e => rw [RAt] at h; obtain ⟨⟨p, bp, ep, h1, h2, h3, _⟩, _⟩ := h; exact ⟨p, h1, h2, h3.lt⟩
/-- The runner: its steps, its fuel, its end, what was written. -/
structure RSt (w : World) (M F s : Nat) (en : Int) (ws : List Int) (wv : Value) : Prop where
  blk : Blk w M 54 #[.int .i64 s, .int .i64 F, .int .i64 en, wv]
  own : OwnI w (M + 1) wv ws
  hF : F ≤ 65536
  hs : s ≤ F
  hw : ws.length ≤ 4096
theorem RSt.below {w w' : World} {M F s : Nat} {en : Int} {ws : List Int} {wv : Value} (h : RSt w M F s en ws wv) (b : Below w.heap.size w w') : RSt w' M F s en ws wv :=
  ⟨h.blk.below b h.blk.lt, ⟨row_keep h.own.own (fun g hg => b.block g (h.own.own.lt g hg).2), h.own.wf⟩, h.hF, h.hs, h.hw⟩
/-- An end is written. -/
theorem RSt.end_ {w : World} {M F s : Nat} {en : Int} {ws : List Int} {wv : Value} (h : RSt w M F s en ws wv) (k : Int) : RSt (w.setCell ⟨M, 2, none⟩ (.int .i64 k)) M F s k ws wv :=
  ⟨h.blk.set_ 2 _, h.own.set_ (a := ⟨M, 2, none⟩) (Nat.lt_succ_self M) _, h.hF, h.hs, h.hw⟩
theorem set_step (M i : Nat) (wv u : Value) (w : World) : MStep M wv wv w (w.setCell ⟨M, i, none⟩ u) :=
  ⟨rfl, rfl, rfl, by simp [World.setCell], fun k _ hM _ => Below.heap_setCell w ⟨M, i, none⟩ u k hM, fun _ h => .inl h⟩
/-- How an evaluation ends. -/
def endR : Out Va → Int
  | .ok _ => 0
  | .stop k => k
def OutR (w : World) (S : Nat → Prop) : Out Va → Ending → Prop
  | .ok u, e => ∃ v, e = .returned v ∧ RAt w S u v
  | .stop _, e => ∃ p, e = .returned (.pointer p)
def EvQ (T : Nat → Prop) (o : Out Va) (F s : Nat) (ws : List Int) (M : Nat) (wv : Value) (w : World) (e : Ending) (w' : World) : Prop := ∃ wv', RSt w' M F s (endR o) ws wv' ∧ MStep M wv wv' w w' ∧ OutR w' (SfT M wv' (Now T w)) o e
/-- A core expression is evaluated. -/
def EvR (F g : Nat) : Prop := ∀ (c : Co) (e : En) (s : Nat) (ws : List Int) (o : Out Va) (s' : Nat) (ws' : List Int), Ev.ev F g c e s ws = some (o, s', ws') → FoT c → ∀ (T : Nat → Prop) (w : World) (M : Nat) (cp : Addr) (ep : Option Addr) (wv : Value),
  RSt w M F s 0 ws wv → CPt w (SfT M wv T) cp c → REAt w (SfT M wv T) e ep → Calls Try.prog 32 #[.pointer (some ⟨M, 0, none⟩), .pointer (some cp), .pointer ep] w (EvQ T o F s' ws' M wv w)
/-- A number. -/
theorem r21_number (n : Int) (w : World) : Calls Try.prog 30 #[.int .i64 n] w fun e w' => e = .returned (.pointer (some ⟨w.heap.size, 0, none⟩)) ∧ w' = w.alloc (.cells #[.bool true, .int .i64 n, .slice none 0 0, .int .i64 0, .int .i64 0, .pointer none, .pointer none] 60) := by
  go_enter Try.func30, Try.ntmps30
  go_wp2
  go_ret
  exact ⟨rfl, rfl⟩

set_option maxHeartbeats 4000000 in
set_option maxRecDepth 100000 in
/-- The end is told, if there was none. -/
theorem r21_stops (T : Nat → Prop) (M F s : Nat) (ws : List Int) (wv : Value) (k : Int) (w : World) (h : RSt w M F s 0 ws wv) : Calls Try.prog 40 #[.pointer (some ⟨M, 0, none⟩), .int .i64 k] w (EvQ T (.stop k) F s ws M wv w) := by
  obtain ⟨x0, x1, x2, x3⟩ := h.blk.four
  have f2 := h.blk.frozen 2
  have hl := h.blk.lt
  have H := hid h
  clear h
  go_enter Try.func40, Try.ntmps40
  go_wp2_with (go_at_call 30; (refine (r21_number _ _).mono ?_); rintro e w1 ⟨rfl, rfl⟩)
  go_ret
  exact ⟨wv, (H.out.end_ k).below (al1 _ _), (set_step M 2 wv _ w).below (al1 _ _), _, rfl⟩
set_option maxHeartbeats 4000000 in
set_option maxRecDepth 100000 in
/-- Where all is at its end nothing is evaluated. -/
theorem r21_idle (M F s : Nat) (en : Int) (ws : List Int) (wv : Value) (cp ep : Value) (w : World) (h : RSt w M F s en ws wv) (hn : en ≠ 0) : Calls Try.prog 32 #[.pointer (some ⟨M, 0, none⟩), cp, ep] w fun e w' => (∃ p, e = .returned (.pointer p)) ∧ Below w.heap.size w w' := by
  obtain ⟨x0, x1, x2, x3⟩ := h.blk.four
  have hn2 : (en != 0) = true := by simpa using hn
  have hl := h.blk.lt
  clear h hn
  go_enter Try.func32, Try.ntmps32
  go_wp2_with (go_at_call 30; (refine (r21_number _ _).mono ?_); rintro e w1 ⟨rfl, rfl⟩)
  go_ret
  exact ⟨⟨_, rfl⟩, al1 _ _⟩
end Go.Proofs.Ytohdaclbgedeiaa
/-
  THE WALK OF athanorref21's eval: A VARIABLE, AN INTEGER, A FUNCTION.
-/
namespace Go.Proofs.Ytohdaclbgedeiaa
set_option linter.all false
open Go.ChangeShapes Go.WideShapes Go.ChangeAt Go.RowKit
open Ev (Co Va En Out)
theorem evq_out {F s : Nat} {ws : List Int} {M : Nat} {wv : Value} {w w' : World} {u : Va} {v : Value} (hm : RSt w M F s 0 ws wv) (hb : Below w.heap.size w w') {T : Nat → Prop} (hv : RAt w' (SfT M wv (Now T w)) u v) : EvQ T (.ok u) F s ws M wv w (.returned v) w' :=
  ⟨wv, hm.below hb, (MStep.refl M wv w).below hb, v, rfl, hv⟩
theorem RSt.sf {w : World} {M F s : Nat} {en : Int} {ws : List Int} {wv : Value} (h : RSt w M F s en ws wv) {g : Nat} (hg : w.heap.size ≤ g) : Sf M wv g := ⟨fun e => by have := h.blk.lt; omega, fun e => by have := (h.own.own.lt g e).2; omega⟩
/-- A number that was just made. -/
theorem rat_num {w : World} {S : Nat → Prop} {n : Int} (hS : S w.heap.size) (hn : (Lit.int .i64 n).wf = true) : RAt (w.alloc (.cells #[.bool true, .int .i64 n, .slice none 0 0, .int .i64 0, .int .i64 0, .pointer none, .pointer none] 60)) S (.num n) (.pointer (some ⟨w.heap.size, 0, none⟩)) := by
  rw [RAt]; exact ⟨⟨_, rfl, hS, Blk.new _ _ _⟩, hn⟩
set_option maxHeartbeats 4000000 in
set_option maxRecDepth 100000 in
theorem r_int (P : Nat → Prop) (w : World) (M F s : Nat) (ws : List Int) (wv : Value) (cp : Addr) (x y n : Int) (i : Bool) (ts : List Int) (us : List Co) (ep : Option Addr) (hm : RSt w M F s 0 ws wv) (hc : CPt w (SfT M wv P) cp (.mk 2 x y n i ts us)) :
    Calls Try.prog 32 #[.pointer (some ⟨M, 0, none⟩), .pointer (some cp), .pointer ep] w (EvQ P (.ok (.num n)) F s ws M wv w) := by
  obtain ⟨x0, x1, x2, x3⟩ := hm.blk.four
  have hlM := hm.blk.lt
  obtain ⟨T, tc, A, c, ⟨z0, z1, z2, z3, z4, z5, z6⟩, hI, hsz, hrow, hwf⟩ := hc.cells
  have hlc := cell_lt z0
  have HM := hid (And.intro hm hwf)
  clear hm hc hI hsz hrow hwf
  go_enter Try.func32, Try.ntmps32
  go_wp2_with (go_at_call 30; (refine (r21_number _ _).mono ?_); rintro e w1 ⟨rfl, rfl⟩)
  go_ret
  exact evq_out HM.out.1 (al1 _ _) (rat_num ⟨HM.out.1.sf (Nat.le_refl _), .inr (Nat.le_refl _)⟩ HM.out.2.2.2.2)
set_option maxHeartbeats 4000000 in
set_option maxRecDepth 100000 in
theorem r_lam (P : Nat → Prop) (w : World) (M F s : Nat) (ws : List Int) (wv : Value) (cp : Addr) (x y n : Int) (i : Bool) (ts : List Int) (b : Co) (e : En) (ep : Option Addr) (hm : RSt w M F s 0 ws wv) (hc : CPt w (SfT M wv P) cp (.mk 3 x y n i ts [b])) (he : REAt w (SfT M wv P) e ep) (hf : FoT b) :
    Calls Try.prog 32 #[.pointer (some ⟨M, 0, none⟩), .pointer (some cp), .pointer ep] w (EvQ P (.ok (.clo x 0 b e)) F s ws M wv w) := by
  obtain ⟨x0, x1, x2, x3⟩ := hm.blk.four
  have hlM := hm.blk.lt
  obtain ⟨T, tc, A, c, ⟨z0, z1, z2, z3, z4, z5, z6⟩, hI, hsz, hrow, hwf⟩ := hc.cells
  have hlc := cell_lt z0
  obtain ⟨ad, rfl, hpt⟩ := hrow.pt (j := 0) (by simp)
  have e0 : (ad.add (0 * 7)) = ad := by unfold Addr.add; simp
  rw [e0] at hpt
  have HM := hid (And.intro hm (And.intro hpt (And.intro he hf)))
  have z6' : w.cell? ⟨cp.block, cp.off + 6, none⟩ = some (.slice (some ad) 1 c) := z6
  clear hm hc hI hsz hrow hwf hpt he z6 hf
  go_enter Try.func32, Try.ntmps32
  go_wp2
  go_region
  go_wp2
  go_ret
  have hb : Below w.heap.size w (w.alloc (.cells #[.bool false, .int .i64 0, .slice none 0 0, .int .i64 x, .int .i64 0, .pointer (some ad), .pointer ep] 60)).drew := Below.drew (al1 _ _)
  exact evq_out HM.out.1 hb (by rw [RAt]; exact ⟨⟨w.heap.size, ad, ep, rfl, ⟨HM.out.1.sf (Nat.le_refl _), .inr (Nat.le_refl _)⟩, Blk.drew (Blk.new _ _ _), HM.out.2.1.keep (up_now hb), REAt.keep (up_now hb) _ _ HM.out.2.2.1⟩, HM.out.2.2.2⟩)
set_option maxHeartbeats 4000000 in
set_option maxRecDepth 100000 in
theorem r_var (P : Nat → Prop) (w : World) (M F s : Nat) (ws : List Int) (wv : Value) (cp : Addr) (x y n : Int) (i : Bool) (ts : List Int) (us : List Co) (e : En) (ep : Option Addr) (u : Va) (hm : RSt w M F s 0 ws wv) (hc : CPt w (SfT M wv P) cp (.mk 1 x y n i ts us)) (he : REAt w (SfT M wv P) e ep) (hu : e.find x = some u) :
    Calls Try.prog 32 #[.pointer (some ⟨M, 0, none⟩), .pointer (some cp), .pointer ep] w (EvQ P (.ok u) F s ws M wv w) := by
  obtain ⟨x0, x1, x2, x3⟩ := hm.blk.four
  have hlM := hm.blk.lt
  obtain ⟨T, tc, A, c, ⟨z0, z1, z2, z3, z4, z5, z6⟩, hI, hsz, hrow, hwf⟩ := hc.cells
  have hlc := cell_lt z0
  have HM := hid (And.intro hm (And.intro he hu))
  have HZ := hid (And.intro z1 hlc)
  clear hm hc hI hsz hrow hwf he hu
  go_enter Try.func32, Try.ntmps32
  go_wp2
  go_loopg [7] (lenE e) (fun g z wr => ∃ (e2 : En) (ep2 : Option Addr), lenE e2 ≤ g ∧ z = .pointer ep2 ∧ Hid (REAt w (SfT M wv P) e2 ep2 ∧ e2.find x = some u) ∧ Hid (Below w.heap.size w wr))
  case atStart => exact ⟨e, ep, Nat.le_refl _, rfl, hid HM.out.2, hid (Below.refl _ _)⟩
  case round =>
    obtain ⟨e2, ep2, hg, rfl, hE, hb⟩ := hrel
    obtain ⟨he2, hf⟩ := hE.out
    cases e2 with
    | nil => rw [En.find] at hf; cases hf
    | bind y2 v2 e3 =>
      rw [REAt] at he2
      obtain ⟨q, val, ep3, rfl, hSq, hq, hv, he3⟩ := he2
      rw [En.find] at hf
      obtain ⟨pv, rfl, _, _⟩ := hv.ptr
      obtain ⟨y0, y1, y3⟩ := (hq.below hb.out hq.lt).three
      have z1' : wr.cell? ⟨cp.block, cp.off + 1, none⟩ = some (.int .i64 x) := cell_of (hb.out.block _ HZ.out.2) (p := ⟨cp.block, cp.off + 1, none⟩) rfl HZ.out.1
      have HV := hid (And.intro hv he3)
      have HG := hid hg
      clear hv he3 hg hq hSq hE
      by_cases h : y2 = x
      · rw [if_pos h] at hf
        injection hf with hf
        have HF := hid hf
        subst h
        clear hf
        go_wp2
        go_quiet (fail)
        go_wp2
        go_ret
        have hB : Below w.heap.size w (wr.drewN nq) := hb.out.trans ((drewN_below _ _).mono hb.out.size)
        exact evq_out HM.out.1 hB (by rw [← HF.out]; exact RAt.keep (up_now hB) _ _ HV.out.1)
      · rw [if_neg h] at hf
        have HF := hid hf
        have hne : (y2 == x) = false := by simpa using h
        clear hf h
        go_wp2
        go_quiet (fail)
        go_wp2
        go_roundg (lenE e3)
        case rel => exact ⟨e3, ep3, Nat.le_refl _, rfl, hid ⟨HV.out.2, HF.out⟩, hid (hb.out.trans ((drewN_below _ _).mono hb.out.size))⟩
        case measure => have := HG.out; rw [lenE] at this; omega
end Go.Proofs.Ytohdaclbgedeiaa
/-
  THE WALK OF athanorref21's apply.
-/
namespace Go.Proofs.Ytohdaclbgedeiaa
set_option linter.all false
open Go.ChangeShapes Go.WideShapes Go.ChangeAt Go.RowKit
open Ev (Co Va En Out around)
theorem now_keepR {M : Nat} {wv wv1 : Value} {w w1 : World} {T : Nat → Prop} (h : MStep M wv wv1 w w1) : ∀ k, SfT M wv T k → k < w.heap.size → w1.heap[k]? = w.heap[k]? ∧ SfT M wv1 (Now T w) k := fun k hk hl => ⟨(h.keepT k hk hl).1, (h.keepT k hk hl).2.1, .inl hk.2⟩
theorem now_hop {M : Nat} {wv wv1 wv2 : Value} {w w1 : World} {T : Nat → Prop} (h : MStep M wv wv1 w w1) : ∀ k, SfT M wv2 (Now (Now T w) w1) k → SfT M wv2 (Now T w) k := fun k hk => ⟨hk.1, by
  rcases hk.2 with h1 | h1
  · exact h1
  · exact .inr (Nat.le_trans h.size h1)⟩
theorem EvQ.hop {T : Nat → Prop} {o : Out Va} {F s : Nat} {ws : List Int} {M : Nat} {wv wv1 : Value} {w W w' : World} {e : Ending} (h : EvQ (Now T w) o F s ws M wv1 W e w') (k : MStep M wv wv1 w W) : EvQ T o F s ws M wv w e w' := by
  obtain ⟨wv', h1, h2, h3⟩ := h
  refine ⟨wv', h1, k.trans h2, ?_⟩
  cases o with
  | stop n => exact h3
  | ok u =>
    obtain ⟨v, rfl, hv⟩ := h3
    exact ⟨v, rfl, RAt.keep (fun b hb hl => ⟨rfl, now_hop k b hb⟩) u v hv⟩
theorem EvQ.ptr {T : Nat → Prop} {o : Out Va} {F s : Nat} {ws : List Int} {M : Nat} {wv : Value} {w w' : World} {e : Ending} (h : EvQ T o F s ws M wv w e w') : ∃ p, e = .returned (.pointer p) := by
  obtain ⟨wv', h1, h2, h3⟩ := h
  cases o with
  | stop n => exact h3
  | ok u =>
    obtain ⟨v, rfl, hv⟩ := h3
    obtain ⟨p, rfl, _⟩ := hv.ptr
    exact ⟨_, rfl⟩
/-- A step more. -/
theorem RSt.step {w : World} {M F s : Nat} {ws : List Int} {wv : Value} (h : RSt w M F s 0 ws wv) (hs : s < F) : RSt (w.setCell ⟨M, 0, none⟩ (.int .i64 ((s : Int) + 1))) M F (s + 1) 0 ws wv :=
  ⟨h.blk.set_ 0 _, h.own.set_ (a := ⟨M, 0, none⟩) (Nat.lt_succ_self M) _, h.hF, hs, h.hw⟩
theorem RAt.other {w : World} {S : Nat → Prop} {u : Va} {v : Value} (h : RAt w S u v) (hn : ∀ x s b e, u ≠ .clo x s b e) : ∃ p b n A l c, v = .pointer (some ⟨p, 0, none⟩) ∧ S p ∧ Blk w p 60 #[.bool b, .int .i64 n, .slice A l c, .int .i64 0, .int .i64 0, .pointer none, .pointer none] := by
  cases u with
  | num n => rw [RAt] at h; obtain ⟨⟨p, h1, h2, h3⟩, _⟩ := h; exact ⟨p, true, n, none, 0, 0, h1, h2, h3⟩
  | con t us => rw [RAt] at h; obtain ⟨⟨p, A, c, h1, h2, h3, _⟩, _⟩ := h; exact ⟨p, false, t, A, _, c, h1, h2, h3⟩
  | clo x self b e => exact absurd rfl (hn x self b e)
set_option maxHeartbeats 4000000 in
set_option maxRecDepth 100000 in
theorem apply_fuel (T : Nat → Prop) (w : World) (M s : Nat) (ws : List Int) (wv pf px : Value) (hm : RSt w M s s 0 ws wv) : Calls Try.prog 33 #[.pointer (some ⟨M, 0, none⟩), pf, px] w (EvQ T (.stop 3) s s ws M wv w) := by
  obtain ⟨x0, x1, x2, x3⟩ := hm.blk.four
  have hlM := hm.blk.lt
  have HM := hid hm
  clear hm
  go_enter Try.func33, Try.ntmps33
  go_wp2
  go_quiet (fail)
  go_wp2_with (go_at_call 40; (refine (r21_stops (Now T w) M s s ws wv 3 _ (HM.out.below (drewN_below _ _))).mono ?_); rintro e w1 hE; obtain ⟨pp, rfl⟩ := hE.ptr; have R := hid hE; clear hE)
  go_ret
  exact R.out.hop ((MStep.refl M wv w).below (drewN_below _ _))
set_option maxHeartbeats 4000000 in
set_option maxRecDepth 100000 in
theorem apply_bad (T : Nat → Prop) (w : World) (M F s : Nat) (ws : List Int) (wv : Value) (p : Nat) (px : Value) (b : Bool) (n : Int) (A : Option Addr) (l c : Nat) (hs : s < F) (hm : RSt w M F s 0 ws wv) (hp : Blk w p 60 #[.bool b, .int .i64 n, .slice A l c, .int .i64 0, .int .i64 0, .pointer none, .pointer none]) (hne : p ≠ M) : Calls Try.prog 33 #[.pointer (some ⟨M, 0, none⟩), .pointer (some ⟨p, 0, none⟩), px] w (EvQ T (.stop (-1)) F (s + 1) ws M wv w) := by
  obtain ⟨x0, x1, x2, x3⟩ := hm.blk.four
  have f0 := hm.blk.frozen 0
  have hlM := hm.blk.lt
  have hF := hm.hF
  have q1 : IntKind.i64.wrap ((s : Int) + 1) = ((s + 1 : Nat) : Int) := by rw [IntWalk.i64_in _ (by omega)]; rfl
  have e1 : ((s : Int) == F) = false := by simp; omega
  obtain ⟨y0, y1, y2, y3, y4, y5, y6⟩ := hp.seven
  have hlp := hp.lt
  have hne2 : M ≠ p := fun h => hne h.symm
  have HM := hid (And.intro hm hs)
  clear hm hp hs
  go_enter Try.func33, Try.ntmps33
  go_wp2
  go_quiet (fail)
  go_wp2_with (go_at_call 40; (refine (r21_stops (Now T w) M F (s + 1) ws wv (-1) _ ((HM.out.1.below (drewN_below w nq)).step HM.out.2)).mono ?_); rintro e w1 hE; obtain ⟨pp, rfl⟩ := hE.ptr; have R := hid hE; clear hE)
  go_ret
  exact R.out.hop (((MStep.refl M wv w).below (drewN_below w nq)).trans (set_step M 0 wv _ _))
theorem fresh_now {w : World} {M F s : Nat} {en : Int} {ws : List Int} {wv : Value} {T : Nat → Prop} (h : RSt w M F s en ws wv) {g : Nat} (hg : w.heap.size ≤ g) : SfT M wv (Now T w) g := ⟨h.sf hg, .inr hg⟩
/-- What is bound around, and the parameter. -/
theorem reat_bind {w : World} {S : Nat → Prop} {q : Nat} {x : Int} {va : Va} {px : Value} {e : En} {ep : Option Addr} (hS : S q) (hb : Blk w q 73 #[.int .i64 x, px, .pointer ep]) (hv : RAt w S va px) (he : REAt w S e ep) : REAt w S (.bind x va e) (some ⟨q, 0, none⟩) := by
  rw [REAt]; exact ⟨q, px, ep, rfl, hS, hb, hv, he⟩
theorem evq_blk {T : Nat → Prop} {o : Out Va} {F s : Nat} {ws : List Int} {M : Nat} {wv : Value} {w w' : World} {e : Ending} {p : Nat} {t : TypeId} {cs : Array Value} (h : EvQ T o F s ws M wv w e w') (hb : Blk w p t cs) (hS : Sf M wv p) : Blk w' p t cs := by
  obtain ⟨wv', h1, h2, h3⟩ := h
  exact blk_keep hb (fun hl => h2.block p hl hS.1 hS.2)
set_option maxHeartbeats 8000000 in
set_option maxRecDepth 100000 in
theorem apply_ok (F g : Nat) (IH : EvR F g) (T : Nat → Prop) (w : World) (M s : Nat) (ws : List Int) (wv : Value) (p : Nat) (px : Option Addr) (x self : Int) (b : Co) (e : En) (va : Va) (o : Out Va) (s' : Nat) (ws' : List Int) (bp : Addr) (ep : Option Addr) (hs : s < F) (hm : RSt w M F s 0 ws wv) (hS : SfT M wv T p) (hp : Blk w p 60 #[.bool false, .int .i64 0, .slice none 0 0, .int .i64 x, .int .i64 self, .pointer (some bp), .pointer ep])
    (hc : CPt w (SfT M wv T) bp b) (he : REAt w (SfT M wv T) e ep) (hf : FoT b) (ha : RAt w (SfT M wv T) va (.pointer px)) (hR : Ev.ev F g b (.bind x va (around x self b e)) (s + 1) ws = some (o, s', ws')) :
    Calls Try.prog 33 #[.pointer (some ⟨M, 0, none⟩), .pointer (some ⟨p, 0, none⟩), .pointer px] w (EvQ T o F s' ws' M wv w) := by
  obtain ⟨x0, x1, x2, x3⟩ := hm.blk.four
  have f0 := hm.blk.frozen 0
  have hlM := hm.blk.lt
  have hF := hm.hF
  have q1 : IntKind.i64.wrap ((s : Int) + 1) = ((s + 1 : Nat) : Int) := by rw [IntWalk.i64_in _ (by omega)]; rfl
  have e1 : ((s : Int) == F) = false := by simp; omega
  obtain ⟨y0, y1, y2, y3, y4, y5, y6⟩ := hp.seven
  have hlp := hp.lt
  have hne : ¬ p = M := hS.1.1
  have hne2 : ¬ M = p := fun h => hne h.symm
  have HM := hid (And.intro hm (And.intro hs (And.intro hS (And.intro hp (And.intro hc (And.intro he (And.intro hf ha)))))))
  have HR := hid hR
  clear hm hs hS hp hc he hf ha hR
  by_cases h0 : 0 < self
  · go_enter Try.func33, Try.ntmps33
    go_wp2
    go_quiet (fail)
    go_wp2
    obtain ⟨W, hW⟩ : ∃ W, (w.drewN nq).setCell ⟨M, 0, none⟩ (.int .i64 ((s : Int) + 1)) = W := ⟨_, rfl⟩
    rw [hW]
    have hs1 : MStep M wv wv w W := by rw [← hW]; exact ((MStep.refl M wv w).below (drewN_below w nq)).trans (set_step M 0 wv _ _)
    have hm1 : RSt W M F (s + 1) 0 ws wv := by rw [← hW]; exact (HM.out.1.below (drewN_below w nq)).step HM.out.2.1
    have hsz := hs1.size
    have heq : W.heap.size = w.heap.size := by rw [← hW]; simp [World.setCell]
    have hpW := blk_keep HM.out.2.2.2.1 (fun hl => hs1.block p hl HM.out.2.2.1.1.1 HM.out.2.2.1.1.2)
    have hclo : RAt w (SfT M wv T) (.clo x self b e) (.pointer (some ⟨p, 0, none⟩)) := by rw [RAt]; exact ⟨⟨p, bp, ep, rfl, HM.out.2.2.1, HM.out.2.2.2.1, HM.out.2.2.2.2.1, HM.out.2.2.2.2.2.1⟩, HM.out.2.2.2.2.2.2.1⟩
    have hbc : Below W.heap.size W ((W.alloc (.cells #[.int .i64 self, .pointer (some ⟨p, 0, none⟩), .pointer ep] 73)).alloc (.cells #[.int .i64 x, .pointer px, .pointer (some ⟨w.heap.size, 0, none⟩)] 73)).drew := (al2 _ _ _).drew
    have kc := now_keepR (T := T) (hs1.below hbc)
    have C := hid (IH b (.bind x va (around x self b e)) (s + 1) ws o s' ws' HR.out HM.out.2.2.2.2.2.2.1 (Now T w) _ M bp (some ⟨W.heap.size + 1, 0, none⟩) wv (hm1.below hbc) (HM.out.2.2.2.2.1.keep kc)
      (reat_bind (fresh_now HM.out.1 (by omega)) (Blk.drew (Blk.new' (by simp) _ _)) (RAt.keep kc _ _ HM.out.2.2.2.2.2.2.2) (by unfold around; rw [if_pos h0]; exact reat_bind (q := w.heap.size) (fresh_now HM.out.1 (Nat.le_refl _)) (by rw [← heq]; exact Blk.drew ((Blk.new W _ _).alloc _)) (RAt.keep kc _ _ hclo) (REAt.keep kc _ _ HM.out.2.2.2.2.2.1))))
    have HPC := hid (hpW.below hbc hpW.lt)
    have HST := hid (hs1.below hbc)
    have u3 := hpW.cell 3
    have u5 := hpW.cell 5
    have hlW := hpW.lt
    clear hW hs1 hm1 hsz hpW hclo hbc kc heq y0 y1 y2 y3 y4 y5 y6 x0 x1 x2 x3
    go_region_held3 (fun w' => w'.cell? ⟨p, 3, none⟩ = some (.int .i64 x) ∧ w'.cell? ⟨p, 5, none⟩ = some (.pointer (some bp))) (first | exact ⟨u3, u5⟩ | go_keep) ((go_at_call 32; (refine C.out.mono ?_); rintro e9 w9 hE; obtain ⟨pp, rfl⟩ := hE.ptr; have R := hid hE; have PB := hid (evq_blk hE HPC.out HM.out.2.2.1.1); clear hE u3 u5; have u3 : w9.cell? ⟨p, 3, none⟩ = some (.int .i64 x) := PB.out.cell 3; have u5 : w9.cell? ⟨p, 5, none⟩ = some (.pointer (some bp)) := PB.out.cell 5))
    go_wp2
    go_ret
    exact R.out.hop HST.out
  · go_enter Try.func33, Try.ntmps33
    go_wp2
    go_quiet (fail)
    go_wp2
    obtain ⟨W, hW⟩ : ∃ W, (w.drewN nq).setCell ⟨M, 0, none⟩ (.int .i64 ((s : Int) + 1)) = W := ⟨_, rfl⟩
    rw [hW]
    have hs1 : MStep M wv wv w W := by rw [← hW]; exact ((MStep.refl M wv w).below (drewN_below w nq)).trans (set_step M 0 wv _ _)
    have hm1 : RSt W M F (s + 1) 0 ws wv := by rw [← hW]; exact (HM.out.1.below (drewN_below w nq)).step HM.out.2.1
    have hsz := hs1.size
    have heq : W.heap.size = w.heap.size := by rw [← hW]; simp [World.setCell]
    have hpW := blk_keep HM.out.2.2.2.1 (fun hl => hs1.block p hl HM.out.2.2.1.1.1 HM.out.2.2.1.1.2)
    have hclo : RAt w (SfT M wv T) (.clo x self b e) (.pointer (some ⟨p, 0, none⟩)) := by rw [RAt]; exact ⟨⟨p, bp, ep, rfl, HM.out.2.2.1, HM.out.2.2.2.1, HM.out.2.2.2.2.1, HM.out.2.2.2.2.2.1⟩, HM.out.2.2.2.2.2.2.1⟩
    have hbc : Below W.heap.size W (W.alloc (.cells #[.int .i64 x, .pointer px, .pointer ep] 73)).drew := (al1 _ _).drew
    have kc := now_keepR (T := T) (hs1.below hbc)
    have C := hid (IH b (.bind x va (around x self b e)) (s + 1) ws o s' ws' HR.out HM.out.2.2.2.2.2.2.1 (Now T w) _ M bp (some ⟨W.heap.size, 0, none⟩) wv (hm1.below hbc) (HM.out.2.2.2.2.1.keep kc)
      (reat_bind (fresh_now HM.out.1 hsz) (Blk.drew (Blk.new W _ _)) (RAt.keep kc _ _ HM.out.2.2.2.2.2.2.2) (by unfold around; rw [if_neg (by omega)]; exact REAt.keep kc _ _ HM.out.2.2.2.2.2.1)))
    have HPC := hid (hpW.below hbc hpW.lt)
    have HST := hid (hs1.below hbc)
    have u3 := hpW.cell 3
    have u5 := hpW.cell 5
    have hlW := hpW.lt
    clear hW hs1 hm1 hsz hpW hclo hbc kc heq y0 y1 y2 y3 y4 y5 y6 x0 x1 x2 x3
    go_region_held3 (fun w' => w'.cell? ⟨p, 3, none⟩ = some (.int .i64 x) ∧ w'.cell? ⟨p, 5, none⟩ = some (.pointer (some bp))) (first | exact ⟨u3, u5⟩ | go_keep) ((go_at_call 32; (refine C.out.mono ?_); rintro e9 w9 hE; obtain ⟨pp, rfl⟩ := hE.ptr; have R := hid hE; have PB := hid (evq_blk hE HPC.out HM.out.2.2.1.1); clear hE u3 u5; have u3 : w9.cell? ⟨p, 3, none⟩ = some (.int .i64 x) := PB.out.cell 3; have u5 : w9.cell? ⟨p, 5, none⟩ = some (.pointer (some bp)) := PB.out.cell 5))
    go_wp2
    go_ret
    exact R.out.hop HST.out
theorem r_apply (F g : Nat) (IH : EvR F g) (T : Nat → Prop) (w : World) (M s : Nat) (ws : List Int) (wv pf px : Value) (vf va : Va) (o : Out Va) (s' : Nat) (ws' : List Int) (hA : Ev.app F (Ev.ev F g) vf va s ws = some (o, s', ws')) (hm : RSt w M F s 0 ws wv) (hf : RAt w (SfT M wv T) vf pf) (ha : RAt w (SfT M wv T) va px) :
    Calls Try.prog 33 #[.pointer (some ⟨M, 0, none⟩), pf, px] w (EvQ T o F s' ws' M wv w) := by
  rcases app_is hA with ⟨rfl, rfl, rfl, rfl⟩ | ⟨hsF, x, self, b, e, rfl, hR⟩ | ⟨hsF, hn, rfl, rfl, rfl⟩
  · exact apply_fuel T w M _ _ wv pf px hm
  · rw [RAt] at hf
    obtain ⟨⟨p, bp, ep, rfl, hS, hp, hc, he⟩, hF⟩ := hf
    obtain ⟨q, rfl, _⟩ := ha.ptr
    exact apply_ok F g IH T w M s ws wv p _ x self b e va o s' ws' bp ep (by have := hm.hs; omega) hm hS hp hc he hF ha hR
  · obtain ⟨p, b, n, A, l, c, rfl, hS, hp⟩ := hf.other hn
    exact apply_bad T w M F s _ wv p px b n A l c (by have := hm.hs; omega) hm hp hS.1.1
end Go.Proofs.Ytohdaclbgedeiaa
/-
  PLAIN: with which numbers an evaluation stops.
-/
namespace Go.Proofs.Ytohdaclbgedeiaa
set_option linter.all false
namespace Ev
def Cd {α : Type} (r : R α) : Prop := ∀ k s w, r = some (.stop k, s, w) → k = -1 ∨ k = 2 ∨ k = 3 ∨ k = 4
section
variable {α β : Type}
theorem Cd.z : Cd (none : R α) := fun _ _ _ h => by cases h
theorem Cd.ok {a : α} {s : Nat} {w : List Int} : Cd (some (.ok a, s, w)) := fun _ _ _ h => by cases h
theorem Cd.st {k : Int} {s : Nat} {w : List Int} (h : k = -1 ∨ k = 2 ∨ k = 3 ∨ k = 4) : Cd (some (.stop k, s, w) : R α) := fun _ _ _ e => by
  injection e with e; injection e with e1 e; injection e1 with e1
  subst e1
  exact h
theorem Cd.bnd {r : R α} {f : α → Nat → List Int → R β} (h : Cd r) (hf : ∀ a s w, Cd (f a s w)) : Cd (bnd r f) := fun k s w e => by
  rcases bnd_some e with ⟨j, h1, h2⟩ | ⟨a, s1, w1, h1, h2⟩
  · injection h2 with h2
    subst h2
    exact h _ _ _ h1
  · exact hf a s1 w1 _ _ _ h2
end
theorem Cd.evL {f : Co → Nat → List Int → R Va} (h : ∀ c s w, Cd (f c s w)) : ∀ cs s w, Cd (evL f cs s w)
  | [], s, w => Cd.ok
  | c :: cs, s, w => by
    rw [Ev.evL]
    split
    · exact Cd.bnd (h c s w) (fun a s1 w1 => Cd.bnd (Cd.evL h cs s1 w1) (fun _ _ _ => Cd.ok))
    · exact Cd.z
theorem Cd.app {F : Nat} {f : Co → En → Nat → List Int → R Va} (h : ∀ c e s w, Cd (f c e s w)) (vf va : Va) (s : Nat) (w : List Int) : Cd (app F f vf va s w) := by
  unfold Ev.app
  split
  · exact Cd.st (by omega)
  · split
    · exact h _ _ _ _
    · exact Cd.st (by omega)
theorem Cd.evS {F : Nat} {f : Co → En → Nat → List Int → R Va} (h : ∀ c e s w, Cd (f c e s w)) (c : Co) (e : En) (s : Nat) (w : List Int) : Cd (evS F f c e s w) := by
  obtain ⟨k, x, y, n, i, ts, us⟩ := c
  have hL : ∀ us s w, Cd (Ev.evL (fun c s w => f c e s w) us s w) := Cd.evL (fun c s w => h c e s w)
  unfold Ev.evS
  dsimp only
  by_cases h1 : k = 1
  · rw [if_pos h1]
    split
    · exact Cd.ok
    · exact Cd.z
  rw [if_neg h1]
  by_cases h2 : k = 2
  · rw [if_pos h2]
    split
    · exact Cd.ok
    · exact Cd.z
  rw [if_neg h2]
  by_cases h3 : k = 3
  · rw [if_pos h3]
    split
    · exact Cd.ok
    · exact Cd.z
  rw [if_neg h3]
  by_cases h4 : k = 4
  · rw [if_pos h4]
    split
    · exact Cd.bnd (h _ _ _ _) (fun a s1 w1 => Cd.bnd (h _ _ _ _) (fun b s2 w2 => Cd.app h a b s2 w2))
    · exact Cd.z
  rw [if_neg h4]
  by_cases h5 : k = 5
  · rw [if_pos h5]
    split
    · exact Cd.bnd (h _ _ _ _) (fun a s1 w1 => h _ _ _ _)
    · exact Cd.z
  rw [if_neg h5]
  by_cases h6 : k = 6
  · rw [if_pos h6]
    split
    · split
      · exact h _ _ _ _
      · exact Cd.z
    · exact Cd.z
  rw [if_neg h6]
  by_cases h7 : k = 7
  · rw [if_pos h7]
    exact Cd.bnd (hL _ _ _) (fun _ _ _ => Cd.ok)
  rw [if_neg h7]
  by_cases h8 : k = 8
  · rw [if_pos h8]
    refine Cd.bnd (hL _ _ _) (fun vs s1 w1 => ?_)
    split
    · unfold Ev.field
      split
      · split
        · exact Cd.ok
        · exact Cd.st (by omega)
      · exact Cd.st (by omega)
      · exact Cd.z
    · exact Cd.z
  rw [if_neg h8]
  by_cases h9 : k = 9
  · rw [if_pos h9]
    split
    · refine Cd.bnd (h _ _ _ _) (fun v s1 w1 => ?_)
      unfold Ev.sw
      split
      · exact h _ _ _ _
      · exact Cd.st (by omega)
    · exact Cd.z
  rw [if_neg h9]
  by_cases h10 : k = 10
  · rw [if_pos h10]
    refine Cd.bnd (hL _ _ _) (fun vs s1 w1 => ?_)
    split
    · unfold Ev.prim
      split
      · split
        · exact Cd.ok
        · exact Cd.st (by omega)
      · exact Cd.st (by omega)
      · exact Cd.z
    · exact Cd.z
  rw [if_neg h10]
  by_cases h11 : k = 11
  · rw [if_pos h11]
    refine Cd.bnd (hL _ _ _) (fun vs s1 w1 => ?_)
    unfold Ev.tell
    split
    · split
      · exact Cd.st (by omega)
      · exact Cd.ok
    · exact Cd.st (by omega)
    · exact Cd.z
  rw [if_neg h11]
  exact Cd.z
theorem Cd.ev (F : Nat) : ∀ g c e s w, Cd (ev F g c e s w)
  | 0, _, _, _, _ => Cd.z
  | g + 1, c, e, s, w => Cd.evS (fun c e s w => Cd.ev F g c e s w) c e s w
theorem stop_ne {F g : Nat} {c : Co} {e : En} {s : Nat} {ws : List Int} {k : Int} {s' : Nat} {ws' : List Int} (h : ev F g c e s ws = some (.stop k, s', ws')) : k ≠ 0 := by
  have := Cd.ev F g c e s ws _ _ _ h
  omega
end Ev
end Go.Proofs.Ytohdaclbgedeiaa
/-
  THE WALK OF athanorref21's eval: A FUNCTION THAT IS APPLIED; let; rec.
-/
namespace Go.Proofs.Ytohdaclbgedeiaa
set_option linter.all false
open Go.ChangeShapes Go.WideShapes Go.ChangeAt Go.RowKit
open Ev (Co Va En Out around)
theorem MStep.cellR {M : Nat} {wv wv1 : Value} {w w1 : World} {T : Nat → Prop} (h : MStep M wv wv1 w w1) {p : Addr} {v : Value} (hS : SfT M wv T p.block) (hc : w.cell? p = some v) : w1.cell? p = some v := cell_of (h.block _ (cell_lt hc) hS.1.1 hS.1.2) rfl hc
/-- An evaluation that comes to a value. -/
def OkR (T : Nat → Prop) (u : Va) (F s : Nat) (ws : List Int) (M : Nat) (wv : Value) (w : World) (e : Ending) (w1 : World) : Prop := ∃ wv1 pp, e = .returned (.pointer pp) ∧ RSt w1 M F s 0 ws wv1 ∧ MStep M wv wv1 w w1 ∧ RAt w1 (SfT M wv1 (Now T w)) u (.pointer pp)
/-- An evaluation that stops. -/
def StR (k : Int) (F s : Nat) (ws : List Int) (M : Nat) (wv : Value) (w : World) (e : Ending) (w1 : World) : Prop := ∃ wv1 pp, e = .returned (.pointer pp) ∧ RSt w1 M F s k ws wv1 ∧ MStep M wv wv1 w w1
theorem evq_okR {T : Nat → Prop} {u : Va} {F s : Nat} {ws : List Int} {M : Nat} {wv : Value} {w w1 : World} {e : Ending} (h : EvQ T (.ok u) F s ws M wv w e w1) : OkR T u F s ws M wv w e w1 := by
  obtain ⟨wv1, h1, h2, v, rfl, hv⟩ := h
  obtain ⟨p, rfl, _⟩ := hv.ptr
  exact ⟨wv1, _, rfl, h1, h2, hv⟩
theorem evq_stR {T : Nat → Prop} {k : Int} {F s : Nat} {ws : List Int} {M : Nat} {wv : Value} {w w1 : World} {e : Ending} (h : EvQ T (.stop k) F s ws M wv w e w1) : StR k F s ws M wv w e w1 := by
  obtain ⟨wv1, h1, h2, p, rfl⟩ := h
  exact ⟨wv1, _, rfl, h1, h2⟩
theorem ok_evq {T : Nat → Prop} {u : Va} {F s : Nat} {ws : List Int} {M : Nat} {wv : Value} {w w1 : World} {e : Ending} (h : OkR T u F s ws M wv w e w1) : EvQ T (.ok u) F s ws M wv w e w1 := by
  obtain ⟨wv1, pp, rfl, h1, h2, h3⟩ := h
  exact ⟨wv1, h1, h2, _, rfl, h3⟩
theorem st_evq {T : Nat → Prop} {k : Int} {F s : Nat} {ws : List Int} {M : Nat} {wv wv1 : Value} {w w1 w2 : World} {pp : Option Addr} (h1 : RSt w1 M F s k ws wv1) (h2 : MStep M wv wv1 w w1) (hb : Below w1.heap.size w1 w2) : EvQ T (.stop k) F s ws M wv w (.returned (.pointer pp)) w2 := ⟨wv1, h1.below hb, h2.below hb, _, rfl⟩
/-- The parts of a node with two. -/
theorem two_pts {w : World} {S : Nat → Prop} {a b : Co} {A : Option Addr} (h : CRow w S [a, b] A 0) : ∃ ad, A = some ad ∧ CPt w S ad a ∧ CPt w S ⟨ad.block, ad.off + 7, none⟩ b := by
  obtain ⟨ad, rfl, h1⟩ := h.pt (j := 0) (by simp)
  obtain ⟨ad2, e, h2⟩ := h.pt (j := 1) (by simp)
  injection e with e
  subst e
  refine ⟨ad, rfl, ?_, ?_⟩
  · have e0 : (ad.add (0 * 7)) = ad := by unfold Addr.add; simp
    rw [e0] at h1; exact h1
  · rw [add7]; exact h2

set_option maxHeartbeats 8000000 in
set_option maxRecDepth 100000 in
theorem app_st1 (F g : Nat) (IH : EvR F g) (T : Nat → Prop) (w : World) (M s : Nat) (ws : List Int) (wv : Value) (cp : Addr) (x y n : Int) (i : Bool) (ts : List Int) (a b : Co) (e : En) (ep : Option Addr) (k : Int) (s' : Nat) (ws' : List Int) (hm : RSt w M F s 0 ws wv) (hc : CPt w (SfT M wv T) cp (.mk 4 x y n i ts [a, b])) (he : REAt w (SfT M wv T) e ep) (hfa : FoT a) (hfb : FoT b)
    (h1 : Ev.ev F g a e s ws = some (.stop k, s', ws')) : Calls Try.prog 32 #[.pointer (some ⟨M, 0, none⟩), .pointer (some cp), .pointer ep] w (EvQ T (.stop k) F s' ws' M wv w) := by
  obtain ⟨x0, x1, x2, x3⟩ := hm.blk.four
  have hlM := hm.blk.lt
  obtain ⟨T0, tc, A, c, ⟨z0, z1, z2, z3, z4, z5, z6⟩, hI, hsz, hrow, hwf⟩ := hc.cells
  have hlc := cell_lt z0
  have hcS := hc.1
  obtain ⟨ad, rfl, ha, hb⟩ := two_pts hrow
  have z6' : w.cell? ⟨cp.block, cp.off + 6, none⟩ = some (.slice (some ad) 2 c) := z6
  have HC := hid (And.intro z6' hcS)
  have C1 := hid ((IH a e s ws _ _ _ h1 hfa T w M ad ep wv hm ha he).mono (fun _ _ h => evq_stR h))
  have HK := hid (Ev.stop_ne h1)
  have hkb : (k != 0) = true := by simpa using HK.out
  clear hm hc hI hsz hrow hwf he hfa hfb ha hb h1 z6 hcS
  go_enter Try.func32, Try.ntmps32
  go_wp2_with (first
    | (go_at_call 32; (refine C1.out.mono ?_); clear C1; rintro e1 w1 ⟨wv1, pp, rfl, hm1, hs1⟩; (have z6 : w1.cell? ⟨cp.block, cp.off + 6, none⟩ = some (.slice (some ad) 2 c) := hs1.cellR HC.out.2 HC.out.1); clear z0 z1 z2 z3 z4 z5 z6' x0 x1 x2 x3 hlM hlc; (have hlc := cell_lt z6); obtain ⟨x0, x1, x2, x3⟩ := hm1.blk.four; have hlM := hm1.blk.lt; have D1 := hid (And.intro hm1 hs1); have C2 := hid (fun ep2 => r21_idle M F s' k ws' wv1 (.pointer (some ⟨ad.block, ad.off + 7, none⟩)) ep2 w1 hm1 HK.out); clear hm1 hs1)
    | (go_at_call 32; (refine (C2.out _).mono ?_); clear C2; rintro e2 w2 ⟨⟨pp2, rfl⟩, b2⟩; have B2 := hid b2; (have hm2 := D1.out.1.below b2); clear x0 x1 x2 x3 hlM z6 hlc b2; obtain ⟨x0, x1, x2, x3⟩ := hm2.blk.four; have hlM := hm2.blk.lt; clear hm2)
    | (go_at_call 30; (refine (r21_number _ _).mono ?_); rintro e3 w3 ⟨rfl, rfl⟩))
  go_ret
  exact st_evq D1.out.1 D1.out.2 (below_hop (al1 _ _) B2.out)
set_option maxHeartbeats 8000000 in
set_option maxRecDepth 100000 in
theorem app_st2 (F g : Nat) (IH : EvR F g) (T : Nat → Prop) (w : World) (M s : Nat) (ws : List Int) (wv : Value) (cp : Addr) (x y n : Int) (i : Bool) (ts : List Int) (a b : Co) (e : En) (ep : Option Addr) (s' : Nat) (ws' : List Int) (hm : RSt w M F s 0 ws wv) (hc : CPt w (SfT M wv T) cp (.mk 4 x y n i ts [a, b])) (he : REAt w (SfT M wv T) e ep) (hfa : FoT a) (hfb : FoT b)
    (k : Int) (vf : Va) (s1 : Nat) (ws1 : List Int) (h1 : Ev.ev F g a e s ws = some (.ok vf, s1, ws1)) (h2 : Ev.ev F g b e s1 ws1 = some (.stop k, s', ws')) : Calls Try.prog 32 #[.pointer (some ⟨M, 0, none⟩), .pointer (some cp), .pointer ep] w (EvQ T (.stop k) F s' ws' M wv w) := by
  obtain ⟨x0, x1, x2, x3⟩ := hm.blk.four
  have hlM := hm.blk.lt
  obtain ⟨T0, tc, A, c, ⟨z0, z1, z2, z3, z4, z5, z6⟩, hI, hsz, hrow, hwf⟩ := hc.cells
  have hlc := cell_lt z0
  have hcS := hc.1
  obtain ⟨ad, rfl, ha, hb⟩ := two_pts hrow
  have z6' : w.cell? ⟨cp.block, cp.off + 6, none⟩ = some (.slice (some ad) 2 c) := z6
  have z1' : w.cell? ⟨cp.block, cp.off + 1, none⟩ = some (.int .i64 x) := z1
  have HC := hid (And.intro z6' (And.intro z1' (And.intro hcS (And.intro hb (And.intro he hfb)))))
  have C1 := hid ((IH a e s ws _ _ _ h1 hfa T w M ad ep wv hm ha he).mono (fun _ _ h => evq_okR h))
  have HK := hid (Ev.stop_ne h2)
  have hkb : (k != 0) = true := by simpa using HK.out
  have HE := hid h2
  clear hm hc hI hsz hrow hwf he hfa hfb ha hb h1 h2 z6 z1 hcS
  go_enter Try.func32, Try.ntmps32
  go_wp2_with (first
    | (go_at_call 32; (refine C1.out.mono ?_); clear C1; rintro e1 w1 ⟨wv1, pp, rfl, hm1, hs1, hr1⟩; (have z6 : w1.cell? ⟨cp.block, cp.off + 6, none⟩ = some (.slice (some ad) 2 c) := hs1.cellR HC.out.2.2.1 HC.out.1); (have z1 : w1.cell? ⟨cp.block, cp.off + 1, none⟩ = some (.int .i64 x) := hs1.cellR HC.out.2.2.1 HC.out.2.1); clear z0 z1' z2 z3 z4 z5 z6' x0 x1 x2 x3 hlM hlc; (have hlc := cell_lt z6); obtain ⟨x0, x1, x2, x3⟩ := hm1.blk.four; have hlM := hm1.blk.lt; have D1 := hid (And.intro hm1 (And.intro hs1 hr1)); have C2 := hid ((IH b e s1 ws1 _ _ _ HE.out HC.out.2.2.2.2.2 (Now T w) w1 M ⟨ad.block, ad.off + 7, none⟩ ep wv1 hm1 (HC.out.2.2.2.1.keep (now_keepR hs1)) (REAt.keep (now_keepR hs1) _ _ HC.out.2.2.2.2.1)).mono (fun _ _ h => evq_stR h)); clear hm1 hs1 hr1)
    | (go_at_call 32; (refine C2.out.mono ?_); clear C2; rintro e2 w2 ⟨wv2, pp2, rfl, hm2, hs2⟩; clear x0 x1 x2 x3 hlM z6 z1 hlc; obtain ⟨x0, x1, x2, x3⟩ := hm2.blk.four; have hlM := hm2.blk.lt; have D2 := hid (And.intro hm2 hs2); clear hm2 hs2)
    | (go_at_call 30; (refine (r21_number _ _).mono ?_); rintro e3 w3 ⟨rfl, rfl⟩))
  go_ret
  exact st_evq D2.out.1 (D1.out.2.1.trans D2.out.2) (al1 _ _)
set_option maxHeartbeats 8000000 in
set_option maxRecDepth 100000 in
theorem app_okR (F g : Nat) (IH : EvR F g) (T : Nat → Prop) (w : World) (M s : Nat) (ws : List Int) (wv : Value) (cp : Addr) (x y n : Int) (i : Bool) (ts : List Int) (a b : Co) (e : En) (ep : Option Addr) (s' : Nat) (ws' : List Int) (hm : RSt w M F s 0 ws wv) (hc : CPt w (SfT M wv T) cp (.mk 4 x y n i ts [a, b])) (he : REAt w (SfT M wv T) e ep) (hfa : FoT a) (hfb : FoT b)
    (vf va : Va) (s1 s2 : Nat) (ws1 ws2 : List Int) (o : Out Va) (h1 : Ev.ev F g a e s ws = some (.ok vf, s1, ws1)) (h2 : Ev.ev F g b e s1 ws1 = some (.ok va, s2, ws2)) (hA : Ev.app F (Ev.ev F g) vf va s2 ws2 = some (o, s', ws')) : Calls Try.prog 32 #[.pointer (some ⟨M, 0, none⟩), .pointer (some cp), .pointer ep] w (EvQ T (o) F s' ws' M wv w) := by
  obtain ⟨x0, x1, x2, x3⟩ := hm.blk.four
  have hlM := hm.blk.lt
  obtain ⟨T0, tc, A, c, ⟨z0, z1, z2, z3, z4, z5, z6⟩, hI, hsz, hrow, hwf⟩ := hc.cells
  have hlc := cell_lt z0
  have hcS := hc.1
  obtain ⟨ad, rfl, ha, hb⟩ := two_pts hrow
  have z6' : w.cell? ⟨cp.block, cp.off + 6, none⟩ = some (.slice (some ad) 2 c) := z6
  have z1' : w.cell? ⟨cp.block, cp.off + 1, none⟩ = some (.int .i64 x) := z1
  have HC := hid (And.intro z6' (And.intro z1' (And.intro hcS (And.intro hb (And.intro he hfb)))))
  have C1 := hid ((IH a e s ws _ _ _ h1 hfa T w M ad ep wv hm ha he).mono (fun _ _ h => evq_okR h))
  have HE := hid (And.intro h2 hA)
  clear hm hc hI hsz hrow hwf he hfa hfb ha hb h1 h2 hA z6 z1 hcS
  go_enter Try.func32, Try.ntmps32
  go_wp2_with (first
    | (go_at_call 32; (refine C1.out.mono ?_); clear C1; rintro e1 w1 ⟨wv1, pp, rfl, hm1, hs1, hr1⟩; (have z6 : w1.cell? ⟨cp.block, cp.off + 6, none⟩ = some (.slice (some ad) 2 c) := hs1.cellR HC.out.2.2.1 HC.out.1); (have z1 : w1.cell? ⟨cp.block, cp.off + 1, none⟩ = some (.int .i64 x) := hs1.cellR HC.out.2.2.1 HC.out.2.1); clear z0 z1' z2 z3 z4 z5 z6' x0 x1 x2 x3 hlM hlc; (have hlc := cell_lt z6); obtain ⟨x0, x1, x2, x3⟩ := hm1.blk.four; have hlM := hm1.blk.lt; have D1 := hid (And.intro hm1 (And.intro hs1 hr1)); have C2 := hid ((IH b e s1 ws1 _ _ _ HE.out.1 HC.out.2.2.2.2.2 (Now T w) w1 M ⟨ad.block, ad.off + 7, none⟩ ep wv1 hm1 (HC.out.2.2.2.1.keep (now_keepR hs1)) (REAt.keep (now_keepR hs1) _ _ HC.out.2.2.2.2.1)).mono (fun _ _ h => evq_okR h)); clear hm1 hs1 hr1)
    | (go_at_call 32; (refine C2.out.mono ?_); clear C2; rintro e2 w2 ⟨wv2, pp2, rfl, hm2, hs2, hr2⟩; clear x0 x1 x2 x3 hlM z6 z1 hlc; obtain ⟨x0, x1, x2, x3⟩ := hm2.blk.four; have hlM := hm2.blk.lt; have D2 := hid hs2; have C3 := hid (r_apply F g IH (Now T w) w2 M s2 ws2 wv2 (.pointer pp) (.pointer pp2) vf va o s' ws' HE.out.2 hm2 (RAt.keep hs2.keepT _ _ D1.out.2.2) (RAt.keep (fun b9 hb9 _ => ⟨rfl, now_hop D1.out.2.1 b9 hb9⟩) _ _ hr2)); clear hm2 hs2 hr2)
    | (go_at_call 33; (refine C3.out.mono ?_); clear C3; rintro e3 w3 hE; obtain ⟨pp3, rfl⟩ := hE.ptr; have R := hid hE; clear hE))
  go_ret
  exact R.out.hop (D1.out.2.1.trans D2.out)
theorem evq_step {T : Nat → Prop} {o : Out Va} {F s : Nat} {ws : List Int} {M : Nat} {wv : Value} {w w1 : World} {e : Ending} (h : EvQ T o F s ws M wv w e w1) : ∃ wv1, MStep M wv wv1 w w1 := by
  obtain ⟨wv1, _, h2, _⟩ := h
  exact ⟨wv1, h2⟩
/-- An evaluation's result, and that it has kept the caller's blocks. -/
theorem calls_kept {T : Nat → Prop} {o : Out Va} {F s : Nat} {ws : List Int} {M : Nat} {wv : Value} {w : World} {args : Array Value} (h : Calls Try.prog 32 args w (EvQ T o F s ws M wv w)) : Calls Try.prog 32 args w (fun e w1 => (∃ p, e = .returned (.pointer p)) ∧ (∃ wv1, MStep M wv wv1 w w1) ∧ EvQ T o F s ws M wv w e w1) :=
  h.mono (fun _ _ h => ⟨h.ptr, evq_step h, h⟩)
set_option maxHeartbeats 8000000 in
set_option maxRecDepth 100000 in
theorem let_st (F g : Nat) (IH : EvR F g) (T : Nat → Prop) (w : World) (M s : Nat) (ws : List Int) (wv : Value) (cp : Addr) (x y n : Int) (i : Bool) (ts : List Int) (a b : Co) (e : En) (ep : Option Addr) (s' : Nat) (ws' : List Int) (hm : RSt w M F s 0 ws wv) (hc : CPt w (SfT M wv T) cp (.mk 5 x y n i ts [a, b])) (he : REAt w (SfT M wv T) e ep) (hfa : FoT a) (hfb : FoT b)
    (k : Int) (h1 : Ev.ev F g a e s ws = some (.stop k, s', ws')) : Calls Try.prog 32 #[.pointer (some ⟨M, 0, none⟩), .pointer (some cp), .pointer ep] w (EvQ T (.stop k) F s' ws' M wv w) := by
  obtain ⟨x0, x1, x2, x3⟩ := hm.blk.four
  have hlM := hm.blk.lt
  obtain ⟨T0, tc, A, c, ⟨z0, z1, z2, z3, z4, z5, z6⟩, hI, hsz, hrow, hwf⟩ := hc.cells
  have hlc := cell_lt z0
  have hcS := hc.1
  obtain ⟨ad, rfl, ha, hb⟩ := two_pts hrow
  have z6' : w.cell? ⟨cp.block, cp.off + 6, none⟩ = some (.slice (some ad) 2 c) := z6
  have z1' : w.cell? ⟨cp.block, cp.off + 1, none⟩ = some (.int .i64 x) := z1
  have HC := hid (And.intro z6' (And.intro z1' hcS))
  have C1 := hid ((IH a e s ws _ _ _ h1 hfa T w M ad ep wv hm ha he).mono (fun _ _ h => evq_stR h))
  have HK := hid (Ev.stop_ne h1)
  clear hm hc hI hsz hrow hwf he hfa hfb ha hb h1 z6 z1 hcS
  go_enter Try.func32, Try.ntmps32
  go_wp2_with (go_at_call 32; (refine C1.out.mono ?_); clear C1; rintro e1 w1 ⟨wv1, pp, rfl, hm1, hs1⟩; (have z6 : w1.cell? ⟨cp.block, cp.off + 6, none⟩ = some (.slice (some ad) 2 c) := hs1.cellR HC.out.2.2 HC.out.1); (have z1 : w1.cell? ⟨cp.block, cp.off + 1, none⟩ = some (.int .i64 x) := hs1.cellR HC.out.2.2 HC.out.2.1); clear z0 z1' z2 z3 z4 z5 z6' x0 x1 x2 x3 hlM hlc; (have hlc := cell_lt z6); have D1 := hid (And.intro hm1 hs1); clear hm1 hs1)
  have hbc : Below w1.heap.size w1 (w1.alloc (.cells #[.int .i64 x, .pointer pp, .pointer ep] 73)).drew := (al1 _ _).drew
  have C2 := hid ((r21_idle M F s' k ws' wv1 (.pointer (some ⟨ad.block, ad.off + 7, none⟩)) (.pointer (some ⟨w1.heap.size, 0, none⟩)) _ (D1.out.1.below hbc) HK.out).mono (fun _ _ h => (show _ ∧ ((∃ wv8, MStep M wv1 wv8 _ _) ∧ Below _ _ _) from ⟨h.1, ⟨wv1, (MStep.refl M wv1 _).below h.2⟩, h.2⟩)))
  have HC2 := hid (show SfT M wv1 (fun _ => True) cp.block ∧ (w1.alloc (.cells #[.int .i64 x, .pointer pp, .pointer ep] 73)).drew.cell? ⟨cp.block, cp.off + 1, none⟩ = some (.int .i64 x) ∧ (w1.alloc (.cells #[.int .i64 x, .pointer pp, .pointer ep] 73)).drew.cell? ⟨cp.block, cp.off + 6, none⟩ = some (.slice (some ad) 2 c) from ⟨⟨(now_keepR D1.out.2 cp.block HC.out.2.2 (cell_lt (a := ⟨cp.block, cp.off + 6, none⟩) HC.out.1)).2.1, trivial⟩, cell_of (hbc.block _ hlc) rfl z1, cell_of (hbc.block _ hlc) rfl z6⟩)
  have HB := hid hbc
  clear hbc
  go_region_held3 (fun w' => w'.cell? ⟨cp.block, cp.off + 1, none⟩ = some (.int .i64 x) ∧ w'.cell? ⟨cp.block, cp.off + 6, none⟩ = some (.slice (some ad) 2 c)) (first | exact ⟨z1, z6⟩ | go_keep) ((go_at_call 32; (refine C2.out.mono ?_); rintro e2 w2 ⟨⟨pp2, rfl⟩, ⟨wv8, hst⟩, hR⟩; have R := hid hR; (have k1 : w2.cell? ⟨cp.block, cp.off + 1, none⟩ = some (.int .i64 x) := hst.cellR HC2.out.1 HC2.out.2.1); (have k6 : w2.cell? ⟨cp.block, cp.off + 6, none⟩ = some (.slice (some ad) 2 c) := hst.cellR HC2.out.1 HC2.out.2.2); clear hR hst z1 z6; have z1 := k1; have z6 := k6; clear k1 k6))
  go_wp2
  go_ret
  exact st_evq D1.out.1 D1.out.2 (below_hop R.out HB.out)
set_option maxHeartbeats 8000000 in
set_option maxRecDepth 100000 in
theorem let_okR (F g : Nat) (IH : EvR F g) (T : Nat → Prop) (w : World) (M s : Nat) (ws : List Int) (wv : Value) (cp : Addr) (x y n : Int) (i : Bool) (ts : List Int) (a b : Co) (e : En) (ep : Option Addr) (s' : Nat) (ws' : List Int) (hm : RSt w M F s 0 ws wv) (hc : CPt w (SfT M wv T) cp (.mk 5 x y n i ts [a, b])) (he : REAt w (SfT M wv T) e ep) (hfa : FoT a) (hfb : FoT b)
    (va : Va) (s1 : Nat) (ws1 : List Int) (o : Out Va) (h1 : Ev.ev F g a e s ws = some (.ok va, s1, ws1)) (h2 : Ev.ev F g b (.bind x va e) s1 ws1 = some (o, s', ws')) : Calls Try.prog 32 #[.pointer (some ⟨M, 0, none⟩), .pointer (some cp), .pointer ep] w (EvQ T o F s' ws' M wv w) := by
  obtain ⟨x0, x1, x2, x3⟩ := hm.blk.four
  have hlM := hm.blk.lt
  obtain ⟨T0, tc, A, c, ⟨z0, z1, z2, z3, z4, z5, z6⟩, hI, hsz, hrow, hwf⟩ := hc.cells
  have hlc := cell_lt z0
  have hcS := hc.1
  obtain ⟨ad, rfl, ha, hb⟩ := two_pts hrow
  have z6' : w.cell? ⟨cp.block, cp.off + 6, none⟩ = some (.slice (some ad) 2 c) := z6
  have z1' : w.cell? ⟨cp.block, cp.off + 1, none⟩ = some (.int .i64 x) := z1
  have HC := hid (And.intro z6' (And.intro z1' (And.intro hcS (And.intro hb (And.intro he hfb)))))
  have C1 := hid ((IH a e s ws _ _ _ h1 hfa T w M ad ep wv hm ha he).mono (fun _ _ h => evq_okR h))
  have HE := hid h2
  clear hm hc hI hsz hrow hwf he hfa hfb ha hb h1 h2 z6 z1 hcS
  go_enter Try.func32, Try.ntmps32
  go_wp2_with (go_at_call 32; (refine C1.out.mono ?_); clear C1; rintro e1 w1 ⟨wv1, pp, rfl, hm1, hs1, hr1⟩; (have z6 : w1.cell? ⟨cp.block, cp.off + 6, none⟩ = some (.slice (some ad) 2 c) := hs1.cellR HC.out.2.2.1 HC.out.1); (have z1 : w1.cell? ⟨cp.block, cp.off + 1, none⟩ = some (.int .i64 x) := hs1.cellR HC.out.2.2.1 HC.out.2.1); clear z0 z1' z2 z3 z4 z5 z6' x0 x1 x2 x3 hlM hlc; (have hlc := cell_lt z6); have D1 := hid (And.intro hm1 (And.intro hs1 hr1)); clear hm1 hs1 hr1)
  have hbc : Below w1.heap.size w1 (w1.alloc (.cells #[.int .i64 x, .pointer pp, .pointer ep] 73)).drew := (al1 _ _).drew
  have kc := now_keepR (T := T) (D1.out.2.1.below hbc)
  have C2 := hid (calls_kept (IH b (.bind x va e) s1 ws1 _ _ _ HE.out HC.out.2.2.2.2.2 (Now T w) (w1.alloc (.cells #[.int .i64 x, .pointer pp, .pointer ep] 73)).drew M ⟨ad.block, ad.off + 7, none⟩ (some ⟨w1.heap.size, 0, none⟩) wv1 (D1.out.1.below hbc) (HC.out.2.2.2.1.keep kc) (reat_bind ⟨D1.out.1.sf (Nat.le_refl _), .inr D1.out.2.1.size⟩ (Blk.drew (Blk.new w1 _ _)) (D1.out.2.2.up hbc) (REAt.keep kc _ _ HC.out.2.2.2.2.1))))
  have HC2 := hid (show SfT M wv1 (fun _ => True) cp.block ∧ (w1.alloc (.cells #[.int .i64 x, .pointer pp, .pointer ep] 73)).drew.cell? ⟨cp.block, cp.off + 1, none⟩ = some (.int .i64 x) ∧ (w1.alloc (.cells #[.int .i64 x, .pointer pp, .pointer ep] 73)).drew.cell? ⟨cp.block, cp.off + 6, none⟩ = some (.slice (some ad) 2 c) from ⟨⟨(now_keepR D1.out.2.1 cp.block HC.out.2.2.1 (cell_lt (a := ⟨cp.block, cp.off + 6, none⟩) HC.out.1)).2.1, trivial⟩, cell_of (hbc.block _ hlc) rfl z1, cell_of (hbc.block _ hlc) rfl z6⟩)
  have HB := hid (D1.out.2.1.below hbc)
  clear hbc kc
  go_region_held3 (fun w' => w'.cell? ⟨cp.block, cp.off + 1, none⟩ = some (.int .i64 x) ∧ w'.cell? ⟨cp.block, cp.off + 6, none⟩ = some (.slice (some ad) 2 c)) (first | exact ⟨z1, z6⟩ | go_keep) ((go_at_call 32; (refine C2.out.mono ?_); rintro e2 w2 ⟨⟨pp2, rfl⟩, ⟨wv8, hst⟩, hR⟩; have R := hid hR; (have k1 : w2.cell? ⟨cp.block, cp.off + 1, none⟩ = some (.int .i64 x) := hst.cellR HC2.out.1 HC2.out.2.1); (have k6 : w2.cell? ⟨cp.block, cp.off + 6, none⟩ = some (.slice (some ad) 2 c) := hst.cellR HC2.out.1 HC2.out.2.2); clear hR hst z1 z6; have z1 := k1; have z6 := k6; clear k1 k6))
  go_wp2
  go_ret
  exact R.out.hop HB.out
set_option maxHeartbeats 8000000 in
set_option maxRecDepth 100000 in
theorem rec_okR (F g : Nat) (IH : EvR F g) (T : Nat → Prop) (w : World) (M s : Nat) (ws : List Int) (wv : Value) (cp : Addr) (x y n : Int) (i : Bool) (ts : List Int) (a b : Co) (e : En) (ep : Option Addr) (s' : Nat) (ws' : List Int) (hm : RSt w M F s 0 ws wv) (hc : CPt w (SfT M wv T) cp (.mk 6 x y n i ts [a, b])) (he : REAt w (SfT M wv T) e ep) (hfa : FoT a) (hfb : FoT b)
    (o : Out Va) (h2 : Ev.ev F g b (.bind x (.clo y x a e) e) s ws = some (o, s', ws')) : Calls Try.prog 32 #[.pointer (some ⟨M, 0, none⟩), .pointer (some cp), .pointer ep] w (EvQ T o F s' ws' M wv w) := by
  obtain ⟨x0, x1, x2, x3⟩ := hm.blk.four
  have hlM := hm.blk.lt
  obtain ⟨T0, tc, A, c, ⟨z0, z1, z2, z3, z4, z5, z6⟩, hI, hsz, hrow, hwf⟩ := hc.cells
  have hlc := cell_lt z0
  have hcS := hc.1
  obtain ⟨ad, rfl, ha, hb⟩ := two_pts hrow
  have z6' : w.cell? ⟨cp.block, cp.off + 6, none⟩ = some (.slice (some ad) 2 c) := z6
  have z1' : w.cell? ⟨cp.block, cp.off + 1, none⟩ = some (.int .i64 x) := z1
  have HC := hid (And.intro z6' (And.intro z1' (And.intro hcS (And.intro hb (And.intro he (And.intro hfb (And.intro hm (And.intro ha hfa))))))))
  have HE := hid h2
  clear hm hc hI hsz hrow hwf he hfa hfb ha hb h2 z6 hcS
  go_enter Try.func32, Try.ntmps32
  go_wp2
  go_region
  go_wp2
  obtain ⟨WB, hWB⟩ : ∃ WB, (w.alloc (.cells #[.bool false, .int .i64 0, .slice none 0 0, .int .i64 y, .int .i64 x, .pointer (some ad), .pointer ep] 60)).drew = WB := ⟨_, rfl⟩
  rw [hWB]
  have hbv : Below w.heap.size w WB := by rw [← hWB]; exact (al1 _ _).drew
  have hbb : Blk WB w.heap.size 60 #[.bool false, .int .i64 0, .slice none 0 0, .int .i64 y, .int .i64 x, .pointer (some ad), .pointer ep] := by rw [← hWB]; exact Blk.drew (Blk.new w _ _)
  have hbc : Below WB.heap.size WB (WB.alloc (.cells #[.int .i64 x, .pointer (some ⟨w.heap.size, 0, none⟩), .pointer ep] 73)).drew := (al1 _ _).drew
  have hbw : Below w.heap.size w (WB.alloc (.cells #[.int .i64 x, .pointer (some ⟨w.heap.size, 0, none⟩), .pointer ep] 73)).drew := below_hop hbc hbv
  have kc := now_keepR (T := T) ((MStep.refl M wv w).below hbw)
  have C2 := hid (calls_kept (IH b (.bind x (.clo y x a e) e) s ws _ _ _ HE.out HC.out.2.2.2.2.2.1 (Now T w) (WB.alloc (.cells #[.int .i64 x, .pointer (some ⟨w.heap.size, 0, none⟩), .pointer ep] 73)).drew M ⟨ad.block, ad.off + 7, none⟩ (some ⟨WB.heap.size, 0, none⟩) wv (HC.out.2.2.2.2.2.2.1.below hbw) (HC.out.2.2.2.1.keep kc)
    (reat_bind (fresh_now HC.out.2.2.2.2.2.2.1 hbv.size) (Blk.drew (Blk.new WB _ _)) (by rw [RAt]; exact ⟨⟨w.heap.size, ad, ep, rfl, fresh_now HC.out.2.2.2.2.2.2.1 (Nat.le_refl _), hbb.below hbc hbb.lt, HC.out.2.2.2.2.2.2.2.1.keep kc, REAt.keep kc _ _ HC.out.2.2.2.2.1⟩, HC.out.2.2.2.2.2.2.2.2⟩) (REAt.keep kc _ _ HC.out.2.2.2.2.1))))
  have z1 : WB.cell? ⟨cp.block, cp.off + 1, none⟩ = some (.int .i64 x) := cell_of (hbv.block _ hlc) rfl HC.out.2.1
  have z6 : WB.cell? ⟨cp.block, cp.off + 6, none⟩ = some (.slice (some ad) 2 c) := cell_of (hbv.block _ hlc) rfl HC.out.1
  have HC2 := hid (show SfT M wv (fun _ => True) cp.block ∧ (WB.alloc (.cells #[.int .i64 x, .pointer (some ⟨w.heap.size, 0, none⟩), .pointer ep] 73)).drew.cell? ⟨cp.block, cp.off + 1, none⟩ = some (.int .i64 x) ∧ (WB.alloc (.cells #[.int .i64 x, .pointer (some ⟨w.heap.size, 0, none⟩), .pointer ep] 73)).drew.cell? ⟨cp.block, cp.off + 6, none⟩ = some (.slice (some ad) 2 c) from ⟨⟨HC.out.2.2.1.1, trivial⟩, cell_of (hbw.block _ hlc) rfl HC.out.2.1, cell_of (hbw.block _ hlc) rfl HC.out.1⟩)
  have HB := hid ((MStep.refl M wv w).below hbw)
  have hlw := cell_lt z6
  clear hWB hbv hbb hbc hbw kc z0 z1' z2 z3 z4 z5 z6' x0 x1 x2 x3 hlM hlc
  go_region_held3 (fun w' => w'.cell? ⟨cp.block, cp.off + 1, none⟩ = some (.int .i64 x) ∧ w'.cell? ⟨cp.block, cp.off + 6, none⟩ = some (.slice (some ad) 2 c)) (first | exact ⟨z1, z6⟩ | go_keep) ((go_at_call 32; (refine C2.out.mono ?_); rintro e2 w2 ⟨⟨pp2, rfl⟩, ⟨wv8, hst⟩, hR⟩; have R := hid hR; (have k1 : w2.cell? ⟨cp.block, cp.off + 1, none⟩ = some (.int .i64 x) := hst.cellR HC2.out.1 HC2.out.2.1); (have k6 : w2.cell? ⟨cp.block, cp.off + 6, none⟩ = some (.slice (some ad) 2 c) := hst.cellR HC2.out.1 HC2.out.2.2); clear hR hst z1 z6; have z1 := k1; have z6 := k6; clear k1 k6))
  go_wp2
  go_ret
  exact R.out.hop HB.out
end Go.Proofs.Ytohdaclbgedeiaa
/-
  THE WALK OF athanorref21's eval: A FIELD.
-/
namespace Go.Proofs.Ytohdaclbgedeiaa
set_option linter.all false
open Go.ChangeShapes Go.WideShapes Go.ChangeAt Go.RowKit
open Ev (Co Va En Out evL ev evS R bnd)
/-- A node with one part, whose value is looked at. -/
theorem evL_one {f : Co → Nat → List Int → R Va} {a : Co} {s : Nat} {ws : List Int} {α : Type} {k : List Va → Nat → List Int → R α} {o : Out α} {s' : Nat} {ws' : List Int} (h : bnd (evL f [a] s ws) k = some (o, s', ws')) :
    (∃ j, f a s ws = some (.stop j, s', ws') ∧ o = .stop j) ∨ ∃ u s1 ws1, f a s ws = some (.ok u, s1, ws1) ∧ k [u] s1 ws1 = some (o, s', ws') := by
  rcases Ev.bnd_some h with ⟨j, h1, rfl⟩ | ⟨vs, s1, ws1, h1, h2⟩
  · rcases evL_cons h1 with ⟨j2, h3, h4⟩ | ⟨v, s2, w2, r2, h3, h4, h5⟩
    · injection h4 with h4
      subst h4
      exact .inl ⟨_, h3, rfl⟩
    · rw [evL] at h4
      injection h4 with h4; injection h4 with h6 h4
      subst h6
      simp [pre] at h5
  · rcases evL_cons h1 with ⟨j2, h3, h4⟩ | ⟨v, s2, w2, r2, h3, h4, h5⟩
    · cases h4
    · rw [evL] at h4
      injection h4 with h4; injection h4 with h6 h4; injection h4 with h7 h8
      subst h6 h7 h8
      simp [pre] at h5
      subst h5
      exact .inr ⟨v, _, _, h3, h2⟩
theorem evR_field {F g : Nat} {x y n : Int} {i : Bool} {ts : List Int} {a : Co} {e : En} {s : Nat} {ws : List Int} {o : Out Va} {s' : Nat} {ws' : List Int} (h : ev F (g + 1) (.mk 8 x y n i ts [a]) e s ws = some (o, s', ws')) :
    (∃ j, ev F g a e s ws = some (.stop j, s', ws') ∧ o = .stop j) ∨ ∃ u, ev F g a e s ws = some (.ok u, s', ws') ∧ 0 ≤ n ∧ ((∃ t us v, u = .con t us ∧ us[n.toNat]? = some v ∧ o = .ok v) ∨ ((∀ t us, u = .con t us → us.length ≤ n.toNat) ∧ o = .stop (-1))) := by
  have h2 : bnd (evL (fun c s w => ev F g c e s w) [a] s ws) (fun vs s1 w1 => if 0 ≤ n then Ev.field n s1 w1 vs else none) = some (o, s', ws') := h
  rcases evL_one h2 with ⟨j, h3, rfl⟩ | ⟨u, s1, ws1, h3, h4⟩
  · exact .inl ⟨j, h3, rfl⟩
  · by_cases hn : 0 ≤ n
    · rw [if_pos hn] at h4
      unfold Ev.field at h4
      cases u with
      | num m => injection h4 with h4; injection h4 with h5 h4; injection h4 with h6 h7; subst h5 h6 h7; exact .inr ⟨_, h3, hn, .inr ⟨fun t us e => (by cases e), rfl⟩⟩
      | clo x2 self b e2 => injection h4 with h4; injection h4 with h5 h4; injection h4 with h6 h7; subst h5 h6 h7; exact .inr ⟨_, h3, hn, .inr ⟨fun t us e => (by cases e), rfl⟩⟩
      | con t us =>
        dsimp only at h4
        cases hx : us[n.toNat]? with
        | none =>
          rw [hx] at h4
          injection h4 with h4; injection h4 with h5 h4; injection h4 with h6 h7; subst h5 h6 h7
          refine .inr ⟨_, h3, hn, .inr ⟨fun t2 us2 e => ?_, rfl⟩⟩
          injection e with e1 e2
          subst e2
          exact List.getElem?_eq_none_iff.1 hx
        | some v =>
          rw [hx] at h4
          injection h4 with h4; injection h4 with h5 h4; injection h4 with h6 h7; subst h5 h6 h7
          exact .inr ⟨_, h3, hn, .inl ⟨t, us, v, rfl, hx, rfl⟩⟩
    · rw [if_neg hn] at h4; cases h4
/-- The part of a node with one. -/
theorem one_pt {w : World} {S : Nat → Prop} {a : Co} {A : Option Addr} (h : CRow w S [a] A 0) : ∃ ad, A = some ad ∧ CPt w S ad a := by
  obtain ⟨ad, rfl, h1⟩ := h.pt (j := 0) (by simp)
  have e0 : (ad.add (0 * 7)) = ad := by unfold Addr.add; simp
  rw [e0] at h1
  exact ⟨ad, rfl, h1⟩
set_option maxHeartbeats 8000000 in
set_option maxRecDepth 100000 in
theorem field_st (F g : Nat) (IH : EvR F g) (T : Nat → Prop) (w : World) (M s : Nat) (ws : List Int) (wv : Value) (cp : Addr) (x y n : Int) (i : Bool) (ts : List Int) (a : Co) (e : En) (ep : Option Addr) (s' : Nat) (ws' : List Int) (hm : RSt w M F s 0 ws wv) (hc : CPt w (SfT M wv T) cp (.mk 8 x y n i ts [a])) (he : REAt w (SfT M wv T) e ep) (hfa : FoT a) (k : Int) (h1 : Ev.ev F g a e s ws = some (.stop k, s', ws')) : Calls Try.prog 32 #[.pointer (some ⟨M, 0, none⟩), .pointer (some cp), .pointer ep] w (EvQ T (.stop k) F s' ws' M wv w) := by
  obtain ⟨x0, x1, x2, x3⟩ := hm.blk.four
  have hlM := hm.blk.lt
  obtain ⟨T0, tc, A, c, ⟨z0, z1, z2, z3, z4, z5, z6⟩, hI, hsz, hrow, hwf⟩ := hc.cells
  have hlc := cell_lt z0
  have hcS := hc.1
  obtain ⟨ad, rfl, ha⟩ := one_pt hrow
  have z6' : w.cell? ⟨cp.block, cp.off + 6, none⟩ = some (.slice (some ad) 1 c) := z6
  have z3' : w.cell? ⟨cp.block, cp.off + 3, none⟩ = some (.int .i64 n) := z3
  have HC := hid (And.intro z6' (And.intro z3' hcS))
  have C1 := hid ((IH a e s ws _ _ _ h1 hfa T w M ad ep wv hm ha he).mono (fun _ _ h => evq_stR h))
  have HK := hid (Ev.stop_ne h1)
  have hkb : (k != 0) = true := by simpa using HK.out
  clear hm hc hI hsz hrow hwf he hfa ha h1 z6 z3 hcS
  go_enter Try.func32, Try.ntmps32
  go_wp2_with (first
    | (go_at_call 32; (refine C1.out.mono ?_); clear C1; rintro e1 w1 ⟨wv1, pp, rfl, hm1, hs1⟩; clear z0 z1 z2 z3' z4 z5 z6' x0 x1 x2 x3 hlM hlc; obtain ⟨x0, x1, x2, x3⟩ := hm1.blk.four; have hlM := hm1.blk.lt; have D1 := hid (And.intro hm1 hs1); clear hm1 hs1)
    | (go_at_call 30; (refine (r21_number _ _).mono ?_); rintro e3 w3 ⟨rfl, rfl⟩))
  go_ret
  exact st_evq D1.out.1 D1.out.2 (al1 _ _)
set_option maxHeartbeats 8000000 in
set_option maxRecDepth 100000 in
theorem field_num (F g : Nat) (IH : EvR F g) (T : Nat → Prop) (w : World) (M s : Nat) (ws : List Int) (wv : Value) (cp : Addr) (x y n : Int) (i : Bool) (ts : List Int) (a : Co) (e : En) (ep : Option Addr) (s' : Nat) (ws' : List Int) (hm : RSt w M F s 0 ws wv) (hc : CPt w (SfT M wv T) cp (.mk 8 x y n i ts [a])) (he : REAt w (SfT M wv T) e ep) (hfa : FoT a) (m : Int) (h1 : Ev.ev F g a e s ws = some (.ok (.num m), s', ws')) : Calls Try.prog 32 #[.pointer (some ⟨M, 0, none⟩), .pointer (some cp), .pointer ep] w (EvQ T (.stop (-1)) F s' ws' M wv w) := by
  obtain ⟨x0, x1, x2, x3⟩ := hm.blk.four
  have hlM := hm.blk.lt
  obtain ⟨T0, tc, A, c, ⟨z0, z1, z2, z3, z4, z5, z6⟩, hI, hsz, hrow, hwf⟩ := hc.cells
  have hlc := cell_lt z0
  have hcS := hc.1
  obtain ⟨ad, rfl, ha⟩ := one_pt hrow
  have z6' : w.cell? ⟨cp.block, cp.off + 6, none⟩ = some (.slice (some ad) 1 c) := z6
  have z3' : w.cell? ⟨cp.block, cp.off + 3, none⟩ = some (.int .i64 n) := z3
  have HC := hid (And.intro z6' (And.intro z3' hcS))
  have C1 := hid ((IH a e s ws _ _ _ h1 hfa T w M ad ep wv hm ha he).mono (fun _ _ h => evq_okR h))
  clear hm hc hI hsz hrow hwf he hfa ha h1 z6 z3 hcS
  go_enter Try.func32, Try.ntmps32
  go_wp2_with (go_at_call 32; (refine C1.out.mono ?_); clear C1; rintro e1 w1 ⟨wv1, pp, rfl, hm1, hs1, hr1⟩; (have z3 : w1.cell? ⟨cp.block, cp.off + 3, none⟩ = some (.int .i64 n) := hs1.cellR HC.out.2.2 HC.out.2.1); clear z0 z1 z2 z3' z4 z5 z6' x0 x1 x2 x3 hlM hlc; (have hlc := cell_lt z3); obtain ⟨x0, x1, x2, x3⟩ := hm1.blk.four; have hlM := hm1.blk.lt; have D1 := hid (And.intro hm1 (And.intro hs1 hr1)); clear hm1 hs1; ((rw [RAt] at hr1); (obtain ⟨⟨p, hpp, hSp, hb⟩, _⟩ := hr1); (injection hpp with hpp); subst hpp; (obtain ⟨u0, u1, u2, u3, u4, u5, u6⟩ := hb.seven); have hlp := hb.lt; clear hb hSp))
  go_quiet (fail)
  go_wp2_with (go_at_call 40; (refine (r21_stops (Now T w) M F s' ws' wv1 (-1) _ (D1.out.1.below (drewN_below _ _))).mono ?_); rintro e3 w3 hE; obtain ⟨pp3, rfl⟩ := hE.ptr; have R := hid hE; clear hE)
  go_ret
  exact R.out.hop (D1.out.2.1.below (drewN_below _ _))
set_option maxHeartbeats 8000000 in
set_option maxRecDepth 100000 in
theorem field_clo (F g : Nat) (IH : EvR F g) (T : Nat → Prop) (w : World) (M s : Nat) (ws : List Int) (wv : Value) (cp : Addr) (x y n : Int) (i : Bool) (ts : List Int) (a : Co) (e : En) (ep : Option Addr) (s' : Nat) (ws' : List Int) (hm : RSt w M F s 0 ws wv) (hc : CPt w (SfT M wv T) cp (.mk 8 x y n i ts [a])) (he : REAt w (SfT M wv T) e ep) (hfa : FoT a) (x2 self : Int) (b : Co) (e2 : En) (h1 : Ev.ev F g a e s ws = some (.ok (.clo x2 self b e2), s', ws')) : Calls Try.prog 32 #[.pointer (some ⟨M, 0, none⟩), .pointer (some cp), .pointer ep] w (EvQ T (.stop (-1)) F s' ws' M wv w) := by
  obtain ⟨x0, x1, x2, x3⟩ := hm.blk.four
  have hlM := hm.blk.lt
  obtain ⟨T0, tc, A, c, ⟨z0, z1, z2, z3, z4, z5, z6⟩, hI, hsz, hrow, hwf⟩ := hc.cells
  have hlc := cell_lt z0
  have hcS := hc.1
  obtain ⟨ad, rfl, ha⟩ := one_pt hrow
  have z6' : w.cell? ⟨cp.block, cp.off + 6, none⟩ = some (.slice (some ad) 1 c) := z6
  have z3' : w.cell? ⟨cp.block, cp.off + 3, none⟩ = some (.int .i64 n) := z3
  have HC := hid (And.intro z6' (And.intro z3' hcS))
  have C1 := hid ((IH a e s ws _ _ _ h1 hfa T w M ad ep wv hm ha he).mono (fun _ _ h => evq_okR h))
  clear hm hc hI hsz hrow hwf he hfa ha h1 z6 z3 hcS
  go_enter Try.func32, Try.ntmps32
  go_wp2_with (go_at_call 32; (refine C1.out.mono ?_); clear C1; rintro e1 w1 ⟨wv1, pp, rfl, hm1, hs1, hr1⟩; (have z3 : w1.cell? ⟨cp.block, cp.off + 3, none⟩ = some (.int .i64 n) := hs1.cellR HC.out.2.2 HC.out.2.1); clear z0 z1 z2 z3' z4 z5 z6' x0 x1 x2 x3 hlM hlc; (have hlc := cell_lt z3); obtain ⟨x0, x1, x2, x3⟩ := hm1.blk.four; have hlM := hm1.blk.lt; have D1 := hid (And.intro hm1 (And.intro hs1 hr1)); clear hm1 hs1; ((rw [RAt] at hr1); (obtain ⟨⟨p, bp, ep3, hpp, hSp, hb, _, _⟩, _⟩ := hr1); (injection hpp with hpp); subst hpp; (obtain ⟨u0, u1, u2, u3, u4, u5, u6⟩ := hb.seven); have hlp := hb.lt; clear hb hSp))
  go_quiet (fail)
  go_wp2_with (go_at_call 40; (refine (r21_stops (Now T w) M F s' ws' wv1 (-1) _ (D1.out.1.below (drewN_below _ _))).mono ?_); rintro e3 w3 hE; obtain ⟨pp3, rfl⟩ := hE.ptr; have R := hid hE; clear hE)
  go_ret
  exact R.out.hop (D1.out.2.1.below (drewN_below _ _))
set_option maxHeartbeats 8000000 in
set_option maxRecDepth 100000 in
theorem field_short (F g : Nat) (IH : EvR F g) (T : Nat → Prop) (w : World) (M s : Nat) (ws : List Int) (wv : Value) (cp : Addr) (x y n : Int) (i : Bool) (ts : List Int) (a : Co) (e : En) (ep : Option Addr) (s' : Nat) (ws' : List Int) (hm : RSt w M F s 0 ws wv) (hc : CPt w (SfT M wv T) cp (.mk 8 x y n i ts [a])) (he : REAt w (SfT M wv T) e ep) (hfa : FoT a) (t : Int) (us : List Va) (hn : us.length ≤ n.toNat) (hn0 : 0 ≤ n) (h1 : Ev.ev F g a e s ws = some (.ok (.con t us), s', ws')) : Calls Try.prog 32 #[.pointer (some ⟨M, 0, none⟩), .pointer (some cp), .pointer ep] w (EvQ T (.stop (-1)) F s' ws' M wv w) := by
  obtain ⟨x0, x1, x2, x3⟩ := hm.blk.four
  have hlM := hm.blk.lt
  obtain ⟨T0, tc, A, c, ⟨z0, z1, z2, z3, z4, z5, z6⟩, hI, hsz, hrow, hwf⟩ := hc.cells
  have hlc := cell_lt z0
  have hcS := hc.1
  obtain ⟨ad, rfl, ha⟩ := one_pt hrow
  have z6' : w.cell? ⟨cp.block, cp.off + 6, none⟩ = some (.slice (some ad) 1 c) := z6
  have z3' : w.cell? ⟨cp.block, cp.off + 3, none⟩ = some (.int .i64 n) := z3
  have HC := hid (And.intro z6' (And.intro z3' hcS))
  have C1 := hid ((IH a e s ws _ _ _ h1 hfa T w M ad ep wv hm ha he).mono (fun _ _ h => evq_okR h))
  have hge : (us.length : Int) ≤ n := by omega
  clear hm hc hI hsz hrow hwf he hfa ha h1 z6 z3 hcS hn hn0
  go_enter Try.func32, Try.ntmps32
  go_wp2_with (go_at_call 32; (refine C1.out.mono ?_); clear C1; rintro e1 w1 ⟨wv1, pp, rfl, hm1, hs1, hr1⟩; (have z3 : w1.cell? ⟨cp.block, cp.off + 3, none⟩ = some (.int .i64 n) := hs1.cellR HC.out.2.2 HC.out.2.1); clear z0 z1 z2 z3' z4 z5 z6' x0 x1 x2 x3 hlM hlc; (have hlc := cell_lt z3); obtain ⟨x0, x1, x2, x3⟩ := hm1.blk.four; have hlM := hm1.blk.lt; have D1 := hid (And.intro hm1 (And.intro hs1 hr1)); clear hm1 hs1; ((rw [RAt] at hr1); (obtain ⟨⟨p, A8, c8, hpp, hSp, hb, _⟩, _⟩ := hr1); (injection hpp with hpp); subst hpp; (obtain ⟨u0, u1, u2, u3, u4, u5, u6⟩ := hb.seven); have hlp := hb.lt; clear hb hSp))
  go_quiet (fail)
  go_wp2_with (go_at_call 40; (refine (r21_stops (Now T w) M F s' ws' wv1 (-1) _ (D1.out.1.below (drewN_below _ _))).mono ?_); rintro e3 w3 hE; obtain ⟨pp3, rfl⟩ := hE.ptr; have R := hid hE; clear hE)
  go_ret
  exact R.out.hop (D1.out.2.1.below (drewN_below _ _))
set_option maxHeartbeats 8000000 in
set_option maxRecDepth 100000 in
theorem field_okR (F g : Nat) (IH : EvR F g) (T : Nat → Prop) (w : World) (M s : Nat) (ws : List Int) (wv : Value) (cp : Addr) (x y n : Int) (i : Bool) (ts : List Int) (a : Co) (e : En) (ep : Option Addr) (s' : Nat) (ws' : List Int) (hm : RSt w M F s 0 ws wv) (hc : CPt w (SfT M wv T) cp (.mk 8 x y n i ts [a])) (he : REAt w (SfT M wv T) e ep) (hfa : FoT a) (t : Int) (us : List Va) (v : Va) (k : Nat) (hn : n = (k : Int)) (hv : us[k]? = some v) (h1 : Ev.ev F g a e s ws = some (.ok (.con t us), s', ws')) : Calls Try.prog 32 #[.pointer (some ⟨M, 0, none⟩), .pointer (some cp), .pointer ep] w (EvQ T (.ok v) F s' ws' M wv w) := by
  obtain ⟨x0, x1, x2, x3⟩ := hm.blk.four
  have hlM := hm.blk.lt
  obtain ⟨T0, tc, A, c, ⟨z0, z1, z2, z3, z4, z5, z6⟩, hI, hsz, hrow, hwf⟩ := hc.cells
  have hlc := cell_lt z0
  have hcS := hc.1
  obtain ⟨ad, rfl, ha⟩ := one_pt hrow
  have z6' : w.cell? ⟨cp.block, cp.off + 6, none⟩ = some (.slice (some ad) 1 c) := z6
  have z3' : w.cell? ⟨cp.block, cp.off + 3, none⟩ = some (.int .i64 n) := z3
  have HC := hid (And.intro z6' (And.intro z3' hcS))
  have C1 := hid ((IH a e s ws _ _ _ h1 hfa T w M ad ep wv hm ha he).mono (fun _ _ h => evq_okR h))
  have HV := hid hv
  have hk : k < us.length := (List.getElem?_eq_some_iff.1 hv).1
  subst hn
  have hk1 : (k : Int) < us.length := by omega
  have hk0 : (0 : Int) ≤ k := by omega
  clear hm hc hI hsz hrow hwf he hfa ha h1 z6 z3 hcS hv
  go_enter Try.func32, Try.ntmps32
  go_wp2_with (go_at_call 32; (refine C1.out.mono ?_); clear C1; rintro e1 w1 ⟨wv1, pp, rfl, hm1, hs1, hr1⟩; (have z3 : w1.cell? ⟨cp.block, cp.off + 3, none⟩ = some (.int .i64 k) := hs1.cellR HC.out.2.2 HC.out.2.1); clear z0 z1 z2 z3' z4 z5 z6' x0 x1 x2 x3 hlM hlc; (have hlc := cell_lt z3); obtain ⟨x0, x1, x2, x3⟩ := hm1.blk.four; have hlM := hm1.blk.lt; have D1 := hid (And.intro hm1 (And.intro hs1 hr1)); clear hm1 hs1; (rw [RAt] at hr1); (obtain ⟨⟨p, A8, c8, hpp, hSp, hb, hrw⟩, _⟩ := hr1); (injection hpp with hpp); subst hpp; (obtain ⟨u0, u1, u2, u3, u4, u5, u6⟩ := hb.seven); have hlp := hb.lt; (obtain ⟨ad8, v8, hA8, hS8, hc8, hv8⟩ := hrw.get hk); subst hA8; (rw [Nat.zero_add] at hc8); (obtain ⟨p8, h8, _⟩ := hv8.ptr); subst h8; have HV8 := hid hv8; (have hl8 := cell_lt hc8); clear hb hSp hrw hS8 hv8)
  go_quiet (fail)
  have HQ1 := hid (drewN_below w1 nq)
  go_wp2
  go_quiet (fail)
  go_wp2
  go_ret
  have hev : us[k]'hk = v := (List.getElem?_eq_some_iff.1 HV.out).2
  have hB := HQ1.out.trans ((drewN_below _ nq).mono HQ1.out.size)
  exact ⟨wv1, D1.out.1.below hB, D1.out.2.1.below hB, _, rfl, by rw [← hev]; exact HV8.out.up hB⟩
theorem r_field (F g : Nat) (IH : EvR F g) (T : Nat → Prop) (w : World) (M s : Nat) (ws : List Int) (wv : Value) (cp : Addr) (x y n : Int) (i : Bool) (ts : List Int) (a : Co) (e : En) (ep : Option Addr) (o : Out Va) (s' : Nat) (ws' : List Int) (hm : RSt w M F s 0 ws wv) (hc : CPt w (SfT M wv T) cp (.mk 8 x y n i ts [a])) (he : REAt w (SfT M wv T) e ep) (hfa : FoT a) (hE : ev F (g + 1) (.mk 8 x y n i ts [a]) e s ws = some (o, s', ws')) :
    Calls Try.prog 32 #[.pointer (some ⟨M, 0, none⟩), .pointer (some cp), .pointer ep] w (EvQ T o F s' ws' M wv w) := by
  rcases evR_field hE with ⟨j, h1, rfl⟩ | ⟨u, h1, hn, ⟨t, us, v, rfl, hv, rfl⟩ | ⟨hu, rfl⟩⟩
  · exact field_st F g IH T w M s ws wv cp x y n i ts a e ep s' ws' hm hc he hfa j h1
  · exact field_okR F g IH T w M s ws wv cp x y n i ts a e ep s' ws' hm hc he hfa t us v n.toNat (by omega) hv h1
  · cases u with
    | num m => exact field_num F g IH T w M s ws wv cp x y n i ts a e ep s' ws' hm hc he hfa m h1
    | clo x2 self b e2 => exact field_clo F g IH T w M s ws wv cp x y n i ts a e ep s' ws' hm hc he hfa x2 self b e2 h1
    | con t us => exact field_short F g IH T w M s ws wv cp x y n i ts a e ep s' ws' hm hc he hfa t us (hu t us rfl) hn h1
end Go.Proofs.Ytohdaclbgedeiaa
