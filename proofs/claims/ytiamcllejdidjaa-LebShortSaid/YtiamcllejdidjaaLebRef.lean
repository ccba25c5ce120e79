/-
  THE WALKS OF ref01: asked, groups, U.
-/
import Derived.Test.YtiamcllejdidjaaLebU
namespace Go.Proofs.Ytiamcllejdidjaa
open Go.ChangeShapes Go.WideShapes Go.ChangeAt Go.RowKit

theorem ref01_asked (s : ByteArray) (at_ bits : Int) (_hs : s.size ≤ 281474976710656) (w : World) :
    Calls Try.prog 36 #[.string s, .int .i64 at_, .int .i64 bits] w fun e w' => e = .returned (.bool (!decide (badAsk s at_ bits))) ∧ w = w' := by
  have a1 : (bits == 32) = true ∧ bits = 32 ∨ (bits == 32) = false ∧ bits ≠ 32 ∧ ((bits == 64) = true ∧ bits = 64 ∨ (bits == 64) = false ∧ bits ≠ 64) := by
    by_cases h1 : bits = 32 <;> by_cases h2 : bits = 64 <;> simp [h1, h2]
  have hcs : at_ < 0 ∨ 0 ≤ at_ := by omega
  rcases a1 with ⟨a1, b1⟩ | ⟨a1, b1, ⟨a2, b2⟩ | ⟨a2, b2⟩⟩
  all_goals
    have B1 := hid b1
    clear b1
    try (have B2 := hid b2; clear b2)
    rcases hcs with hc | hc
    all_goals
      go_enter Try.func36, Try.ntmps36
      go_wp2
      go_ret
      refine ⟨ret_bool ?_, rfl⟩
      have b1 := B1.out
      try have b2 := B2.out
      rw [Bool.eq_iff_iff, Bool.not_eq_true', decide_eq_false_iff_not]
      unfold badAsk
      first | (simp; omega) | (simp; done) | omega

set_option maxRecDepth 100000 in
theorem rgr_32 (s : ByteArray) (p : Nat) (hs : s.size ≤ 281474976710656) (hp : p ≤ s.size) (w : World) :
    Calls Try.prog 37 #[.string s, .int .i64 p, .int .i64 32] w fun e w' => e = .returned (.int .i64 (grpN s p 32)) ∧ w = w' := by
  have hg := hid (show grpN s p 32 = grpFrom s p 5 0 by unfold grpN; rw [Int.toNat_natCast]; rfl)
  go_enter Try.func37, Try.ntmps37
  go_wp2
  go_loopg [8] 5 (fun k x wr => ∃ m : Nat, m + k = 5 ∧ x = .int .i64 m ∧ w = wr ∧ Hid (grpFrom s p 5 0 = grpFrom s p 5 m))
  case atStart => exact ⟨0, by omega, rfl, rfl, hid rfl⟩
  case round =>
    obtain ⟨m, hm, rfl, rfl, hgr⟩ := hrel
    have Hm := hid hm
    have hm10 : m ≤ 5 := by omega
    clear hm
    by_cases h3 : m < 5
    · by_cases hlt : p + m < s.size
      · have e := bt_at s (p + m) hlt
        by_cases h4 : bt s (p + m) < 128
        · go_wp2
          go_ret
          exact ⟨ret_int (by rw [hg.out, hgr.out, grp_hit s p 5 m ⟨h3, hlt⟩ h4]; omega), rfl⟩
        · go_wp2
          have hgk := Hm.out
          go_roundg (gk - 1)
          case rel => exact ⟨m + 1, by omega, by go_num, rfl, hid (by rw [hgr.out, grp_miss s p 5 m ⟨h3, hlt⟩ h4])⟩
          case measure => omega
      · go_wp2
        go_ret
        exact ⟨ret_int (by rw [hg.out, hgr.out, grp_end s p 5 m (by omega)]; rfl), rfl⟩
    · go_wp2
      go_ret
      exact ⟨ret_int (by rw [hg.out, hgr.out, grp_end s p 5 m (by omega)]; rfl), rfl⟩
set_option maxRecDepth 100000 in
theorem rgr_64 (s : ByteArray) (p : Nat) (hs : s.size ≤ 281474976710656) (hp : p ≤ s.size) (w : World) :
    Calls Try.prog 37 #[.string s, .int .i64 p, .int .i64 64] w fun e w' => e = .returned (.int .i64 (grpN s p 64)) ∧ w = w' := by
  have hg := hid (show grpN s p 64 = grpFrom s p 10 0 by unfold grpN; rw [Int.toNat_natCast]; rfl)
  go_enter Try.func37, Try.ntmps37
  go_wp2
  go_loopg [8] 10 (fun k x wr => ∃ m : Nat, m + k = 10 ∧ x = .int .i64 m ∧ w = wr ∧ Hid (grpFrom s p 10 0 = grpFrom s p 10 m))
  case atStart => exact ⟨0, by omega, rfl, rfl, hid rfl⟩
  case round =>
    obtain ⟨m, hm, rfl, rfl, hgr⟩ := hrel
    have Hm := hid hm
    have hm10 : m ≤ 10 := by omega
    clear hm
    by_cases h3 : m < 10
    · by_cases hlt : p + m < s.size
      · have e := bt_at s (p + m) hlt
        by_cases h4 : bt s (p + m) < 128
        · go_wp2
          go_ret
          exact ⟨ret_int (by rw [hg.out, hgr.out, grp_hit s p 10 m ⟨h3, hlt⟩ h4]; omega), rfl⟩
        · go_wp2
          have hgk := Hm.out
          go_roundg (gk - 1)
          case rel => exact ⟨m + 1, by omega, by go_num, rfl, hid (by rw [hgr.out, grp_miss s p 10 m ⟨h3, hlt⟩ h4])⟩
          case measure => omega
      · go_wp2
        go_ret
        exact ⟨ret_int (by rw [hg.out, hgr.out, grp_end s p 10 m (by omega)]; rfl), rfl⟩
    · go_wp2
      go_ret
      exact ⟨ret_int (by rw [hg.out, hgr.out, grp_end s p 10 m (by omega)]; rfl), rfl⟩
theorem ref01_groups (s : ByteArray) (p : Nat) (bits : Int) (hs : s.size ≤ 281474976710656) (hp : p ≤ s.size) (hb : bits = 32 ∨ bits = 64) (w : World) :
    Calls Try.prog 37 #[.string s, .int .i64 p, .int .i64 bits] w fun e w' => e = .returned (.int .i64 (grpN s p bits)) ∧ w = w' := by
  rcases hb with rfl | rfl
  · exact rgr_32 s p hs hp w
  · exact rgr_64 s p hs hp w

/-- One group more ahead of those that are known: without sign. -/
theorem shl_or (n c : Nat) (hn : 128 * n < 18446744073709551616) (hc : c < 256) :
    bits .or .u64 (IntKind.u64.wrap ((n : Int) * 128)) (IntKind.u64.wrap (bits .and .u8 (c : Int) 127)) = ((c % 128 + 128 * n : Nat) : Int) := by
  have e0 : bits .and .u8 (c : Int) 127 = ((c % 128 : Nat) : Int) := by
    have h2 := and_127 c
    rw [show (c : Int) % 256 = c from by omega] at h2
    rw [h2]; omega
  have e1 : IntKind.u64.wrap (((c % 128 : Nat) : Int)) = ((c % 128 : Nat) : Int) := by rw [IntKind.wrap_u64]; omega
  have e2 : IntKind.u64.wrap ((n : Int) * 128) = ((128 * n : Nat) : Int) := by rw [IntKind.wrap_u64]; omega
  rw [e0, e1, e2, u64_or_nat _ _ hn (by omega)]
  have h3 := (Nat.two_pow_add_eq_or_of_lt (i := 7) (b := c % 128) (by omega) n).symm
  rw [show (2 : Nat) ^ 7 = 128 from rfl] at h3
  rw [h3, Nat.add_comm]

/-- How far the loop of the reference has come: i, and what it has made of the groups behind i. -/
def Down (_s : ByteArray) (_p k : Nat) (f : Nat → Nat → Int) (kd : IntKind) (g : Nat) (x y : Value) : Prop :=
  (∃ i d : Nat, i + 1 + d = k ∧ g = i + 1 ∧ y = .int .i64 i ∧ x = .int kd (f d (i + 1))) ∨ (g = 0 ∧ y = .int .i64 (-1) ∧ x = .int kd (f k 0))
theorem Down.start (s : ByteArray) (p k : Nat) (f : Nat → Nat → Int) (kd : IntKind) (hk : 0 < k) (x : Int) (hx : f 0 k = x) : Down s p k f kd k (.int kd x) (.int .i64 ((k : Int) - 1)) :=
  .inl ⟨k - 1, 0, by omega, by omega, by congr 1; omega, by rw [show k - 1 + 1 = k from by omega, hx]⟩
theorem Down.next (s : ByteArray) (p k : Nat) (f : Nat → Nat → Int) (kd : IntKind) (i d : Nat) (h : i + 1 + d = k) (x : Int) (hx : f (d + 1) i = x) : Down s p k f kd i (.int kd x) (.int .i64 ((i : Int) - 1)) := by
  by_cases hi : i = 0
  · subst hi
    right
    refine ⟨rfl, by simp, ?_⟩
    rw [← hx, show d + 1 = k from by omega]
  · exact .inl ⟨i - 1, d + 1, by omega, by omega, by congr 1; omega, by rw [show i - 1 + 1 = i from by omega, hx]⟩

theorem hi_small (s : ByteArray) (p k i d : Nat) (h : i + 1 + d = k) (hv : valAt s p k < 18446744073709551616) : 128 * hiV s p d (i + 1) < 18446744073709551616 := by
  have h1 := hi_le s p d (i + 1)
  rw [h] at h1
  have h2 : 128 * hiV s p d (i + 1) ≤ 128 ^ (i + 1) * hiV s p d (i + 1) := Nat.mul_le_mul_right _ (by rw [Nat.pow_succ]; have := Nat.one_le_two_pow (n := 7 * i); rw [pow_128]; omega)
  omega

set_option maxRecDepth 100000 in
theorem rU_5 (s : ByteArray) (p : Nat) (hs : s.size ≤ 281474976710656) (hp : p + 5 ≤ s.size) (hg : grpN s p 32 = 5) (hv : valAt s p 5 < 18446744073709551616) (hl : bt s (p + 4) ≤ 15) (w : World) :
    Calls Try.prog 27 #[.string s, .int .i64 p, .int .i64 32] w fun e w' => e = .returned (.tuple #[.int .u64 (valAt s p 5), .int .i64 (p + 5 : Nat), .int .i64 0]) ∧ w = w' := by
  have Hp := hid hp
  have Hv := hid hv
  have Hg := hid hg
  have hbad : decide (badAsk s p 32) = false := by rw [decide_eq_false_iff_not]; unfold badAsk; omega
  clear hg hv
  have e4 := bt_at s (p + 4) (by omega)
  go_enter Try.func27, Try.ntmps27
  go_wp2_with (first | (go_at_call 36; go_must (refine (ref01_asked _ _ _ hs _).mono ?_); rintro e w1 ⟨rfl, rfl⟩) | (go_at_call 37; go_must (refine (ref01_groups s p _ hs (by have := Hp.out; omega) (by first | exact Or.inl rfl | exact Or.inr rfl | exact Hb.out) _).mono ?_); rw [Hg.out]; rintro e w1 ⟨rfl, rfl⟩))
  go_loopg [10, 11] 5 (fun g x y wr => Hid (Down s p 5 (fun d j => hiV s p d j) .u64 g x y) ∧ w = wr)
  case atStart => exact ⟨hid (Down.start s p 5 _ _ (by omega) 0 rfl), rfl⟩
  case round =>
    obtain ⟨hd, rfl⟩ := hrel
    rcases hd.out with ⟨i, d, hi, hgi, rfl, rfl⟩ | ⟨hgi, rfl, rfl⟩
    · have hlt : p + i < s.size := by have := Hp.out; omega
      have e := bt_at s (p + i) hlt
      have HI := hid (And.intro hi hgi)
      clear hi hgi hd
      go_wp2
      have hso := shl_or (hiV s p d (i + 1)) (bt s (p + i)) (hi_small s p 5 i d HI.out.1 Hv.out) (bt_lt _ _)
      rw [hso]
      go_roundg i
      case rel => exact ⟨hid (Down.next s p 5 _ _ i d HI.out.1 _ rfl), rfl⟩
      case measure => have := HI.out.2; omega
    · go_wp2
      refine bodyPost_ret (results_tmp3 rfl _ _ _) rfl ?_
      refine ⟨?_, rfl⟩
      rw [hi_zero]
      rfl
set_option maxRecDepth 100000 in
theorem rU_10 (s : ByteArray) (p : Nat) (hs : s.size ≤ 281474976710656) (hp : p + 10 ≤ s.size) (hg : grpN s p 64 = 10) (hv : valAt s p 10 < 18446744073709551616) (hl : bt s (p + 9) ≤ 1) (w : World) :
    Calls Try.prog 27 #[.string s, .int .i64 p, .int .i64 64] w fun e w' => e = .returned (.tuple #[.int .u64 (valAt s p 10), .int .i64 (p + 10 : Nat), .int .i64 0]) ∧ w = w' := by
  have Hp := hid hp
  have Hv := hid hv
  have Hg := hid hg
  have hbad : decide (badAsk s p 64) = false := by rw [decide_eq_false_iff_not]; unfold badAsk; omega
  clear hg hv
  have e4 := bt_at s (p + 9) (by omega)
  go_enter Try.func27, Try.ntmps27
  go_wp2_with (first | (go_at_call 36; go_must (refine (ref01_asked _ _ _ hs _).mono ?_); rintro e w1 ⟨rfl, rfl⟩) | (go_at_call 37; go_must (refine (ref01_groups s p _ hs (by have := Hp.out; omega) (by first | exact Or.inl rfl | exact Or.inr rfl | exact Hb.out) _).mono ?_); rw [Hg.out]; rintro e w1 ⟨rfl, rfl⟩))
  go_loopg [10, 11] 10 (fun g x y wr => Hid (Down s p 10 (fun d j => hiV s p d j) .u64 g x y) ∧ w = wr)
  case atStart => exact ⟨hid (Down.start s p 10 _ _ (by omega) 0 rfl), rfl⟩
  case round =>
    obtain ⟨hd, rfl⟩ := hrel
    rcases hd.out with ⟨i, d, hi, hgi, rfl, rfl⟩ | ⟨hgi, rfl, rfl⟩
    · have hlt : p + i < s.size := by have := Hp.out; omega
      have e := bt_at s (p + i) hlt
      have HI := hid (And.intro hi hgi)
      clear hi hgi hd
      go_wp2
      have hso := shl_or (hiV s p d (i + 1)) (bt s (p + i)) (hi_small s p 10 i d HI.out.1 Hv.out) (bt_lt _ _)
      rw [hso]
      go_roundg i
      case rel => exact ⟨hid (Down.next s p 10 _ _ i d HI.out.1 _ rfl), rfl⟩
      case measure => have := HI.out.2; omega
    · go_wp2
      refine bodyPost_ret (results_tmp3 rfl _ _ _) rfl ?_
      refine ⟨?_, rfl⟩
      rw [hi_zero]
      rfl
set_option maxRecDepth 100000 in
theorem rU_k (s : ByteArray) (p : Nat) (bits : Int) (k : Nat) (hs : s.size ≤ 281474976710656) (hp : p + k ≤ s.size) (hk : 0 < k) (h10 : k < 10) (hb : bits = 32 ∨ bits = 64) (h5 : (((k : Int) == 5) = false ∨ (bits == 32) = false)) (hg : grpN s p bits = k) (hv : valAt s p k < 18446744073709551616) (w : World) :
    Calls Try.prog 27 #[.string s, .int .i64 p, .int .i64 bits] w fun e w' => e = .returned (.tuple #[.int .u64 (valAt s p k), .int .i64 (p + k : Nat), .int .i64 0]) ∧ w = w' := by
  have z1 : ((k : Int) == 0) = false := by simp; omega
  have z2 : ((k : Int) == 10) = false := by simp; omega
  have Hp := hid hp
  have Hv := hid hv
  have Hg := hid hg
  have hbad : decide (badAsk s p bits) = false := by rw [decide_eq_false_iff_not]; unfold badAsk; omega
  clear hg hv
  have Hb := hid hb
  clear hb
  rcases h5 with h5 | h5
  · go_enter Try.func27, Try.ntmps27
    go_wp2_with (first | (go_at_call 36; go_must (refine (ref01_asked _ _ _ hs _).mono ?_); rintro e w1 ⟨rfl, rfl⟩) | (go_at_call 37; go_must (refine (ref01_groups s p _ hs (by have := Hp.out; omega) (by first | exact Or.inl rfl | exact Or.inr rfl | exact Hb.out) _).mono ?_); rw [Hg.out]; rintro e w1 ⟨rfl, rfl⟩))
    go_loopg [10, 11] k (fun g x y wr => Hid (Down s p k (fun d j => hiV s p d j) .u64 g x y) ∧ w = wr)
    case atStart => exact ⟨hid (Down.start s p k _ _ (by omega) 0 rfl), rfl⟩
    case round =>
      obtain ⟨hd, rfl⟩ := hrel
      rcases hd.out with ⟨i, d, hi, hgi, rfl, rfl⟩ | ⟨hgi, rfl, rfl⟩
      · have hlt : p + i < s.size := by have := Hp.out; omega
        have e := bt_at s (p + i) hlt
        have HI := hid (And.intro hi hgi)
        clear hi hgi hd
        go_wp2
        have hso := shl_or (hiV s p d (i + 1)) (bt s (p + i)) (hi_small s p k i d HI.out.1 Hv.out) (bt_lt _ _)
        rw [hso]
        go_roundg i
        case rel => exact ⟨hid (Down.next s p k _ _ i d HI.out.1 _ rfl), rfl⟩
        case measure => have := HI.out.2; omega
      · go_wp2
        refine bodyPost_ret (results_tmp3 rfl _ _ _) rfl ?_
        refine ⟨?_, rfl⟩
        rw [hi_zero]
        rfl
  · cases z3 : ((k : Int) == 5)
    · go_enter Try.func27, Try.ntmps27
      go_wp2_with (first | (go_at_call 36; go_must (refine (ref01_asked _ _ _ hs _).mono ?_); rintro e w1 ⟨rfl, rfl⟩) | (go_at_call 37; go_must (refine (ref01_groups s p _ hs (by have := Hp.out; omega) (by first | exact Or.inl rfl | exact Or.inr rfl | exact Hb.out) _).mono ?_); rw [Hg.out]; rintro e w1 ⟨rfl, rfl⟩))
      go_loopg [10, 11] k (fun g x y wr => Hid (Down s p k (fun d j => hiV s p d j) .u64 g x y) ∧ w = wr)
      case atStart => exact ⟨hid (Down.start s p k _ _ (by omega) 0 rfl), rfl⟩
      case round =>
        obtain ⟨hd, rfl⟩ := hrel
        rcases hd.out with ⟨i, d, hi, hgi, rfl, rfl⟩ | ⟨hgi, rfl, rfl⟩
        · have hlt : p + i < s.size := by have := Hp.out; omega
          have e := bt_at s (p + i) hlt
          have HI := hid (And.intro hi hgi)
          clear hi hgi hd
          go_wp2
          have hso := shl_or (hiV s p d (i + 1)) (bt s (p + i)) (hi_small s p k i d HI.out.1 Hv.out) (bt_lt _ _)
          rw [hso]
          go_roundg i
          case rel => exact ⟨hid (Down.next s p k _ _ i d HI.out.1 _ rfl), rfl⟩
          case measure => have := HI.out.2; omega
        · go_wp2
          refine bodyPost_ret (results_tmp3 rfl _ _ _) rfl ?_
          refine ⟨?_, rfl⟩
          rw [hi_zero]
          rfl
    · go_enter Try.func27, Try.ntmps27
      go_wp2_with (first | (go_at_call 36; go_must (refine (ref01_asked _ _ _ hs _).mono ?_); rintro e w1 ⟨rfl, rfl⟩) | (go_at_call 37; go_must (refine (ref01_groups s p _ hs (by have := Hp.out; omega) (by first | exact Or.inl rfl | exact Or.inr rfl | exact Hb.out) _).mono ?_); rw [Hg.out]; rintro e w1 ⟨rfl, rfl⟩))
      go_loopg [10, 11] k (fun g x y wr => Hid (Down s p k (fun d j => hiV s p d j) .u64 g x y) ∧ w = wr)
      case atStart => exact ⟨hid (Down.start s p k _ _ (by omega) 0 rfl), rfl⟩
      case round =>
        obtain ⟨hd, rfl⟩ := hrel
        rcases hd.out with ⟨i, d, hi, hgi, rfl, rfl⟩ | ⟨hgi, rfl, rfl⟩
        · have hlt : p + i < s.size := by have := Hp.out; omega
          have e := bt_at s (p + i) hlt
          have HI := hid (And.intro hi hgi)
          clear hi hgi hd
          go_wp2
          have hso := shl_or (hiV s p d (i + 1)) (bt s (p + i)) (hi_small s p k i d HI.out.1 Hv.out) (bt_lt _ _)
          rw [hso]
          go_roundg i
          case rel => exact ⟨hid (Down.next s p k _ _ i d HI.out.1 _ rfl), rfl⟩
          case measure => have := HI.out.2; omega
        · go_wp2
          refine bodyPost_ret (results_tmp3 rfl _ _ _) rfl ?_
          refine ⟨?_, rfl⟩
          rw [hi_zero]
          rfl

/-- The reference refuses. -/
theorem rU_bad (s : ByteArray) (at_ bits : Int) (hs : s.size ≤ 281474976710656) (h : badAsk s at_ bits) (w : World) :
    Calls Try.prog 27 #[.string s, .int .i64 at_, .int .i64 bits] w fun e w' => e = .returned (.tuple #[.int .u64 0, .int .i64 0, .int .i64 1]) ∧ w = w' := by
  have hbad : decide (badAsk s at_ bits) = true := by simpa using h
  clear h
  go_enter Try.func27, Try.ntmps27
  go_wp2_with (first | (go_at_call 36; go_must (refine (ref01_asked _ _ _ hs _).mono ?_); rintro e w1 ⟨rfl, rfl⟩) | (go_at_call 37; go_must (refine (ref01_groups s p _ hs (by have := Hp.out; omega) (by first | exact Or.inl rfl | exact Or.inr rfl | exact Hb.out) _).mono ?_); rw [Hg.out]; rintro e w1 ⟨rfl, rfl⟩))
  refine bodyPost_ret (results_tmp3 rfl _ _ _) rfl ?_
  exact ⟨rfl, rfl⟩
theorem rU_0 (s : ByteArray) (p : Nat) (bits : Int) (hs : s.size ≤ 281474976710656) (hp : p ≤ s.size) (hb : bits = 32 ∨ bits = 64) (hg : grpN s p bits = 0) (w : World) :
    Calls Try.prog 27 #[.string s, .int .i64 p, .int .i64 bits] w fun e w' => e = .returned (.tuple #[.int .u64 0, .int .i64 0, .int .i64 10]) ∧ w = w' := by
  have Hp := hid hp
  have Hg := hid hg
  have hbad : decide (badAsk s p bits) = false := by rw [decide_eq_false_iff_not]; unfold badAsk; omega
  have Hb := hid hb
  clear hg hb
  go_enter Try.func27, Try.ntmps27
  go_wp2_with (first | (go_at_call 36; go_must (refine (ref01_asked _ _ _ hs _).mono ?_); rintro e w1 ⟨rfl, rfl⟩) | (go_at_call 37; go_must (refine (ref01_groups s p _ hs (by have := Hp.out; omega) (by first | exact Or.inl rfl | exact Or.inr rfl | exact Hb.out) _).mono ?_); rw [Hg.out]; rintro e w1 ⟨rfl, rfl⟩))
  refine bodyPost_ret (results_tmp3 rfl _ _ _) rfl ?_
  exact ⟨rfl, rfl⟩
theorem rU_o5 (s : ByteArray) (p : Nat) (hs : s.size ≤ 281474976710656) (hp : p + 5 ≤ s.size) (hg : grpN s p 32 = 5) (hl : 15 < bt s (p + 4)) (w : World) :
    Calls Try.prog 27 #[.string s, .int .i64 p, .int .i64 32] w fun e w' => e = .returned (.tuple #[.int .u64 0, .int .i64 0, .int .i64 10]) ∧ w = w' := by
  have hv : True := trivial
  have Hp := hid hp
  have Hv := hid hv
  have Hg := hid hg
  have hbad : decide (badAsk s p 32) = false := by rw [decide_eq_false_iff_not]; unfold badAsk; omega
  clear hg hv
  have e4 := bt_at s (p + 4) (by omega)
  go_enter Try.func27, Try.ntmps27
  go_wp2_with (first | (go_at_call 36; go_must (refine (ref01_asked _ _ _ hs _).mono ?_); rintro e w1 ⟨rfl, rfl⟩) | (go_at_call 37; go_must (refine (ref01_groups s p _ hs (by have := Hp.out; omega) (by first | exact Or.inl rfl | exact Or.inr rfl | exact Hb.out) _).mono ?_); rw [Hg.out]; rintro e w1 ⟨rfl, rfl⟩))
  refine bodyPost_ret (results_tmp3 rfl _ _ _) rfl ?_
  exact ⟨rfl, rfl⟩
theorem rU_o10 (s : ByteArray) (p : Nat) (hs : s.size ≤ 281474976710656) (hp : p + 10 ≤ s.size) (hg : grpN s p 64 = 10) (hl : 1 < bt s (p + 9)) (w : World) :
    Calls Try.prog 27 #[.string s, .int .i64 p, .int .i64 64] w fun e w' => e = .returned (.tuple #[.int .u64 0, .int .i64 0, .int .i64 10]) ∧ w = w' := by
  have hv : True := trivial
  have Hp := hid hp
  have Hv := hid hv
  have Hg := hid hg
  have hbad : decide (badAsk s p 64) = false := by rw [decide_eq_false_iff_not]; unfold badAsk; omega
  clear hg hv
  have e4 := bt_at s (p + 9) (by omega)
  go_enter Try.func27, Try.ntmps27
  go_wp2_with (first | (go_at_call 36; go_must (refine (ref01_asked _ _ _ hs _).mono ?_); rintro e w1 ⟨rfl, rfl⟩) | (go_at_call 37; go_must (refine (ref01_groups s p _ hs (by have := Hp.out; omega) (by first | exact Or.inl rfl | exact Or.inr rfl | exact Hb.out) _).mono ?_); rw [Hg.out]; rintro e w1 ⟨rfl, rfl⟩))
  refine bodyPost_ret (results_tmp3 rfl _ _ _) rfl ?_
  exact ⟨rfl, rfl⟩
end Go.Proofs.Ytiamcllejdidjaa
