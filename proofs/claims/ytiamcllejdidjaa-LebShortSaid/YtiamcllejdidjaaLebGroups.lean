/-
  THE WALK OF leb.groups: the groups at a place.
-/
import Derived.Test.YtiamcllejdidjaaLebNext
namespace Go.Proofs.Ytiamcllejdidjaa
open Go.ChangeShapes Go.WideShapes Go.ChangeAt Go.RowKit

/-- What leb.groups returns. -/
def groupsV (s : ByteArray) (at_ bits : Int) : Value :=
  if badAsk s at_ bits then .tuple #[.int .u64 0, .int .i64 0, .int .u8 0, .int .i64 0, .int .i64 1]
  else if grpN s at_ bits = 0 then .tuple #[.int .u64 0, .int .i64 0, .int .u8 0, .int .i64 0, .int .i64 10]
  else .tuple #[.int .u64 (v64 s at_.toNat (grpN s at_ bits)), .int .i64 (7 * grpN s at_ bits : Nat),
    .int .u8 (bt s (at_.toNat + (grpN s at_ bits - 1))), .int .i64 (at_.toNat + grpN s at_ bits : Nat), .int .i64 0]

theorem groupsV_is (s : ByteArray) (p : Nat) (bits : Int) (most : Nat) (hp : p ≤ s.size) (hb : bits = 32 ∨ bits = 64) (hm : ((bits + 6) / 7).toNat = most) :
    groupsV s p bits = if grpFrom s p most 0 = 0 then .tuple #[.int .u64 0, .int .i64 0, .int .u8 0, .int .i64 0, .int .i64 10]
      else .tuple #[.int .u64 (v64 s p (grpFrom s p most 0)), .int .i64 (7 * grpFrom s p most 0 : Nat),
        .int .u8 (bt s (p + (grpFrom s p most 0 - 1))), .int .i64 (p + grpFrom s p most 0 : Nat), .int .i64 0] := by
  subst hm
  have h : ¬ ((bits ≠ 32 ∧ bits ≠ 64) ∨ (p : Int) < 0 ∨ (s.size : Int) < p) := by omega
  unfold groupsV grpN
  rw [if_neg (show ¬ badAsk s p bits from h), Int.toNat_natCast]

theorem groups_bad (s : ByteArray) (at_ bits : Int) (_hs : s.size ≤ 281474976710656) (hbad : (bits ≠ 32 ∧ bits ≠ 64) ∨ at_ < 0 ∨ (s.size : Int) < at_) (w : World) :
    Calls Try.prog 35 #[.string s, .int .i64 at_, .int .i64 bits] w fun e w' => e = .returned (.tuple #[.int .u64 0, .int .i64 0, .int .u8 0, .int .i64 0, .int .i64 1]) ∧ Below w.heap.size w w' := by
  have hc : ((bits != 32) = true ∧ (bits != 64) = true) ∨ ((bits = 32 ∨ bits = 64) ∧ at_ < 0) ∨ ((bits = 32 ∨ bits = 64) ∧ ¬ at_ < 0 ∧ (s.size : Int) < at_) := by
    simp only [bne_iff_ne]; omega
  clear hbad
  rcases hc with ⟨h1, h2⟩ | ⟨rfl | rfl, h1⟩ | ⟨rfl | rfl, h1, h2⟩
  all_goals
    go_enter Try.func35, Try.ntmps35
    go_wp2
    go_returns
    exact ⟨rfl, by go_grown⟩

set_option maxHeartbeats 1600000 in
set_option maxRecDepth 100000 in
theorem groups_32 (s : ByteArray) (p : Nat) (hs : s.size ≤ 281474976710656) (hp : p ≤ s.size) (w : World) :
    Calls Try.prog 35 #[.string s, .int .i64 p, .int .i64 32] w fun e w' => e = .returned (groupsV s p 32) ∧ Below w.heap.size w w' := by
  have hs' := hid hs
  have hv := hid (groupsV_is s p 32 5 hp (by omega) (by decide))
  have q1 : decide ((p : Int) < 0) = false := by simp
  have q2 : decide (s.size < p) = false := by simpa using hp
  go_enter Try.func35, Try.ntmps35
  go_wp2
  go_loopg [33] 5 (fun k x wr => ∃ (m : Nat) (last : Int), m + k = 5 ∧ Hid (GS w wr w.heap.size s (p + m : Nat) (v64 s p m) m last 5) ∧ Hid (grpFrom s p 5 0 = grpFrom s p 5 m))
  case atStart =>
    refine ⟨0, 0, by omega, hid ⟨by go_grown, ?_, ?_, ?_, ?_, ?_, ?_⟩, hid rfl⟩
    all_goals (repeat (first | exact Blk.new' (by simp) _ _ | refine Blk.alloc ?_ _))
  case round =>
    obtain ⟨m, last, hm, hG, hgr⟩ := hrel
    have Hm := hid hm
    have hm10 : m ≤ 5 := by omega
    clear hm
    by_cases hlt : p + m < s.size ∧ m < 5
    · obtain ⟨hlt, h3⟩ := hlt
      have h2 := hid (show (m : Int) ≠ 5 by omega)
      by_cases h4 : bt s (p + m) < 128
      · go_wp2_with (go_at_call 40; go_must (refine (next_yes hG.out hs'.out hlt h2.out (by omega)).mono ?_); rintro e w1 ⟨rfl, hg⟩; have c2 := hg.bat.cell0; have c3 := hg.bn.cell0; have c4 := hg.bmany.cell0; have c5 := hg.blast.cell0; have f2 := hg.bn.frozen 0; have f3 := hg.bmany.frozen 0; have f4 := hg.blast.frozen 0; have hG1 := hid hg; clear hg)
        go_region
        go_wp2
        refine bodyPost_ret (v := .tuple #[.int .u64 (v64 s p (m + 1)), .int .i64 (7 * ((m : Int) + 1)), .int .u8 (bt s (p + m)), .int .i64 (p + m + 1 : Nat), .int .i64 0]) (by simp [results, Try.results35, go_sem, c3, c4, c5]) rfl ?_
        have hk : grpFrom s p 5 0 = m + 1 := by rw [hgr.out, grp_hit s p 5 m ⟨h3, hlt⟩ h4]
        refine ⟨?_, by have := hG1.out.below; go_grown⟩
        rw [hv.out, hk, if_neg (by omega), Nat.add_sub_cancel]
        rw [show ((7 * (m + 1) : Nat) : Int) = 7 * ((m : Int) + 1) from by omega]
        rfl
      · go_wp2_with (go_at_call 40; go_must (refine (next_yes hG.out hs'.out hlt h2.out (by omega)).mono ?_); rintro e w1 ⟨rfl, hg⟩; have c2 := hg.bat.cell0; have c3 := hg.bn.cell0; have c4 := hg.bmany.cell0; have c5 := hg.blast.cell0; have f2 := hg.bn.frozen 0; have f3 := hg.bmany.frozen 0; have f4 := hg.blast.frozen 0; have hG1 := hid hg; clear hg)
        have hgk := Hm.out
        go_roundg (gk - 1)
        case rel => exact ⟨m + 1, bt s (p + m), by omega, hG1, hid (by rw [hgr.out, grp_miss s p 5 m ⟨h3, hlt⟩ h4])⟩
        case measure => omega
    · have h2 := hid (show ((s.size : Int) ≤ (p + m : Nat) ∨ (m : Int) = 5) by omega)
      clear hlt
      go_wp2_with (go_at_call 40; go_must (refine (next_no hG.out hs'.out h2.out).mono ?_); rintro e w1 ⟨rfl, rfl⟩; have c3 := hG.out.bn.cell0; have c4 := hG.out.bmany.cell0; have c5 := hG.out.blast.cell0; have f2 := hG.out.bn.frozen 0; have f3 := hG.out.bmany.frozen 0; have f4 := hG.out.blast.frozen 0)
      refine bodyPost_ret (v := .tuple #[.int .u64 0, .int .i64 0, .int .u8 0, .int .i64 0, .int .i64 10]) (by simp [results, Try.results35, go_sem, c3, c4, c5]) rfl ?_
      refine ⟨?_, by have := hG.out.below; go_grown⟩
      have hk : grpFrom s p 5 0 = 0 := by have := h2.out; rw [hgr.out, grp_end s p 5 m (by omega)]
      rw [hv.out, hk, if_pos rfl]

set_option maxHeartbeats 1600000 in
set_option maxRecDepth 100000 in
theorem groups_64 (s : ByteArray) (p : Nat) (hs : s.size ≤ 281474976710656) (hp : p ≤ s.size) (w : World) :
    Calls Try.prog 35 #[.string s, .int .i64 p, .int .i64 64] w fun e w' => e = .returned (groupsV s p 64) ∧ Below w.heap.size w w' := by
  have hs' := hid hs
  have hv := hid (groupsV_is s p 64 10 hp (by omega) (by decide))
  have q1 : decide ((p : Int) < 0) = false := by simp
  have q2 : decide (s.size < p) = false := by simpa using hp
  go_enter Try.func35, Try.ntmps35
  go_wp2
  go_loopg [33] 10 (fun k x wr => ∃ (m : Nat) (last : Int), m + k = 10 ∧ Hid (GS w wr w.heap.size s (p + m : Nat) (v64 s p m) m last 10) ∧ Hid (grpFrom s p 10 0 = grpFrom s p 10 m))
  case atStart =>
    refine ⟨0, 0, by omega, hid ⟨by go_grown, ?_, ?_, ?_, ?_, ?_, ?_⟩, hid rfl⟩
    all_goals (repeat (first | exact Blk.new' (by simp) _ _ | refine Blk.alloc ?_ _))
  case round =>
    obtain ⟨m, last, hm, hG, hgr⟩ := hrel
    have Hm := hid hm
    have hm10 : m ≤ 10 := by omega
    clear hm
    by_cases hlt : p + m < s.size ∧ m < 10
    · obtain ⟨hlt, h3⟩ := hlt
      have h2 := hid (show (m : Int) ≠ 10 by omega)
      by_cases h4 : bt s (p + m) < 128
      · go_wp2_with (go_at_call 40; go_must (refine (next_yes hG.out hs'.out hlt h2.out (by omega)).mono ?_); rintro e w1 ⟨rfl, hg⟩; have c2 := hg.bat.cell0; have c3 := hg.bn.cell0; have c4 := hg.bmany.cell0; have c5 := hg.blast.cell0; have f2 := hg.bn.frozen 0; have f3 := hg.bmany.frozen 0; have f4 := hg.blast.frozen 0; have hG1 := hid hg; clear hg)
        go_region
        go_wp2
        refine bodyPost_ret (v := .tuple #[.int .u64 (v64 s p (m + 1)), .int .i64 (7 * ((m : Int) + 1)), .int .u8 (bt s (p + m)), .int .i64 (p + m + 1 : Nat), .int .i64 0]) (by simp [results, Try.results35, go_sem, c3, c4, c5]) rfl ?_
        have hk : grpFrom s p 10 0 = m + 1 := by rw [hgr.out, grp_hit s p 10 m ⟨h3, hlt⟩ h4]
        refine ⟨?_, by have := hG1.out.below; go_grown⟩
        rw [hv.out, hk, if_neg (by omega), Nat.add_sub_cancel]
        rw [show ((7 * (m + 1) : Nat) : Int) = 7 * ((m : Int) + 1) from by omega]
        rfl
      · go_wp2_with (go_at_call 40; go_must (refine (next_yes hG.out hs'.out hlt h2.out (by omega)).mono ?_); rintro e w1 ⟨rfl, hg⟩; have c2 := hg.bat.cell0; have c3 := hg.bn.cell0; have c4 := hg.bmany.cell0; have c5 := hg.blast.cell0; have f2 := hg.bn.frozen 0; have f3 := hg.bmany.frozen 0; have f4 := hg.blast.frozen 0; have hG1 := hid hg; clear hg)
        have hgk := Hm.out
        go_roundg (gk - 1)
        case rel => exact ⟨m + 1, bt s (p + m), by omega, hG1, hid (by rw [hgr.out, grp_miss s p 10 m ⟨h3, hlt⟩ h4])⟩
        case measure => omega
    · have h2 := hid (show ((s.size : Int) ≤ (p + m : Nat) ∨ (m : Int) = 10) by omega)
      clear hlt
      go_wp2_with (go_at_call 40; go_must (refine (next_no hG.out hs'.out h2.out).mono ?_); rintro e w1 ⟨rfl, rfl⟩; have c3 := hG.out.bn.cell0; have c4 := hG.out.bmany.cell0; have c5 := hG.out.blast.cell0; have f2 := hG.out.bn.frozen 0; have f3 := hG.out.bmany.frozen 0; have f4 := hG.out.blast.frozen 0)
      refine bodyPost_ret (v := .tuple #[.int .u64 0, .int .i64 0, .int .u8 0, .int .i64 0, .int .i64 10]) (by simp [results, Try.results35, go_sem, c3, c4, c5]) rfl ?_
      refine ⟨?_, by have := hG.out.below; go_grown⟩
      have hk : grpFrom s p 10 0 = 0 := by have := h2.out; rw [hgr.out, grp_end s p 10 m (by omega)]
      rw [hv.out, hk, if_pos rfl]


theorem leb_groups (s : ByteArray) (at_ bits : Int) (hs : s.size ≤ 281474976710656) (w : World) :
    Calls Try.prog 35 #[.string s, .int .i64 at_, .int .i64 bits] w fun e w' => e = .returned (groupsV s at_ bits) ∧ Below w.heap.size w w' := by
  by_cases h : (bits ≠ 32 ∧ bits ≠ 64) ∨ at_ < 0 ∨ (s.size : Int) < at_
  · have e : groupsV s at_ bits = .tuple #[.int .u64 0, .int .i64 0, .int .u8 0, .int .i64 0, .int .i64 1] := by unfold groupsV; rw [if_pos (show badAsk s at_ bits from h)]
    rw [e]
    exact groups_bad s at_ bits hs h w
  · obtain ⟨p, rfl⟩ := Int.eq_ofNat_of_zero_le (show 0 ≤ at_ by omega)
    have hb : bits = 32 ∨ bits = 64 := by omega
    rcases hb with rfl | rfl
    · exact groups_32 s p hs (by omega) w
    · exact groups_64 s p hs (by omega) w
end Go.Proofs.Ytiamcllejdidjaa
