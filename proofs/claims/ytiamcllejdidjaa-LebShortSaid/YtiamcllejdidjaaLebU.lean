/-
  THE WALKS OF leb.U AND OF ITS REFERENCE.
-/
import Derived.Test.YtiamcllejdidjaaLebGroups
namespace Go.Proofs.Ytiamcllejdidjaa
open Go.ChangeShapes Go.WideShapes Go.ChangeAt Go.RowKit

/-- What a number without sign is read as. -/
def uV (s : ByteArray) (at_ bits : Int) : Value :=
  if badAsk s at_ bits then .tuple #[.int .u64 0, .int .i64 0, .int .i64 1]
  else if uErr s at_.toNat (grpN s at_ bits) bits then .tuple #[.int .u64 0, .int .i64 0, .int .i64 10]
  else .tuple #[.int .u64 (valAt s at_.toNat (grpN s at_ bits)), .int .i64 (at_.toNat + grpN s at_ bits : Nat), .int .i64 0]

theorem U_err (s : ByteArray) (at_ bits : Int) (hs : s.size ≤ 281474976710656) (c : Int) (hc : c ≠ 0) (hg : groupsV s at_ bits = .tuple #[.int .u64 0, .int .i64 0, .int .u8 0, .int .i64 0, .int .i64 c]) (w : World) :
    Calls Try.prog 26 #[.string s, .int .i64 at_, .int .i64 bits] w fun e w' => e = .returned (.tuple #[.int .u64 0, .int .i64 0, .int .i64 c]) ∧ Below w.heap.size w w' := by
  have c1 : (c == 0) = false := by simpa using hc
  have c2 : (c != 0) = true := by simpa using hc
  have Hg := hid hg
  clear hg hc
  go_enter Try.func26, Try.ntmps26
  go_wp2_with (go_at_call 35; go_must (refine (leb_groups _ _ _ hs _).mono ?_); rintro e w1 ⟨he, hb⟩; rw [Hg.out] at he; subst he; have Hb := hid hb; clear hb)
  refine bodyPost_ret (results_tmp3 rfl _ _ _) rfl ?_
  exact ⟨rfl, Hb.out⟩

theorem U_over (s : ByteArray) (at_ bits : Int) (hs : s.size ≤ 281474976710656) (V M L E : Int) (hg : groupsV s at_ bits = .tuple #[.int .u64 V, .int .i64 M, .int .u8 L, .int .i64 E, .int .i64 0])
    (h : M = 70 ∧ 1 < L ∨ bits = 32 ∧ ¬ (M = 70 ∧ 1 < L) ∧ V / 4294967296 ≠ 0) (w : World) :
    Calls Try.prog 26 #[.string s, .int .i64 at_, .int .i64 bits] w fun e w' => e = .returned (.tuple #[.int .u64 0, .int .i64 0, .int .i64 10]) ∧ Below w.heap.size w w' := by
  have Hg := hid hg
  clear hg
  rcases h with ⟨rfl, h2⟩ | ⟨rfl, h2, h3⟩
  · (go_enter Try.func26, Try.ntmps26; go_wp2_with (go_at_call 35; go_must (refine (leb_groups _ _ _ hs _).mono ?_); rintro e w1 ⟨he, hb⟩; rw [Hg.out] at he; subst he; have Hb := hid hb; clear hb); refine bodyPost_ret (results_tmp3 rfl _ _ _) rfl ?_; exact ⟨rfl, Hb.out⟩)
  · have c3 : (V / 4294967296 != 0) = true := by simpa using h3
    clear h3
    by_cases hm : M = 70
    · subst hm
      have h4 : ¬ 1 < L := by omega
      clear h2
      (go_enter Try.func26, Try.ntmps26; go_wp2_with (go_at_call 35; go_must (refine (leb_groups _ _ _ hs _).mono ?_); rintro e w1 ⟨he, hb⟩; rw [Hg.out] at he; subst he; have Hb := hid hb; clear hb); refine bodyPost_ret (results_tmp3 rfl _ _ _) rfl ?_; exact ⟨rfl, Hb.out⟩)
    · have c1 : (M == 70) = false := by simpa using hm
      clear h2 hm
      (go_enter Try.func26, Try.ntmps26; go_wp2_with (go_at_call 35; go_must (refine (leb_groups _ _ _ hs _).mono ?_); rintro e w1 ⟨he, hb⟩; rw [Hg.out] at he; subst he; have Hb := hid hb; clear hb); refine bodyPost_ret (results_tmp3 rfl _ _ _) rfl ?_; exact ⟨rfl, Hb.out⟩)
theorem U_fine (s : ByteArray) (at_ bits : Int) (hs : s.size ≤ 281474976710656) (V M L E : Int) (hg : groupsV s at_ bits = .tuple #[.int .u64 V, .int .i64 M, .int .u8 L, .int .i64 E, .int .i64 0])
    (h1 : ¬ (M = 70 ∧ 1 < L)) (h2 : bits ≠ 32 ∨ V / 4294967296 = 0) (w : World) :
    Calls Try.prog 26 #[.string s, .int .i64 at_, .int .i64 bits] w fun e w' => e = .returned (.tuple #[.int .u64 V, .int .i64 E, .int .i64 0]) ∧ Below w.heap.size w w' := by
  have Hg := hid hg
  clear hg
  have a1 : (M == 70) = true ∧ ¬ 1 < L ∨ (M == 70) = false := by by_cases hm : M = 70 <;> simp [hm] <;> omega
  have a2 : (bits == 32) = false ∨ (bits == 32) = true ∧ (V / 4294967296 != 0) = false := by by_cases hm : bits = 32 <;> simp [hm] <;> omega
  clear h1 h2
  rcases a1 with ⟨a1, a3⟩ | a1
  · rcases a2 with a2 | ⟨a2, a4⟩
    · (go_enter Try.func26, Try.ntmps26; go_wp2_with (go_at_call 35; go_must (refine (leb_groups _ _ _ hs _).mono ?_); rintro e w1 ⟨he, hb⟩; rw [Hg.out] at he; subst he; have Hb := hid hb; clear hb); refine bodyPost_ret (results_tmp3 rfl _ _ _) rfl ?_; exact ⟨rfl, Hb.out⟩)
    · (go_enter Try.func26, Try.ntmps26; go_wp2_with (go_at_call 35; go_must (refine (leb_groups _ _ _ hs _).mono ?_); rintro e w1 ⟨he, hb⟩; rw [Hg.out] at he; subst he; have Hb := hid hb; clear hb); refine bodyPost_ret (results_tmp3 rfl _ _ _) rfl ?_; exact ⟨rfl, Hb.out⟩)
  · rcases a2 with a2 | ⟨a2, a4⟩
    · (go_enter Try.func26, Try.ntmps26; go_wp2_with (go_at_call 35; go_must (refine (leb_groups _ _ _ hs _).mono ?_); rintro e w1 ⟨he, hb⟩; rw [Hg.out] at he; subst he; have Hb := hid hb; clear hb); refine bodyPost_ret (results_tmp3 rfl _ _ _) rfl ?_; exact ⟨rfl, Hb.out⟩)
    · (go_enter Try.func26, Try.ntmps26; go_wp2_with (go_at_call 35; go_must (refine (leb_groups _ _ _ hs _).mono ?_); rintro e w1 ⟨he, hb⟩; rw [Hg.out] at he; subst he; have Hb := hid hb; clear hb); refine bodyPost_ret (results_tmp3 rfl _ _ _) rfl ?_; exact ⟨rfl, Hb.out⟩)

theorem leb_U (s : ByteArray) (at_ bits : Int) (hs : s.size ≤ 281474976710656) (w : World) :
    Calls Try.prog 26 #[.string s, .int .i64 at_, .int .i64 bits] w fun e w' => e = .returned (uV s at_ bits) ∧ Below w.heap.size w w' := by
  by_cases hb : badAsk s at_ bits
  · have hg : groupsV s at_ bits = .tuple #[.int .u64 0, .int .i64 0, .int .u8 0, .int .i64 0, .int .i64 1] := by unfold groupsV; rw [if_pos hb]
    have e : uV s at_ bits = .tuple #[.int .u64 0, .int .i64 0, .int .i64 1] := by unfold uV; rw [if_pos hb]
    rw [e]
    exact U_err s at_ bits hs 1 (by decide) hg w
  · by_cases hk : grpN s at_ bits = 0
    · have hg : groupsV s at_ bits = .tuple #[.int .u64 0, .int .i64 0, .int .u8 0, .int .i64 0, .int .i64 10] := by unfold groupsV; rw [if_neg hb, if_pos hk]
      have e : uV s at_ bits = .tuple #[.int .u64 0, .int .i64 0, .int .i64 10] := by unfold uV; rw [if_neg hb, if_pos (.inl hk)]
      rw [e]
      exact U_err s at_ bits hs 10 (by decide) hg w
    · have hg : groupsV s at_ bits = .tuple #[.int .u64 (v64 s at_.toNat (grpN s at_ bits)), .int .i64 (7 * grpN s at_ bits : Nat), .int .u8 (bt s (at_.toNat + (grpN s at_ bits - 1))), .int .i64 (at_.toNat + grpN s at_ bits : Nat), .int .i64 0] := by
        unfold groupsV; rw [if_neg hb, if_neg hk]
      have hle : grpN s at_ bits ≤ ((bits + 6) / 7).toNat := grp_le _ _ _ _
      have hbits : bits = 32 ∨ bits = 64 := by unfold badAsk at hb; omega
      have hsp := grp_spec s at_.toNat ((bits + 6) / 7).toNat 0 hk
      have hlast : bt s (at_.toNat + (grpN s at_ bits - 1)) < 128 := hsp.2.2
      have h10 : grpN s at_ bits ≤ 10 := by rcases hbits with rfl | rfl <;> omega
      by_cases hu : uErr s at_.toNat (grpN s at_ bits) bits
      · have e : uV s at_ bits = .tuple #[.int .u64 0, .int .i64 0, .int .i64 10] := by unfold uV; rw [if_neg hb, if_pos hu]
        rw [e]
        refine U_over s at_ bits hs _ _ _ _ hg ?_ w
        rcases hu with h | ⟨h, h2⟩ | ⟨h, h2⟩
        · exact absurd h hk
        · left
          rw [h]
          exact ⟨rfl, by simp only [show 10 - 1 = 9 from rfl]; omega⟩
        · right
          subst h
          have h5 : grpN s at_ 32 ≤ 5 := hle
          refine ⟨rfl, by omega, ?_⟩
          have hv := valAt_64 s at_.toNat (grpN s at_ 32) (by omega) (by omega)
          unfold v64
          rw [Nat.mod_eq_of_lt hv]
          omega
      · have hv := valAt_64 s at_.toNat (grpN s at_ bits) h10 (fun h => hu (.inr (.inl h)))
        have hm : v64 s at_.toNat (grpN s at_ bits) = valAt s at_.toNat (grpN s at_ bits) := by unfold v64; exact Nat.mod_eq_of_lt hv
        have e : uV s at_ bits = .tuple #[.int .u64 (v64 s at_.toNat (grpN s at_ bits)), .int .i64 (at_.toNat + grpN s at_ bits : Nat), .int .i64 0] := by unfold uV; rw [if_neg hb, if_neg hu, hm]
        rw [e]
        refine U_fine s at_ bits hs _ _ _ _ hg ?_ ?_ w
        · rintro ⟨h1, h2⟩
          have h3 : grpN s at_ bits = 10 := by omega
          refine hu (.inr (.inl ⟨h3, ?_⟩))
          rw [h3] at h2
          simp only [show 10 - 1 = 9 from rfl] at h2
          omega
        · by_cases h : bits = 32
          · right
            have : ¬ 4294967296 ≤ valAt s at_.toNat (grpN s at_ bits) := fun h2 => hu (.inr (.inr ⟨h, h2⟩))
            rw [hm]
            omega
          · exact .inl h
end Go.Proofs.Ytiamcllejdidjaa
