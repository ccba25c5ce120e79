/-
  THE WALKS OF leb.S AND OF ITS REFERENCE.
-/
import Derived.Test.YtiamcllejdidjaaLebRef
namespace Go.Proofs.Ytiamcllejdidjaa
open Go.ChangeShapes Go.WideShapes Go.ChangeAt Go.RowKit

/-- What a number with sign is read as. -/
def sV (s : ByteArray) (at_ bits : Int) : Value :=
  if badAsk s at_ bits then .tuple #[.int .i64 0, .int .i64 0, .int .i64 1]
  else if sErr s at_.toNat (grpN s at_ bits) bits then .tuple #[.int .i64 0, .int .i64 0, .int .i64 10]
  else .tuple #[.int .i64 (sval s at_.toNat (grpN s at_ bits)), .int .i64 (at_.toNat + grpN s at_ bits : Nat), .int .i64 0]

theorem S_err (s : ByteArray) (at_ bits : Int) (hs : s.size ≤ 281474976710656) (c : Int) (hc : c ≠ 0) (hg : groupsV s at_ bits = .tuple #[.int .u64 0, .int .i64 0, .int .u8 0, .int .i64 0, .int .i64 c]) (w : World) :
    Calls Try.prog 32 #[.string s, .int .i64 at_, .int .i64 bits] w fun e w' => e = .returned (.tuple #[.int .i64 0, .int .i64 0, .int .i64 c]) ∧ Below w.heap.size w w' := by
  have c1 : (c == 0) = false := by simpa using hc
  have c2 : (c != 0) = true := by simpa using hc
  have Hg := hid hg
  clear hg hc
  (go_enter Try.func32, Try.ntmps32; go_wp2_with (go_at_call 35; go_must (refine (leb_groups _ _ _ hs _).mono ?_); rintro e w1 ⟨he, hb⟩; rw [Hg.out] at he; subst he; have Hb := hid hb; clear hb); refine bodyPost_ret (results_tmp3 rfl _ _ _) rfl ?_; exact ⟨rfl, Hb.out⟩)

set_option maxRecDepth 100000 in
theorem S_small (s : ByteArray) (at_ bits : Int) (hs : s.size ≤ 281474976710656) (V k : Nat) (L E S : Int) (hk : 0 < k) (h9 : k ≤ 9) (hg : groupsV s at_ bits = .tuple #[.int .u64 V, .int .i64 (7 * k : Nat), .int .u8 L, .int .i64 E, .int .i64 0])
    (hX : wrap64 (IntKind.u64.wrap ((V : Int) * 2 ^ (64 - 7 * k))) / 2 ^ (64 - 7 * k) = S) (w : World) :
    Calls Try.prog 32 #[.string s, .int .i64 at_, .int .i64 bits] w fun e w' => e = .returned (if bits = 32 ∧ ¬ in32 S then .tuple #[.int .i64 0, .int .i64 0, .int .i64 10] else .tuple #[.int .i64 S, .int .i64 E, .int .i64 0]) ∧ Below w.heap.size w w' := by
  have Hg := hid hg
  clear hg
  obtain ⟨M, hM⟩ : ∃ M : Nat, M = 7 * k := ⟨_, rfl⟩
  rw [← hM] at Hg hX
  have m1 : M < 64 := by omega
  have m2 : ((M : Int) == 70) = false := by simp; omega
  clear hM
  by_cases hb : bits = 32
  · subst hb
    have hw := in32_wrap S
    by_cases hi : in32 S
    · rw [if_neg (fun h => h.2 hi)]
      rw [show (!decide (in32 S)) = false from by simpa using hi] at hw
      clear hi
      (go_enter Try.func32, Try.ntmps32; go_wp2_with (go_at_call 35; go_must (refine (leb_groups _ _ _ hs _).mono ?_); rintro e w1 ⟨he, hb⟩; rw [Hg.out] at he; subst he; have Hb := hid hb; clear hb); refine bodyPost_ret (results_tmp3 rfl _ _ _) rfl ?_; exact ⟨rfl, Hb.out⟩)
    · rw [if_pos ⟨rfl, hi⟩]
      rw [show (!decide (in32 S)) = true from by simpa using hi] at hw
      clear hi
      (go_enter Try.func32, Try.ntmps32; go_wp2_with (go_at_call 35; go_must (refine (leb_groups _ _ _ hs _).mono ?_); rintro e w1 ⟨he, hb⟩; rw [Hg.out] at he; subst he; have Hb := hid hb; clear hb); refine bodyPost_ret (results_tmp3 rfl _ _ _) rfl ?_; exact ⟨rfl, Hb.out⟩)
  · rw [if_neg (fun h => hb h.1)]
    have hb' : (bits == 32) = false := by simpa using hb
    clear hb
    (go_enter Try.func32, Try.ntmps32; go_wp2_with (go_at_call 35; go_must (refine (leb_groups _ _ _ hs _).mono ?_); rintro e w1 ⟨he, hb⟩; rw [Hg.out] at he; subst he; have Hb := hid hb; clear hb); refine bodyPost_ret (results_tmp3 rfl _ _ _) rfl ?_; exact ⟨rfl, Hb.out⟩)

set_option maxRecDepth 100000 in
theorem S_ten (s : ByteArray) (at_ : Int) (hs : s.size ≤ 281474976710656) (V : Nat) (L E S : Int) (hg : groupsV s at_ 64 = .tuple #[.int .u64 V, .int .i64 70, .int .u8 L, .int .i64 E, .int .i64 0])
    (hX : wrap64 (V : Int) = S) (w : World) :
    Calls Try.prog 32 #[.string s, .int .i64 at_, .int .i64 64] w fun e w' => e = .returned (if L ≠ 0 ∧ L ≠ 127 then .tuple #[.int .i64 0, .int .i64 0, .int .i64 10] else .tuple #[.int .i64 S, .int .i64 E, .int .i64 0]) ∧ Below w.heap.size w w' := by
  have Hg := hid hg
  clear hg
  subst hX
  by_cases h0 : L = 0
  · rw [if_neg (fun h => h.1 h0)]
    subst h0
    (go_enter Try.func32, Try.ntmps32; go_wp2_with (go_at_call 35; go_must (refine (leb_groups _ _ _ hs _).mono ?_); rintro e w1 ⟨he, hb⟩; rw [Hg.out] at he; subst he; have Hb := hid hb; clear hb); refine bodyPost_ret (results_tmp3 rfl _ _ _) rfl ?_; exact ⟨rfl, Hb.out⟩)
  · by_cases h1 : L = 127
    · rw [if_neg (fun h => h.2 h1)]
      subst h1
      (go_enter Try.func32, Try.ntmps32; go_wp2_with (go_at_call 35; go_must (refine (leb_groups _ _ _ hs _).mono ?_); rintro e w1 ⟨he, hb⟩; rw [Hg.out] at he; subst he; have Hb := hid hb; clear hb); refine bodyPost_ret (results_tmp3 rfl _ _ _) rfl ?_; exact ⟨rfl, Hb.out⟩)
    · rw [if_pos ⟨h0, h1⟩]
      have g0 : (L != 0) = true := by simpa using h0
      have g1 : (L != 127) = true := by simpa using h1
      clear h0 h1
      (go_enter Try.func32, Try.ntmps32; go_wp2_with (go_at_call 35; go_must (refine (leb_groups _ _ _ hs _).mono ?_); rintro e w1 ⟨he, hb⟩; rw [Hg.out] at he; subst he; have Hb := hid hb; clear hb); refine bodyPost_ret (results_tmp3 rfl _ _ _) rfl ?_; exact ⟨rfl, Hb.out⟩)

theorem leb_S (s : ByteArray) (at_ bits : Int) (hs : s.size ≤ 281474976710656) (w : World) :
    Calls Try.prog 32 #[.string s, .int .i64 at_, .int .i64 bits] w fun e w' => e = .returned (sV s at_ bits) ∧ Below w.heap.size w w' := by
  by_cases hb : badAsk s at_ bits
  · have hg : groupsV s at_ bits = .tuple #[.int .u64 0, .int .i64 0, .int .u8 0, .int .i64 0, .int .i64 1] := by unfold groupsV; rw [if_pos hb]
    have e : sV s at_ bits = .tuple #[.int .i64 0, .int .i64 0, .int .i64 1] := by unfold sV; rw [if_pos hb]
    rw [e]
    exact S_err s at_ bits hs 1 (by decide) hg w
  · by_cases hk : grpN s at_ bits = 0
    · have hg : groupsV s at_ bits = .tuple #[.int .u64 0, .int .i64 0, .int .u8 0, .int .i64 0, .int .i64 10] := by unfold groupsV; rw [if_neg hb, if_pos hk]
      have e : sV s at_ bits = .tuple #[.int .i64 0, .int .i64 0, .int .i64 10] := by unfold sV; rw [if_neg hb, if_pos (.inl hk)]
      rw [e]
      exact S_err s at_ bits hs 10 (by decide) hg w
    · have hg : groupsV s at_ bits = .tuple #[.int .u64 (v64 s at_.toNat (grpN s at_ bits)), .int .i64 (7 * grpN s at_ bits : Nat), .int .u8 (bt s (at_.toNat + (grpN s at_ bits - 1))), .int .i64 (at_.toNat + grpN s at_ bits : Nat), .int .i64 0] := by
        unfold groupsV; rw [if_neg hb, if_neg hk]
      have hle : grpN s at_ bits ≤ ((bits + 6) / 7).toNat := grp_le _ _ _ _
      have hbits : bits = 32 ∨ bits = 64 := by unfold badAsk at hb; omega
      have h10 : grpN s at_ bits ≤ 10 := by rcases hbits with rfl | rfl <;> omega
      by_cases h9 : grpN s at_ bits ≤ 9
      · refine (S_small s at_ bits hs _ _ _ _ _ (by omega) h9 hg (sval_shift s at_.toNat _ (by omega) h9) w).mono fun e w' ⟨he, hb'⟩ => ⟨?_, hb'⟩
        rw [he]
        unfold sV
        rw [if_neg hb]
        by_cases hc : bits = 32 ∧ ¬ in32 (sval s at_.toNat (grpN s at_ bits))
        · rw [if_pos hc, if_pos (.inr (.inr hc))]
        · rw [if_neg hc, if_neg]
          rintro (h | h | h)
          · exact hk h
          · omega
          · exact hc h
      · have hk10 : grpN s at_ bits = 10 := by omega
        obtain rfl : bits = 64 := by
          rcases hbits with rfl | rfl
          · have : grpN s at_ 32 ≤ 5 := hle
            omega
          · rfl
        rw [hk10] at hg
        refine (S_ten s at_ hs _ _ _ _ hg rfl w).mono fun e w' ⟨he, hb'⟩ => ⟨?_, hb'⟩
        rw [he]
        unfold sV
        rw [if_neg hb, hk10]
        simp only [show 10 - 1 = 9 from rfl]
        by_cases hc : bt s (at_.toNat + 9) ≠ 0 ∧ bt s (at_.toNat + 9) ≠ 127
        · rw [if_pos (by omega), if_pos (.inr (.inl ⟨rfl, hc⟩))]
        · rw [if_neg (by omega), if_neg, sval_ten s at_.toNat (by omega)]
          rintro (h | h | h)
          · omega
          · exact hc h.2
          · omega

/-- One group more ahead of those that are known: with sign. -/
theorem shl_or_s (s : ByteArray) (p k i d : Nat) (h : i + 1 + d = k) (hk : k ≤ 10) (h10 : k = 10 → bt s (p + 9) = 0 ∨ bt s (p + 9) = 127) :
    bits .or .i64 (wrap64 (shiV s p (neg7 s p k) d (i + 1) * 128)) (wrap64 (bits .and .u8 (bt s (p + i) : Int) 127)) = shiV s p (neg7 s p k) (d + 1) i := by
  obtain ⟨h1, h2⟩ := shi_small s p k i d h hk h10
  rw [and_127n _ (bt_lt _ _), shi_step]
  have e : wrap64 (shiV s p (neg7 s p k) d (i + 1) * 128) = shiV s p (neg7 s p k) d (i + 1) * 128 := by unfold wrap64; omega
  have e' : wrap64 (((bt s (p + i) % 128 : Nat) : Int)) = ((bt s (p + i) % 128 : Nat) : Int) := by unfold wrap64; omega
  rw [e, e', or_i64 _ _ h1 h2 (Nat.mod_lt _ (by omega))]

theorem rS_bad (s : ByteArray) (at_ bits : Int) (hs : s.size ≤ 281474976710656) (h : badAsk s at_ bits) (w : World) :
    Calls Try.prog 33 #[.string s, .int .i64 at_, .int .i64 bits] w fun e w' => e = .returned (.tuple #[.int .i64 0, .int .i64 0, .int .i64 1]) ∧ w = w' := by
  have hbad : decide (badAsk s at_ bits) = true := by simpa using h
  clear h
  go_enter Try.func33, Try.ntmps33
  go_wp2_with (first | (go_at_call 36; go_must (refine (ref01_asked _ _ _ hs _).mono ?_); rintro e w1 ⟨rfl, rfl⟩) | (go_at_call 37; go_must (refine (ref01_groups s p _ hs (by have := Hp.out; omega) (by first | exact Or.inl rfl | exact Or.inr rfl | exact Hb.out) _).mono ?_); rw [Hg.out]; rintro e w1 ⟨rfl, rfl⟩))
  refine bodyPost_ret (results_tmp3 rfl _ _ _) rfl ?_
  exact ⟨rfl, rfl⟩
theorem rS_0 (s : ByteArray) (p : Nat) (bits : Int) (hs : s.size ≤ 281474976710656) (hp : p ≤ s.size) (hb : bits = 32 ∨ bits = 64) (hg : grpN s p bits = 0) (w : World) :
    Calls Try.prog 33 #[.string s, .int .i64 p, .int .i64 bits] w fun e w' => e = .returned (.tuple #[.int .i64 0, .int .i64 0, .int .i64 10]) ∧ w = w' := by
  have Hp := hid hp
  have Hg := hid hg
  have hbad : decide (badAsk s p bits) = false := by rw [decide_eq_false_iff_not]; unfold badAsk; omega
  have Hb := hid hb
  clear hg hb
  go_enter Try.func33, Try.ntmps33
  go_wp2_with (first | (go_at_call 36; go_must (refine (ref01_asked _ _ _ hs _).mono ?_); rintro e w1 ⟨rfl, rfl⟩) | (go_at_call 37; go_must (refine (ref01_groups s p _ hs (by have := Hp.out; omega) (by first | exact Or.inl rfl | exact Or.inr rfl | exact Hb.out) _).mono ?_); rw [Hg.out]; rintro e w1 ⟨rfl, rfl⟩))
  refine bodyPost_ret (results_tmp3 rfl _ _ _) rfl ?_
  exact ⟨rfl, rfl⟩
theorem rS_o10 (s : ByteArray) (p : Nat) (hs : s.size ≤ 281474976710656) (hp : p + 10 ≤ s.size) (hg : grpN s p 64 = 10) (h0 : bt s (p + 9) ≠ 0) (h1 : bt s (p + 9) ≠ 127) (w : World) :
    Calls Try.prog 33 #[.string s, .int .i64 p, .int .i64 64] w fun e w' => e = .returned (.tuple #[.int .i64 0, .int .i64 0, .int .i64 10]) ∧ w = w' := by
  have hv : True := trivial
  have Hp := hid hp
  have Hg := hid hg
  have hbad : decide (badAsk s p 64) = false := by rw [decide_eq_false_iff_not]; unfold badAsk; omega
  have e4 := bt_at s (p + 9) (by omega)
  have e5 : ((bt s (p + 9) : Int) != 0) = true := by rw [bne_iff_ne]; omega
  have e6 : ((bt s (p + 9) : Int) != 127) = true := by rw [bne_iff_ne]; omega
  clear hg h0 h1
  go_enter Try.func33, Try.ntmps33
  go_wp2_with (first | (go_at_call 36; go_must (refine (ref01_asked _ _ _ hs _).mono ?_); rintro e w1 ⟨rfl, rfl⟩) | (go_at_call 37; go_must (refine (ref01_groups s p _ hs (by have := Hp.out; omega) (by first | exact Or.inl rfl | exact Or.inr rfl | exact Hb.out) _).mono ?_); rw [Hg.out]; rintro e w1 ⟨rfl, rfl⟩))
  refine bodyPost_ret (results_tmp3 rfl _ _ _) rfl ?_
  exact ⟨rfl, rfl⟩

/-- What the reference returns of k groups. -/
def sRes (s : ByteArray) (p k : Nat) (bits : Int) : Value :=
  if bits = 32 ∧ ¬ in32 (sval s p k) then .tuple #[.int .i64 0, .int .i64 0, .int .i64 10] else .tuple #[.int .i64 (sval s p k), .int .i64 (p + k : Nat), .int .i64 0]
theorem sRes_no {s : ByteArray} {p k : Nat} {bits : Int} (h : bits = 32 ∧ ¬ in32 (sval s p k)) : sRes s p k bits = .tuple #[.int .i64 0, .int .i64 0, .int .i64 10] := by unfold sRes; rw [if_pos h]
theorem sRes_ok {s : ByteArray} {p k : Nat} {bits S : Int} (h : ¬ (bits = 32 ∧ ¬ in32 (sval s p k))) (hS : sval s p k = S) : sRes s p k bits = .tuple #[.int .i64 S, .int .i64 (p + k : Nat), .int .i64 0] := by unfold sRes; rw [if_neg h, hS]
set_option maxRecDepth 100000 in
theorem rS_k (s : ByteArray) (p : Nat) (bits : Int) (k : Nat) (hs : s.size ≤ 281474976710656) (hp : p + k ≤ s.size) (hk : 0 < k) (h10 : k < 10) (hb : bits = 32 ∨ bits = 64) (hg : grpN s p bits = k) (w : World) :
    Calls Try.prog 33 #[.string s, .int .i64 p, .int .i64 bits] w fun e w' => e = .returned (sRes s p k bits) ∧ w = w' := by
  have z1 : ((k : Int) == 0) = false := by simp; omega
  have z2 : ((k : Int) == 10) = false := by simp; omega
  have Hp := hid hp
  have Hg := hid hg
  have hbad : decide (badAsk s p bits) = false := by rw [decide_eq_false_iff_not]; unfold badAsk; omega
  have Hb := hid hb
  have hlt : p + k - 1 < s.size := by omega
  have e4 := bt_at s (p + k - 1) hlt
  have e5 := and_64 (bt s (p + k - 1)) (bt_lt _ _)
  have en : neg7 s p k = decide (64 ≤ bt s (p + k - 1) % 128) := by unfold neg7; rw [show p + (k - 1) = p + k - 1 from by omega]
  rw [← en] at e5
  clear hg hb en
  cases hng : neg7 s p k
  all_goals
    rw [hng] at e5
    have Hng := hid hng
    clear hng
  · go_enter Try.func33, Try.ntmps33
    go_wp2_with (first | (go_at_call 36; go_must (refine (ref01_asked _ _ _ hs _).mono ?_); rintro e w1 ⟨rfl, rfl⟩) | (go_at_call 37; go_must (refine (ref01_groups s p _ hs (by have := Hp.out; omega) (by first | exact Or.inl rfl | exact Or.inr rfl | exact Hb.out) _).mono ?_); rw [Hg.out]; rintro e w1 ⟨rfl, rfl⟩))
    go_loopg [10, 11] k (fun g x y wr => Hid (Down s p k (shiV s p false) .i64 g x y) ∧ w = wr)
    case atStart => exact ⟨hid (Down.start s p k _ _ (by omega) _ (by simp [shiV, hiV])), rfl⟩
    case round =>
      obtain ⟨hd, rfl⟩ := hrel
      rcases hd.out with ⟨i, d, hi, hgi, rfl, rfl⟩ | ⟨hgi, rfl, rfl⟩
      · have hlt : p + i < s.size := by have := Hp.out; omega
        have e := bt_at s (p + i) hlt
        have HI := hid (And.intro hi hgi)
        clear hi hgi hd e4 e5
        go_wp2
        have hso := shl_or_s s p k i d HI.out.1 (by omega) (fun h => absurd h (by omega))
        rw [Hng.out] at hso
        rw [hso]
        go_roundg i
        case rel => exact ⟨hid (Down.next s p k _ _ i d HI.out.1 _ rfl), rfl⟩
        case measure => have := HI.out.2; omega
      · have HS := hid (sval_shi s p k (by omega))
        rw [Hng.out] at HS
        clear e4 e5
        generalize shiV s p _ k 0 = S at HS ⊢
        by_cases hb : bits = 32
        · have B1 : (bits == 32) = true := by simp [hb]
          by_cases h1 : S < -2147483648
          · have HF := hid (show bits = 32 ∧ ¬ in32 (sval s p k) from ⟨hb, by rw [HS.out]; unfold in32; omega⟩)
            clear hb
            go_wp2
            refine bodyPost_ret (results_tmp3 rfl _ _ _) rfl ?_
            exact ⟨by rw [sRes_no HF.out]; rfl, rfl⟩
          · by_cases h2 : 2147483647 < S
            · have HF := hid (show bits = 32 ∧ ¬ in32 (sval s p k) from ⟨hb, by rw [HS.out]; unfold in32; omega⟩)
              clear hb
              go_wp2
              refine bodyPost_ret (results_tmp3 rfl _ _ _) rfl ?_
              exact ⟨by rw [sRes_no HF.out]; rfl, rfl⟩
            · have HF := hid (show ¬ (bits = 32 ∧ ¬ in32 (sval s p k)) from fun h => h.2 (by rw [HS.out]; unfold in32; omega))
              clear hb
              go_wp2
              refine bodyPost_ret (results_tmp3 rfl _ _ _) rfl ?_
              exact ⟨by rw [sRes_ok HF.out HS.out]; rfl, rfl⟩
        · have B1 : (bits == 32) = false := by simpa using hb
          have HF := hid (show ¬ (bits = 32 ∧ ¬ in32 (sval s p k)) from fun h => hb h.1)
          clear hb
          go_wp2
          refine bodyPost_ret (results_tmp3 rfl _ _ _) rfl ?_
          exact ⟨by rw [sRes_ok HF.out HS.out]; rfl, rfl⟩
  · go_enter Try.func33, Try.ntmps33
    go_wp2_with (first | (go_at_call 36; go_must (refine (ref01_asked _ _ _ hs _).mono ?_); rintro e w1 ⟨rfl, rfl⟩) | (go_at_call 37; go_must (refine (ref01_groups s p _ hs (by have := Hp.out; omega) (by first | exact Or.inl rfl | exact Or.inr rfl | exact Hb.out) _).mono ?_); rw [Hg.out]; rintro e w1 ⟨rfl, rfl⟩))
    go_loopg [10, 11] k (fun g x y wr => Hid (Down s p k (shiV s p true) .i64 g x y) ∧ w = wr)
    case atStart => exact ⟨hid (Down.start s p k _ _ (by omega) _ (by simp [shiV, hiV])), rfl⟩
    case round =>
      obtain ⟨hd, rfl⟩ := hrel
      rcases hd.out with ⟨i, d, hi, hgi, rfl, rfl⟩ | ⟨hgi, rfl, rfl⟩
      · have hlt : p + i < s.size := by have := Hp.out; omega
        have e := bt_at s (p + i) hlt
        have HI := hid (And.intro hi hgi)
        clear hi hgi hd e4 e5
        go_wp2
        have hso := shl_or_s s p k i d HI.out.1 (by omega) (fun h => absurd h (by omega))
        rw [Hng.out] at hso
        rw [hso]
        go_roundg i
        case rel => exact ⟨hid (Down.next s p k _ _ i d HI.out.1 _ rfl), rfl⟩
        case measure => have := HI.out.2; omega
      · have HS := hid (sval_shi s p k (by omega))
        rw [Hng.out] at HS
        clear e4 e5
        generalize shiV s p _ k 0 = S at HS ⊢
        by_cases hb : bits = 32
        · have B1 : (bits == 32) = true := by simp [hb]
          by_cases h1 : S < -2147483648
          · have HF := hid (show bits = 32 ∧ ¬ in32 (sval s p k) from ⟨hb, by rw [HS.out]; unfold in32; omega⟩)
            clear hb
            go_wp2
            refine bodyPost_ret (results_tmp3 rfl _ _ _) rfl ?_
            exact ⟨by rw [sRes_no HF.out]; rfl, rfl⟩
          · by_cases h2 : 2147483647 < S
            · have HF := hid (show bits = 32 ∧ ¬ in32 (sval s p k) from ⟨hb, by rw [HS.out]; unfold in32; omega⟩)
              clear hb
              go_wp2
              refine bodyPost_ret (results_tmp3 rfl _ _ _) rfl ?_
              exact ⟨by rw [sRes_no HF.out]; rfl, rfl⟩
            · have HF := hid (show ¬ (bits = 32 ∧ ¬ in32 (sval s p k)) from fun h => h.2 (by rw [HS.out]; unfold in32; omega))
              clear hb
              go_wp2
              refine bodyPost_ret (results_tmp3 rfl _ _ _) rfl ?_
              exact ⟨by rw [sRes_ok HF.out HS.out]; rfl, rfl⟩
        · have B1 : (bits == 32) = false := by simpa using hb
          have HF := hid (show ¬ (bits = 32 ∧ ¬ in32 (sval s p k)) from fun h => hb h.1)
          clear hb
          go_wp2
          refine bodyPost_ret (results_tmp3 rfl _ _ _) rfl ?_
          exact ⟨by rw [sRes_ok HF.out HS.out]; rfl, rfl⟩

set_option maxRecDepth 100000 in
theorem rS_10a (s : ByteArray) (p : Nat) (hs : s.size ≤ 281474976710656) (hp : p + 10 ≤ s.size) (hg : grpN s p 64 = 10) (hl : bt s (p + 9) = 0) (w : World) :
    Calls Try.prog 33 #[.string s, .int .i64 p, .int .i64 64] w fun e w' => e = .returned (.tuple #[.int .i64 (sval s p 10), .int .i64 (p + 10 : Nat), .int .i64 0]) ∧ w = w' := by
  have hp9 : p + 9 < s.size := by omega
  have e4 := bt_at s (p + 9) hp9
  have Hp := hid hp
  have Hg := hid hg
  have Hl := hid hl
  have hbad : decide (badAsk s p 64) = false := by rw [decide_eq_false_iff_not]; unfold badAsk; omega
  have Hng := hid (show neg7 s p 10 = false by unfold neg7; simp only [show 10 - 1 = 9 from rfl]; rw [hl]; decide)
  have e5 : bits .and .u8 0 64 = bits .and .u8 0 64 := rfl
  rw [hl] at e4
  clear hg hl
  have q1 : (bits .and .u8 0 64 != 0) = false := by decide +kernel
  clear e5
  have e5 : True := trivial
  have e4' := e4
  · go_enter Try.func33, Try.ntmps33
    go_wp2_with (first | (go_at_call 36; go_must (refine (ref01_asked _ _ _ hs _).mono ?_); rintro e w1 ⟨rfl, rfl⟩) | (go_at_call 37; go_must (refine (ref01_groups s p _ hs (by have := Hp.out; omega) (by first | exact Or.inl rfl | exact Or.inr rfl | exact Hb.out) _).mono ?_); rw [Hg.out]; rintro e w1 ⟨rfl, rfl⟩))
    go_loopg [10, 11] 10 (fun g x y wr => Hid (Down s p 10 (shiV s p false) .i64 g x y) ∧ w = wr)
    case atStart => exact ⟨hid (Down.start s p 10 _ _ (by omega) _ (by simp [shiV, hiV])), rfl⟩
    case round =>
      obtain ⟨hd, rfl⟩ := hrel
      rcases hd.out with ⟨i, d, hi, hgi, rfl, rfl⟩ | ⟨hgi, rfl, rfl⟩
      · have hlt : p + i < s.size := by have := Hp.out; omega
        have e := bt_at s (p + i) hlt
        have HI := hid (And.intro hi hgi)
        clear hi hgi hd e4 e5
        go_wp2
        have hso := shl_or_s s p 10 i d HI.out.1 (by omega) (fun _ => .inl Hl.out)
        rw [Hng.out] at hso
        rw [hso]
        go_roundg i
        case rel => exact ⟨hid (Down.next s p 10 _ _ i d HI.out.1 _ rfl), rfl⟩
        case measure => have := HI.out.2; omega
      · have HS := hid (sval_shi s p 10 (by omega))
        rw [Hng.out] at HS
        clear e4 e5
        go_wp2
        refine bodyPost_ret (results_tmp3 rfl _ _ _) rfl ?_
        exact ⟨by rw [HS.out]; rfl, rfl⟩
set_option maxRecDepth 100000 in
theorem rS_10b (s : ByteArray) (p : Nat) (hs : s.size ≤ 281474976710656) (hp : p + 10 ≤ s.size) (hg : grpN s p 64 = 10) (hl : bt s (p + 9) = 127) (w : World) :
    Calls Try.prog 33 #[.string s, .int .i64 p, .int .i64 64] w fun e w' => e = .returned (.tuple #[.int .i64 (sval s p 10), .int .i64 (p + 10 : Nat), .int .i64 0]) ∧ w = w' := by
  have hp9 : p + 9 < s.size := by omega
  have e4 := bt_at s (p + 9) hp9
  have Hp := hid hp
  have Hg := hid hg
  have Hl := hid hl
  have hbad : decide (badAsk s p 64) = false := by rw [decide_eq_false_iff_not]; unfold badAsk; omega
  have Hng := hid (show neg7 s p 10 = true by unfold neg7; simp only [show 10 - 1 = 9 from rfl]; rw [hl]; decide)
  have e5 : bits .and .u8 127 64 = bits .and .u8 127 64 := rfl
  rw [hl] at e4
  clear hg hl
  have q1 : (bits .and .u8 127 64 != 0) = true := by decide +kernel
  clear e5
  have e5 : True := trivial
  have e4' := e4
  · go_enter Try.func33, Try.ntmps33
    go_wp2_with (first | (go_at_call 36; go_must (refine (ref01_asked _ _ _ hs _).mono ?_); rintro e w1 ⟨rfl, rfl⟩) | (go_at_call 37; go_must (refine (ref01_groups s p _ hs (by have := Hp.out; omega) (by first | exact Or.inl rfl | exact Or.inr rfl | exact Hb.out) _).mono ?_); rw [Hg.out]; rintro e w1 ⟨rfl, rfl⟩))
    go_loopg [10, 11] 10 (fun g x y wr => Hid (Down s p 10 (shiV s p true) .i64 g x y) ∧ w = wr)
    case atStart => exact ⟨hid (Down.start s p 10 _ _ (by omega) _ (by simp [shiV, hiV])), rfl⟩
    case round =>
      obtain ⟨hd, rfl⟩ := hrel
      rcases hd.out with ⟨i, d, hi, hgi, rfl, rfl⟩ | ⟨hgi, rfl, rfl⟩
      · have hlt : p + i < s.size := by have := Hp.out; omega
        have e := bt_at s (p + i) hlt
        have HI := hid (And.intro hi hgi)
        clear hi hgi hd e4 e5
        go_wp2
        have hso := shl_or_s s p 10 i d HI.out.1 (by omega) (fun _ => .inr Hl.out)
        rw [Hng.out] at hso
        rw [hso]
        go_roundg i
        case rel => exact ⟨hid (Down.next s p 10 _ _ i d HI.out.1 _ rfl), rfl⟩
        case measure => have := HI.out.2; omega
      · have HS := hid (sval_shi s p 10 (by omega))
        rw [Hng.out] at HS
        clear e4 e5
        go_wp2
        refine bodyPost_ret (results_tmp3 rfl _ _ _) rfl ?_
        exact ⟨by rw [HS.out]; rfl, rfl⟩
end Go.Proofs.Ytiamcllejdidjaa
