/-
  THE WHOLE CONTRACTS OF ref01.U AND ref01.S, and what wakes() of the laws of layer 1 returns.
-/
import Derived.Test.YtiamcllejdidjaaLebS
import Derived.Test.YtiamcllejdidjaaLebPut
namespace Go.Proofs.Ytiamcllejdidjaa
open Go.ChangeShapes Go.WideShapes Go.ChangeAt Go.RowKit

theorem below_of_eq {B : Nat} {w w' : World} (h : w = w') : Below B w w' := by subst h; exact Below.refl _ _

theorem ref01_U (s : ByteArray) (at_ bits : Int) (hs : s.size ≤ 281474976710656) (w : World) :
    Calls Try.prog 27 #[.string s, .int .i64 at_, .int .i64 bits] w fun e w' => e = .returned (uV s at_ bits) ∧ w = w' := by
  by_cases hb : badAsk s at_ bits
  · have e : uV s at_ bits = .tuple #[.int .u64 0, .int .i64 0, .int .i64 1] := by unfold uV; rw [if_pos hb]
    rw [e]
    exact rU_bad s at_ bits hs hb w
  · have hbits : bits = 32 ∨ bits = 64 := by unfold badAsk at hb; omega
    have h0 : 0 ≤ at_ := by unfold badAsk at hb; omega
    have hp : at_ ≤ s.size := by unfold badAsk at hb; omega
    obtain ⟨p, rfl⟩ := Int.eq_ofNat_of_zero_le h0
    have hle : grpN s p bits ≤ ((bits + 6) / 7).toNat := grp_le _ _ _ _
    have h10 : grpN s p bits ≤ 10 := by rcases hbits with rfl | rfl <;> omega
    unfold uV
    rw [if_neg hb, Int.toNat_natCast]
    by_cases hk : grpN s p bits = 0
    · rw [if_pos (.inl hk)]
      exact rU_0 s p bits hs (by omega) hbits hk w
    · have hsp := grp_spec s p ((bits + 6) / 7).toNat 0 (by have := hk; unfold grpN at this; rwa [Int.toNat_natCast] at this)
      have hgn : grpFrom s p ((bits + 6) / 7).toNat 0 = grpN s p bits := by unfold grpN; rw [Int.toNat_natCast]
      rw [hgn] at hsp
      by_cases hu : uErr s p (grpN s p bits) bits
      · rw [if_pos hu]
        rcases hu with h | ⟨h, h2⟩ | ⟨h, h2⟩
        · exact absurd h hk
        · obtain rfl : bits = 64 := by
            rcases hbits with rfl | rfl
            · have : grpN s p 32 ≤ 5 := hle
              omega
            · rfl
          rw [h] at hsp
          exact rU_o10 s p hs hsp.2.1 h h2 w
        · subst h
          have h5 : grpN s p 32 ≤ 5 := hle
          obtain ⟨h3, h4⟩ := (over32 s p (grpN s p 32) h5 hk hsp.2.2).1 h2
          rw [h3] at hsp
          exact rU_o5 s p hs hsp.2.1 h3 h4 w
      · rw [if_neg hu]
        have hv := valAt_64 s p (grpN s p bits) h10 (fun h => hu (.inr (.inl h)))
        by_cases h5 : grpN s p bits = 5 ∧ bits = 32
        · obtain ⟨h5, rfl⟩ := h5
          rw [h5] at hsp hv hu ⊢
          have hl : bt s (p + 4) ≤ 15 := by
            apply Decidable.byContradiction
            intro h
            exact hu (.inr (.inr ⟨rfl, (over32 s p 5 (by omega) (by omega) hsp.2.2).2 ⟨rfl, by omega⟩⟩))
          exact rU_5 s p hs hsp.2.1 h5 hv hl w
        · by_cases h10' : grpN s p bits = 10
          · obtain rfl : bits = 64 := by
              rcases hbits with rfl | rfl
              · have : grpN s p 32 ≤ 5 := hle
                omega
              · rfl
            rw [h10'] at hsp hv hu ⊢
            have hl : bt s (p + 9) ≤ 1 := by
              apply Decidable.byContradiction
              intro h
              exact hu (.inr (.inl ⟨rfl, by omega⟩))
            exact rU_10 s p hs hsp.2.1 h10' hv hl w
          · refine rU_k s p bits (grpN s p bits) hs hsp.2.1 (by omega) (by omega) hbits ?_ rfl hv w
            by_cases hb2 : bits = 32
            · left
              have : grpN s p bits ≠ 5 := fun h => h5 ⟨h, hb2⟩
              simp; omega
            · right; simpa using hb2

theorem ref01_S (s : ByteArray) (at_ bits : Int) (hs : s.size ≤ 281474976710656) (w : World) :
    Calls Try.prog 33 #[.string s, .int .i64 at_, .int .i64 bits] w fun e w' => e = .returned (sV s at_ bits) ∧ w = w' := by
  by_cases hb : badAsk s at_ bits
  · have e : sV s at_ bits = .tuple #[.int .i64 0, .int .i64 0, .int .i64 1] := by unfold sV; rw [if_pos hb]
    rw [e]
    exact rS_bad s at_ bits hs hb w
  · have hbits : bits = 32 ∨ bits = 64 := by unfold badAsk at hb; omega
    have h0 : 0 ≤ at_ := by unfold badAsk at hb; omega
    have hp : at_ ≤ s.size := by unfold badAsk at hb; omega
    obtain ⟨p, rfl⟩ := Int.eq_ofNat_of_zero_le h0
    have hle : grpN s p bits ≤ ((bits + 6) / 7).toNat := grp_le _ _ _ _
    have h10 : grpN s p bits ≤ 10 := by rcases hbits with rfl | rfl <;> omega
    unfold sV
    rw [if_neg hb, Int.toNat_natCast]
    by_cases hk : grpN s p bits = 0
    · rw [if_pos (.inl hk)]
      exact rS_0 s p bits hs (by omega) hbits hk w
    · have hsp := grp_spec s p ((bits + 6) / 7).toNat 0 (by have := hk; unfold grpN at this; rwa [Int.toNat_natCast] at this)
      have hgn : grpFrom s p ((bits + 6) / 7).toNat 0 = grpN s p bits := by unfold grpN; rw [Int.toNat_natCast]
      rw [hgn] at hsp
      by_cases h10' : grpN s p bits = 10
      · obtain rfl : bits = 64 := by
          rcases hbits with rfl | rfl
          · have : grpN s p 32 ≤ 5 := hle
            omega
          · rfl
        rw [h10'] at hsp ⊢
        by_cases hu : bt s (p + 9) ≠ 0 ∧ bt s (p + 9) ≠ 127
        · rw [if_pos (.inr (.inl ⟨rfl, hu⟩))]
          exact rS_o10 s p hs hsp.2.1 h10' hu.1 hu.2 w
        · have hn : ¬ sErr s p 10 64 := by
            rintro (h | h | h)
            · omega
            · exact hu h.2
            · omega
          rw [if_neg hn]
          by_cases hz : bt s (p + 9) = 0
          · exact rS_10a s p hs hsp.2.1 h10' hz w
          · exact rS_10b s p hs hsp.2.1 h10' (by omega) w
      · refine (rS_k s p bits (grpN s p bits) hs hsp.2.1 (by omega) (by omega) hbits rfl w).mono fun e w' ⟨he, hw⟩ => ⟨?_, hw⟩
        rw [he]
        unfold sRes
        by_cases hc : bits = 32 ∧ ¬ in32 (sval s p (grpN s p bits))
        · rw [if_pos hc, if_pos (.inr (.inr hc))]
        · rw [if_neg hc, if_neg]
          rintro (h | h | h)
          · exact hk h
          · exact h10' h.1
          · exact hc h

theorem wake_u : uV ⟨#[229, 142, 38]⟩ 0 32 = .tuple #[.int .u64 624485, .int .i64 3, .int .i64 0] := by
  have b0 : bt ⟨#[229, 142, 38]⟩ 0 = 229 := by decide
  have b1 : bt ⟨#[229, 142, 38]⟩ 1 = 142 := by decide
  have b2 : bt ⟨#[229, 142, 38]⟩ 2 = 38 := by decide
  have hg : grpN ⟨#[229, 142, 38]⟩ 0 32 = 3 := by
    unfold grpN
    rw [show ((32 + 6) / 7 : Int).toNat = 5 from by decide, show (0 : Int).toNat = 0 from rfl, grp_miss _ _ _ _ (by decide) (by rw [b0]; omega), grp_miss _ _ _ _ (by decide) (by rw [show 0 + (0 + 1) = 1 from rfl, b1]; omega), grp_hit _ _ _ _ (by decide) (by rw [show 0 + (0 + 1 + 1) = 2 from rfl, b2]; omega)]
  have hv : valAt ⟨#[229, 142, 38]⟩ 0 3 = 624485 := by simp [valAt, b0, b1, b2]
  have hb : ¬ badAsk ⟨#[229, 142, 38]⟩ 0 32 := by decide
  unfold uV
  rw [if_neg hb, hg, show (0 : Int).toNat = 0 from rfl, if_neg, hv]
  · rfl
  · rintro (h | h | h)
    · omega
    · omega
    · rw [hv] at h; omega
theorem wake_pu : (strOfNums (putU 624485)).toList = [229, 142, 38] := by
  rw [putU_step _ (by omega), putU_step _ (by omega), putU_last _ (by omega), ByteArray.toList_eq]
  decide
theorem wake_ps : (strOfNums (putS (-123456))).toList = [192, 187, 120] := by
  rw [putS_step _ (by omega), putS_step _ (by omega), putS_last _ (by omega), ByteArray.toList_eq]
  decide
theorem law01_wakes (w : World) : Calls Try.prog 25 #[] w fun e w' => e = .returned (.bool true) ∧ Below w.heap.size w w' := by
  have hB := hid (Below.refl w.heap.size w)
  have p1 := wake_pu
  have p2 := wake_ps
  go_enter Try.func25, Try.ntmps25
  go_wp2_with (first | (go_at_call 26; go_must (refine (leb_U _ _ _ (by decide) _).mono ?_); rw [wake_u]; rintro e w1 ⟨rfl, hb⟩; have Hn := hid (hB.out.trans (hb.mono hB.out.size)); clear hb hB; have hB := Hn; clear Hn) | (go_at_call 21; go_must (refine (leb_PutU 624485 (by unfold Is64; omega) _).mono ?_); rintro e w1 ⟨rfl, hb⟩; have Hn := hid (hB.out.trans (hb.mono hB.out.size)); clear hb hB; have hB := Hn; clear Hn) | (go_at_call 23; go_must (refine (leb_PutS (-123456) (by unfold IsI64; omega) _).mono ?_); rintro e w1 ⟨rfl, hb⟩; have Hn := hid (hB.out.trans (hb.mono hB.out.size)); clear hb hB; have hB := Hn; clear Hn))
  go_ret
  exact ⟨rfl, hB.out⟩
end Go.Proofs.Ytiamcllejdidjaa
