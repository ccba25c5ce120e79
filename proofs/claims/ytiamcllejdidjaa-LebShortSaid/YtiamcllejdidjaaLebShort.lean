/-
  LebShort: what is read is put in no more bytes, and read as the same then; what fits in 32 bits is read so, too. No condition.
-/
import Derived.Test.YtiamcllejdidjaaLebPut2
namespace Go.Proofs.Ytiamcllejdidjaa.lebShort
open Go.ChangeShapes Go.WideShapes Go.ChangeAt Go.RowKit Go.ChangeMaps

theorem at_all (l : List Int) (hb : ∀ x ∈ l, 0 ≤ x ∧ x < 256) : AtP (strOfNums l) 0 l :=
  atP_mid (strOfNums l) [] [] l hb (by rw [strOfNums_data]; simp)

/-- A reading without sign, and all that the law asks of it. -/
def UOk (s : ByteArray) (a : Int) (n p k : Nat) (T : ByteArray) (x y c : Int) : Prop :=
  a = p ∧ Is64 n ∧ uV s a 64 = .tuple #[.int .u64 n, .int .i64 ((p : Int) + k), .int .i64 0] ∧ strOfNums (putU n) = T ∧ T.size ≤ k ∧ p + k ≤ s.size ∧ k ≤ 10 ∧
    uV T 0 64 = .tuple #[.int .u64 n, .int .i64 T.size, .int .i64 0] ∧ uV T 0 32 = .tuple #[.int .u64 x, .int .i64 y, .int .i64 c] ∧ (n < 4294967296 ∧ c = 0 ∨ 4294967296 ≤ n ∧ c = 10)
theorem u_case (s : ByteArray) (a : Int) : (∃ c : Int, (c == 0) = false ∧ uV s a 64 = .tuple #[.int .u64 0, .int .i64 0, .int .i64 c]) ∨ (∃ n p k T x y c, UOk s a n p k T x y c) := by
  by_cases hb : badAsk s a 64
  · left; exact ⟨1, rfl, by unfold uV; rw [if_pos hb]⟩
  · by_cases hu : uErr s a.toNat (grpN s a 64) 64
    · left; exact ⟨10, rfl, by unfold uV; rw [if_neg hb, if_pos hu]⟩
    · right
      have h0 : 0 ≤ a := by unfold badAsk at hb; omega
      obtain ⟨p, rfl⟩ := Int.eq_ofNat_of_zero_le h0
      rw [Int.toNat_natCast] at hu
      have hk : grpN s p 64 ≠ 0 := fun h => hu (.inl h)
      have hg : grpN s p 64 = grpFrom s p 10 0 := by unfold grpN; rw [Int.toNat_natCast]; rfl
      have h10 : grpN s p 64 ≤ 10 := by rw [hg]; exact grp_le _ _ _ _
      have hsp := grp_spec s p 10 0 (by rw [← hg]; exact hk)
      rw [← hg] at hsp
      have hv := valAt_64 s p (grpN s p 64) h10 (fun h => hu (.inr (.inl h)))
      have hlt := valAt_lt s p (grpN s p 64)
      have hlen : (putU (valAt s p (grpN s p 64))).length ≤ grpN s p 64 := by
        have := putU_len (grpN s p 64 - 1) (valAt s p (grpN s p 64)) (by rw [show grpN s p 64 - 1 + 1 = grpN s p 64 from by omega]; exact hlt)
        omega
      have hat := at_all (putU (valAt s p (grpN s p 64))) (putU_byte _)
      have h32 := read32_putU hat
      have hT : (strOfNums (putU (valAt s p (grpN s p 64)))).size = (putU (valAt s p (grpN s p 64))).length := strOfNums_size _
      have h64 := uV_put hv hat
      rw [Nat.zero_add, ← hT] at h64
      have hbad : ¬ badAsk (strOfNums (putU (valAt s p (grpN s p 64)))) 0 32 := by unfold badAsk; omega
      have hU : uV s p 64 = .tuple #[.int .u64 (valAt s p (grpN s p 64)), .int .i64 ((p : Int) + grpN s p 64), .int .i64 0] := by
        unfold uV
        rw [if_neg hb, Int.toNat_natCast, if_neg hu]
        rfl
      by_cases hc : 4294967296 ≤ valAt s p (grpN s p 64)
      · have he : uErr (strOfNums (putU (valAt s p (grpN s p 64)))) 0 (grpN (strOfNums (putU (valAt s p (grpN s p 64)))) 0 32) 32 := by
          rcases h32.2 hc with h | h
          · exact .inl h
          · exact h
        exact ⟨_, p, grpN s p 64, _, 0, 0, 10, rfl, hv, hU, rfl, by omega, by omega, h10, h64, by unfold uV; rw [if_neg hbad, show (0 : Int).toNat = 0 from rfl, if_pos he], .inr ⟨hc, rfl⟩⟩
      · have he : ¬ uErr (strOfNums (putU (valAt s p (grpN s p 64)))) 0 (grpN (strOfNums (putU (valAt s p (grpN s p 64)))) 0 32) 32 := fun h => hc (h32.1 (.inr h))
        exact ⟨_, p, grpN s p 64, _, _, _, 0, rfl, hv, hU, rfl, by omega, by omega, h10, h64, by unfold uV; rw [if_neg hbad, show (0 : Int).toNat = 0 from rfl, if_neg he], .inl ⟨by omega, rfl⟩⟩

/-- A reading with sign, and all that the law asks of it. -/
def SOk (s : ByteArray) (a n : Int) (p k : Nat) (T : ByteArray) (x y c : Int) : Prop :=
  a = p ∧ IsI64 n ∧ sV s a 64 = .tuple #[.int .i64 n, .int .i64 ((p : Int) + k), .int .i64 0] ∧ strOfNums (putS n) = T ∧ T.size ≤ k ∧ p + k ≤ s.size ∧ k ≤ 10 ∧
    sV T 0 64 = .tuple #[.int .i64 n, .int .i64 T.size, .int .i64 0] ∧ sV T 0 32 = .tuple #[.int .i64 x, .int .i64 y, .int .i64 c] ∧ (in32 n ∧ c = 0 ∨ ¬ in32 n ∧ c = 10)
theorem sval_64 (s : ByteArray) (p k : Nat) (hk : 0 < k) (h10 : k ≤ 10) (ht : k = 10 → bt s (p + 9) = 0 ∨ bt s (p + 9) = 127) : IsI64 (sval s p k) := by
  by_cases h9 : k ≤ 9
  · have h1 := valAt_lt s p k
    have h2 : (128 : Nat) ^ k ≤ 128 ^ 9 := Nat.pow_le_pow_right (by omega) h9
    rw [show (128 : Nat) ^ 9 = 9223372036854775808 from by decide] at h2
    unfold IsI64 sval
    split <;> omega
  · obtain rfl : k = 10 := by omega
    rw [← sval_ten s p (ht rfl)]
    unfold IsI64 wrap64
    omega
theorem sval_len (s : ByteArray) (p k : Nat) (hk : 0 < k) : (putS (sval s p k)).length ≤ k := by
  have h1 := valAt_lt s p k
  have e : (128 : Nat) ^ k = 128 * 128 ^ (k - 1) := by rw [← Nat.pow_succ']; congr 1; omega
  have := putS_len (k - 1) (sval s p k) (by unfold sval; split <;> omega) (by unfold sval; split <;> omega)
  omega
theorem s_case (s : ByteArray) (a : Int) : (∃ c : Int, (c == 0) = false ∧ sV s a 64 = .tuple #[.int .i64 0, .int .i64 0, .int .i64 c]) ∨ (∃ n p k T x y c, SOk s a n p k T x y c) := by
  by_cases hb : badAsk s a 64
  · left; exact ⟨1, rfl, by unfold sV; rw [if_pos hb]⟩
  · by_cases hu : sErr s a.toNat (grpN s a 64) 64
    · left; exact ⟨10, rfl, by unfold sV; rw [if_neg hb, if_pos hu]⟩
    · right
      have h0 : 0 ≤ a := by unfold badAsk at hb; omega
      obtain ⟨p, rfl⟩ := Int.eq_ofNat_of_zero_le h0
      rw [Int.toNat_natCast] at hu
      have hk : grpN s p 64 ≠ 0 := fun h => hu (.inl h)
      have hg : grpN s p 64 = grpFrom s p 10 0 := by unfold grpN; rw [Int.toNat_natCast]; rfl
      have h10 : grpN s p 64 ≤ 10 := by rw [hg]; exact grp_le _ _ _ _
      have hsp := grp_spec s p 10 0 (by rw [← hg]; exact hk)
      rw [← hg] at hsp
      have ht : grpN s p 64 = 10 → bt s (p + 9) = 0 ∨ bt s (p + 9) = 127 := by
        intro h
        apply Decidable.byContradiction
        intro h2
        exact hu (.inr (.inl ⟨h, by omega, by omega⟩))
      have hv := sval_64 s p (grpN s p 64) (by omega) h10 ht
      have hlen := sval_len s p (grpN s p 64) (by omega)
      have hat := at_all (putS (sval s p (grpN s p 64))) (putS_byte _ _ (Nat.le_refl _))
      have h32 := read32_putS hat
      have hT : (strOfNums (putS (sval s p (grpN s p 64)))).size = (putS (sval s p (grpN s p 64))).length := strOfNums_size _
      have h64 := sV_put hv hat
      rw [Nat.zero_add, ← hT] at h64
      have hbad : ¬ badAsk (strOfNums (putS (sval s p (grpN s p 64)))) 0 32 := by unfold badAsk; omega
      have hS : sV s p 64 = .tuple #[.int .i64 (sval s p (grpN s p 64)), .int .i64 ((p : Int) + grpN s p 64), .int .i64 0] := by
        unfold sV
        rw [if_neg hb, Int.toNat_natCast, if_neg hu]
        rfl
      by_cases hc : in32 (sval s p (grpN s p 64))
      · have he : ¬ sErr (strOfNums (putS (sval s p (grpN s p 64)))) 0 (grpN (strOfNums (putS (sval s p (grpN s p 64)))) 0 32) 32 := fun h => h32.1 (.inr h) hc
        exact ⟨_, p, grpN s p 64, _, _, _, 0, rfl, hv, hS, rfl, by omega, by omega, h10, h64, by unfold sV; rw [if_neg hbad, show (0 : Int).toNat = 0 from rfl, if_neg he], .inl ⟨hc, rfl⟩⟩
      · have he : sErr (strOfNums (putS (sval s p (grpN s p 64)))) 0 (grpN (strOfNums (putS (sval s p (grpN s p 64)))) 0 32) 32 := by
          rcases h32.2 hc with h | h
          · exact .inl h
          · exact h
        exact ⟨_, p, grpN s p 64, _, 0, 0, 10, rfl, hv, hS, rfl, by omega, by omega, h10, h64, by unfold sV; rw [if_neg hbad, show (0 : Int).toNat = 0 from rfl, if_pos he], .inr ⟨hc, rfl⟩⟩

theorem putU_int (n : Nat) (N : Int) (hN : (n : Int) = N) (hn : Is64 n) (T : ByteArray) (hT : strOfNums (putU n) = T) (w : World) : Calls Try.prog 21 #[.int .u64 N] w fun e w' => e = .returned (.string T) ∧ Below w.heap.size w w' := by
  subst hN; subst hT
  exact leb_PutU n hn w
theorem w_ff (s : ByteArray) (hs : s.size ≤ 140737488351232) (a c d : Int) (hc : (c == 0) = false) (u1 : uV s a 64 = .tuple #[.int .u64 0, .int .i64 0, .int .i64 c]) (hd : (d == 0) = false) (s1 : sV s a 64 = .tuple #[.int .i64 0, .int .i64 0, .int .i64 d]) (w : World) :
    Calls Try.prog 12 #[.string s, .int .i64 a] w fun e w' => e = .returned (.bool true) ∧ Below w.heap.size w w' := by
  have hB := hid (Below.refl w.heap.size w)
  have U1 := hid u1
  have S1 := hid s1
  clear u1 s1
  (go_enter Try.func12, Try.ntmps12; go_wp2_with (first | (go_at_call 21; go_must (refine (HP.out _).mono ?_); rintro e w1 ⟨rfl, hb⟩; have Hn := hid (hB.out.trans (hb.mono hB.out.size)); clear hb hB; have hB := Hn; clear Hn) | (go_at_call 23; go_must (refine (leb_PutS _ hm _).mono ?_); rintro e w1 ⟨he, hb⟩; rw [HS.out] at he; subst he; have Hn := hid (hB.out.trans (hb.mono hB.out.size)); clear hb hB; have hB := Hn; clear Hn) | (go_at_call 26; go_must (refine (leb_U _ _ _ (by omega) _).mono ?_); rintro e w1 ⟨he, hb⟩; go_must (first | rw [U1.out] at he | rw [U2.out] at he | rw [U3.out] at he); subst he; have Hn := hid (hB.out.trans (hb.mono hB.out.size)); clear hb hB; have hB := Hn; clear Hn) | (go_at_call 32; go_must (refine (leb_S _ _ _ (by omega) _).mono ?_); rintro e w1 ⟨he, hb⟩; go_must (first | rw [S1.out] at he | rw [S2.out] at he | rw [S3.out] at he); subst he; have Hn := hid (hB.out.trans (hb.mono hB.out.size)); clear hb hB; have hB := Hn; clear Hn) | (go_at_call 25; go_must (refine (law01_wakes _).mono ?_); rintro e w1 ⟨rfl, hb⟩; have Hn := hid (hB.out.trans (hb.mono hB.out.size)); clear hb hB; have hB := Hn; clear Hn)); go_ret; exact ⟨rfl, hB.out⟩)
set_option maxHeartbeats 1000000 in
set_option maxRecDepth 100000 in
theorem w_fs (s : ByteArray) (hs : s.size ≤ 140737488351232) (q : Nat) (c : Int) (hc : (c == 0) = false) (u1 : uV s q 64 = .tuple #[.int .u64 0, .int .i64 0, .int .i64 c]) {m : Int} {j : Nat} {R : ByteArray} {z t d : Int} (h : SOk s q m q j R z t d) (w : World) :
    Calls Try.prog 12 #[.string s, .int .i64 q] w fun e w' => e = .returned (.bool true) ∧ Below w.heap.size w w' := by
  have hB := hid (Below.refl w.heap.size w)
  obtain ⟨_, hm, s1, hS, r1, r2, r3, s2, s3, hd⟩ := h
  have U1 := hid u1
  clear u1
  have S1 := hid s1
  have S2 := hid s2
  have S3 := hid s3
  have HS := hid hS
  clear s1 s2 s3 hS
  have q1 : (q : Int) + j ≤ s.size := by omega
  rcases hd with ⟨⟨i1, i2⟩, rfl⟩ | ⟨hi, rfl⟩
  · (go_enter Try.func12, Try.ntmps12; go_wp2_with (first | (go_at_call 21; go_must (refine (HP.out _).mono ?_); rintro e w1 ⟨rfl, hb⟩; have Hn := hid (hB.out.trans (hb.mono hB.out.size)); clear hb hB; have hB := Hn; clear Hn) | (go_at_call 23; go_must (refine (leb_PutS _ hm _).mono ?_); rintro e w1 ⟨he, hb⟩; rw [HS.out] at he; subst he; have Hn := hid (hB.out.trans (hb.mono hB.out.size)); clear hb hB; have hB := Hn; clear Hn) | (go_at_call 26; go_must (refine (leb_U _ _ _ (by omega) _).mono ?_); rintro e w1 ⟨he, hb⟩; go_must (first | rw [U1.out] at he | rw [U2.out] at he | rw [U3.out] at he); subst he; have Hn := hid (hB.out.trans (hb.mono hB.out.size)); clear hb hB; have hB := Hn; clear Hn) | (go_at_call 32; go_must (refine (leb_S _ _ _ (by omega) _).mono ?_); rintro e w1 ⟨he, hb⟩; go_must (first | rw [S1.out] at he | rw [S2.out] at he | rw [S3.out] at he); subst he; have Hn := hid (hB.out.trans (hb.mono hB.out.size)); clear hb hB; have hB := Hn; clear Hn) | (go_at_call 25; go_must (refine (law01_wakes _).mono ?_); rintro e w1 ⟨rfl, hb⟩; have Hn := hid (hB.out.trans (hb.mono hB.out.size)); clear hb hB; have hB := Hn; clear Hn)); go_ret; exact ⟨rfl, hB.out⟩)
  · have hi' : m < -2147483648 ∨ 2147483648 ≤ m := by unfold in32 at hi; omega
    clear hi
    rcases hi' with hi | hi
    · (go_enter Try.func12, Try.ntmps12; go_wp2_with (first | (go_at_call 21; go_must (refine (HP.out _).mono ?_); rintro e w1 ⟨rfl, hb⟩; have Hn := hid (hB.out.trans (hb.mono hB.out.size)); clear hb hB; have hB := Hn; clear Hn) | (go_at_call 23; go_must (refine (leb_PutS _ hm _).mono ?_); rintro e w1 ⟨he, hb⟩; rw [HS.out] at he; subst he; have Hn := hid (hB.out.trans (hb.mono hB.out.size)); clear hb hB; have hB := Hn; clear Hn) | (go_at_call 26; go_must (refine (leb_U _ _ _ (by omega) _).mono ?_); rintro e w1 ⟨he, hb⟩; go_must (first | rw [U1.out] at he | rw [U2.out] at he | rw [U3.out] at he); subst he; have Hn := hid (hB.out.trans (hb.mono hB.out.size)); clear hb hB; have hB := Hn; clear Hn) | (go_at_call 32; go_must (refine (leb_S _ _ _ (by omega) _).mono ?_); rintro e w1 ⟨he, hb⟩; go_must (first | rw [S1.out] at he | rw [S2.out] at he | rw [S3.out] at he); subst he; have Hn := hid (hB.out.trans (hb.mono hB.out.size)); clear hb hB; have hB := Hn; clear Hn) | (go_at_call 25; go_must (refine (law01_wakes _).mono ?_); rintro e w1 ⟨rfl, hb⟩; have Hn := hid (hB.out.trans (hb.mono hB.out.size)); clear hb hB; have hB := Hn; clear Hn)); go_ret; exact ⟨rfl, hB.out⟩)
    · (go_enter Try.func12, Try.ntmps12; go_wp2_with (first | (go_at_call 21; go_must (refine (HP.out _).mono ?_); rintro e w1 ⟨rfl, hb⟩; have Hn := hid (hB.out.trans (hb.mono hB.out.size)); clear hb hB; have hB := Hn; clear Hn) | (go_at_call 23; go_must (refine (leb_PutS _ hm _).mono ?_); rintro e w1 ⟨he, hb⟩; rw [HS.out] at he; subst he; have Hn := hid (hB.out.trans (hb.mono hB.out.size)); clear hb hB; have hB := Hn; clear Hn) | (go_at_call 26; go_must (refine (leb_U _ _ _ (by omega) _).mono ?_); rintro e w1 ⟨he, hb⟩; go_must (first | rw [U1.out] at he | rw [U2.out] at he | rw [U3.out] at he); subst he; have Hn := hid (hB.out.trans (hb.mono hB.out.size)); clear hb hB; have hB := Hn; clear Hn) | (go_at_call 32; go_must (refine (leb_S _ _ _ (by omega) _).mono ?_); rintro e w1 ⟨he, hb⟩; go_must (first | rw [S1.out] at he | rw [S2.out] at he | rw [S3.out] at he); subst he; have Hn := hid (hB.out.trans (hb.mono hB.out.size)); clear hb hB; have hB := Hn; clear Hn) | (go_at_call 25; go_must (refine (law01_wakes _).mono ?_); rintro e w1 ⟨rfl, hb⟩; have Hn := hid (hB.out.trans (hb.mono hB.out.size)); clear hb hB; have hB := Hn; clear Hn)); go_ret; exact ⟨rfl, hB.out⟩)
set_option maxHeartbeats 1000000 in
set_option maxRecDepth 100000 in
theorem w_sf (s : ByteArray) (hs : s.size ≤ 140737488351232) (p : Nat) (d : Int) (hd : (d == 0) = false) (s1 : sV s p 64 = .tuple #[.int .i64 0, .int .i64 0, .int .i64 d]) {n k : Nat} {T : ByteArray} {x y c : Int} (h : UOk s p n p k T x y c) (w : World) :
    Calls Try.prog 12 #[.string s, .int .i64 p] w fun e w' => e = .returned (.bool true) ∧ Below w.heap.size w w' := by
  have hB := hid (Below.refl w.heap.size w)
  obtain ⟨_, hn, u1, hA, t1, t2, t3, u2, u3, hc⟩ := h
  have S1 := hid s1
  clear s1
  obtain ⟨N, hN⟩ : ∃ N : Int, (n : Int) = N := ⟨_, rfl⟩
  have HP := hid (putU_int n N hN hn T hA)
  rw [hN] at u1 u2
  have hc : N < 4294967296 ∧ c = 0 ∨ 4294967296 ≤ N ∧ c = 10 := by omega
  clear hN hn hA
  have U1 := hid u1
  have U2 := hid u2
  have U3 := hid u3
  clear u1 u2 u3
  have p1 : (p : Int) + k ≤ s.size := by omega
  rcases hc with ⟨hi, rfl⟩ | ⟨hi, rfl⟩
  · (go_enter Try.func12, Try.ntmps12; go_wp2_with (first | (go_at_call 21; go_must (refine (HP.out _).mono ?_); rintro e w1 ⟨rfl, hb⟩; have Hn := hid (hB.out.trans (hb.mono hB.out.size)); clear hb hB; have hB := Hn; clear Hn) | (go_at_call 23; go_must (refine (leb_PutS _ hm _).mono ?_); rintro e w1 ⟨he, hb⟩; rw [HS.out] at he; subst he; have Hn := hid (hB.out.trans (hb.mono hB.out.size)); clear hb hB; have hB := Hn; clear Hn) | (go_at_call 26; go_must (refine (leb_U _ _ _ (by omega) _).mono ?_); rintro e w1 ⟨he, hb⟩; go_must (first | rw [U1.out] at he | rw [U2.out] at he | rw [U3.out] at he); subst he; have Hn := hid (hB.out.trans (hb.mono hB.out.size)); clear hb hB; have hB := Hn; clear Hn) | (go_at_call 32; go_must (refine (leb_S _ _ _ (by omega) _).mono ?_); rintro e w1 ⟨he, hb⟩; go_must (first | rw [S1.out] at he | rw [S2.out] at he | rw [S3.out] at he); subst he; have Hn := hid (hB.out.trans (hb.mono hB.out.size)); clear hb hB; have hB := Hn; clear Hn) | (go_at_call 25; go_must (refine (law01_wakes _).mono ?_); rintro e w1 ⟨rfl, hb⟩; have Hn := hid (hB.out.trans (hb.mono hB.out.size)); clear hb hB; have hB := Hn; clear Hn)); go_ret; exact ⟨rfl, hB.out⟩)
  · (go_enter Try.func12, Try.ntmps12; go_wp2_with (first | (go_at_call 21; go_must (refine (HP.out _).mono ?_); rintro e w1 ⟨rfl, hb⟩; have Hn := hid (hB.out.trans (hb.mono hB.out.size)); clear hb hB; have hB := Hn; clear Hn) | (go_at_call 23; go_must (refine (leb_PutS _ hm _).mono ?_); rintro e w1 ⟨he, hb⟩; rw [HS.out] at he; subst he; have Hn := hid (hB.out.trans (hb.mono hB.out.size)); clear hb hB; have hB := Hn; clear Hn) | (go_at_call 26; go_must (refine (leb_U _ _ _ (by omega) _).mono ?_); rintro e w1 ⟨he, hb⟩; go_must (first | rw [U1.out] at he | rw [U2.out] at he | rw [U3.out] at he); subst he; have Hn := hid (hB.out.trans (hb.mono hB.out.size)); clear hb hB; have hB := Hn; clear Hn) | (go_at_call 32; go_must (refine (leb_S _ _ _ (by omega) _).mono ?_); rintro e w1 ⟨he, hb⟩; go_must (first | rw [S1.out] at he | rw [S2.out] at he | rw [S3.out] at he); subst he; have Hn := hid (hB.out.trans (hb.mono hB.out.size)); clear hb hB; have hB := Hn; clear Hn) | (go_at_call 25; go_must (refine (law01_wakes _).mono ?_); rintro e w1 ⟨rfl, hb⟩; have Hn := hid (hB.out.trans (hb.mono hB.out.size)); clear hb hB; have hB := Hn; clear Hn)); go_ret; exact ⟨rfl, hB.out⟩)
set_option maxHeartbeats 1000000 in
set_option maxRecDepth 100000 in
theorem w_ss1 (s : ByteArray) (hs : s.size ≤ 140737488351232) (p : Nat) {n k : Nat} {T : ByteArray} {x y : Int} (h : UOk s p n p k T x y 0) {m : Int} {j : Nat} {R : ByteArray} {z t d : Int} (h2 : SOk s p m p j R z t d) (w : World) :
    Calls Try.prog 12 #[.string s, .int .i64 p] w fun e w' => e = .returned (.bool true) ∧ Below w.heap.size w w' := by
  have hB := hid (Below.refl w.heap.size w)
  obtain ⟨_, hn, u1, hA, t1, t2, t3, u2, u3, hc⟩ := h
  obtain ⟨_, hm, s1, hS, r1, r2, r3, s2, s3, hd⟩ := h2
  obtain ⟨N, hN⟩ : ∃ N : Int, (n : Int) = N := ⟨_, rfl⟩
  have HP := hid (putU_int n N hN hn T hA)
  rw [hN] at u1 u2
  have hi : N < 4294967296 := by omega
  clear hc hN hn hA
  have U1 := hid u1
  have U2 := hid u2
  have U3 := hid u3
  clear u1 u2 u3
  have S1 := hid s1
  have S2 := hid s2
  have S3 := hid s3
  have HS := hid hS
  clear s1 s2 s3 hS
  have p1 : (p : Int) + k ≤ s.size := by omega
  have q1 : (p : Int) + j ≤ s.size := by omega
  rcases hd with ⟨⟨i1, i2⟩, rfl⟩ | ⟨hi, rfl⟩
  · (go_enter Try.func12, Try.ntmps12; go_wp2_with (first | (go_at_call 21; go_must (refine (HP.out _).mono ?_); rintro e w1 ⟨rfl, hb⟩; have Hn := hid (hB.out.trans (hb.mono hB.out.size)); clear hb hB; have hB := Hn; clear Hn) | (go_at_call 23; go_must (refine (leb_PutS _ hm _).mono ?_); rintro e w1 ⟨he, hb⟩; rw [HS.out] at he; subst he; have Hn := hid (hB.out.trans (hb.mono hB.out.size)); clear hb hB; have hB := Hn; clear Hn) | (go_at_call 26; go_must (refine (leb_U _ _ _ (by omega) _).mono ?_); rintro e w1 ⟨he, hb⟩; go_must (first | rw [U1.out] at he | rw [U2.out] at he | rw [U3.out] at he); subst he; have Hn := hid (hB.out.trans (hb.mono hB.out.size)); clear hb hB; have hB := Hn; clear Hn) | (go_at_call 32; go_must (refine (leb_S _ _ _ (by omega) _).mono ?_); rintro e w1 ⟨he, hb⟩; go_must (first | rw [S1.out] at he | rw [S2.out] at he | rw [S3.out] at he); subst he; have Hn := hid (hB.out.trans (hb.mono hB.out.size)); clear hb hB; have hB := Hn; clear Hn) | (go_at_call 25; go_must (refine (law01_wakes _).mono ?_); rintro e w1 ⟨rfl, hb⟩; have Hn := hid (hB.out.trans (hb.mono hB.out.size)); clear hb hB; have hB := Hn; clear Hn)); go_ret; exact ⟨rfl, hB.out⟩)
  · have hi' : m < -2147483648 ∨ 2147483648 ≤ m := by unfold in32 at hi; omega
    clear hi
    rcases hi' with hi | hi
    · (go_enter Try.func12, Try.ntmps12; go_wp2_with (first | (go_at_call 21; go_must (refine (HP.out _).mono ?_); rintro e w1 ⟨rfl, hb⟩; have Hn := hid (hB.out.trans (hb.mono hB.out.size)); clear hb hB; have hB := Hn; clear Hn) | (go_at_call 23; go_must (refine (leb_PutS _ hm _).mono ?_); rintro e w1 ⟨he, hb⟩; rw [HS.out] at he; subst he; have Hn := hid (hB.out.trans (hb.mono hB.out.size)); clear hb hB; have hB := Hn; clear Hn) | (go_at_call 26; go_must (refine (leb_U _ _ _ (by omega) _).mono ?_); rintro e w1 ⟨he, hb⟩; go_must (first | rw [U1.out] at he | rw [U2.out] at he | rw [U3.out] at he); subst he; have Hn := hid (hB.out.trans (hb.mono hB.out.size)); clear hb hB; have hB := Hn; clear Hn) | (go_at_call 32; go_must (refine (leb_S _ _ _ (by omega) _).mono ?_); rintro e w1 ⟨he, hb⟩; go_must (first | rw [S1.out] at he | rw [S2.out] at he | rw [S3.out] at he); subst he; have Hn := hid (hB.out.trans (hb.mono hB.out.size)); clear hb hB; have hB := Hn; clear Hn) | (go_at_call 25; go_must (refine (law01_wakes _).mono ?_); rintro e w1 ⟨rfl, hb⟩; have Hn := hid (hB.out.trans (hb.mono hB.out.size)); clear hb hB; have hB := Hn; clear Hn)); go_ret; exact ⟨rfl, hB.out⟩)
    · (go_enter Try.func12, Try.ntmps12; go_wp2_with (first | (go_at_call 21; go_must (refine (HP.out _).mono ?_); rintro e w1 ⟨rfl, hb⟩; have Hn := hid (hB.out.trans (hb.mono hB.out.size)); clear hb hB; have hB := Hn; clear Hn) | (go_at_call 23; go_must (refine (leb_PutS _ hm _).mono ?_); rintro e w1 ⟨he, hb⟩; rw [HS.out] at he; subst he; have Hn := hid (hB.out.trans (hb.mono hB.out.size)); clear hb hB; have hB := Hn; clear Hn) | (go_at_call 26; go_must (refine (leb_U _ _ _ (by omega) _).mono ?_); rintro e w1 ⟨he, hb⟩; go_must (first | rw [U1.out] at he | rw [U2.out] at he | rw [U3.out] at he); subst he; have Hn := hid (hB.out.trans (hb.mono hB.out.size)); clear hb hB; have hB := Hn; clear Hn) | (go_at_call 32; go_must (refine (leb_S _ _ _ (by omega) _).mono ?_); rintro e w1 ⟨he, hb⟩; go_must (first | rw [S1.out] at he | rw [S2.out] at he | rw [S3.out] at he); subst he; have Hn := hid (hB.out.trans (hb.mono hB.out.size)); clear hb hB; have hB := Hn; clear Hn) | (go_at_call 25; go_must (refine (law01_wakes _).mono ?_); rintro e w1 ⟨rfl, hb⟩; have Hn := hid (hB.out.trans (hb.mono hB.out.size)); clear hb hB; have hB := Hn; clear Hn)); go_ret; exact ⟨rfl, hB.out⟩)
set_option maxHeartbeats 1000000 in
set_option maxRecDepth 100000 in
theorem w_ss2 (s : ByteArray) (hs : s.size ≤ 140737488351232) (p : Nat) {n k : Nat} {T : ByteArray} {x y : Int} (h : UOk s p n p k T x y 10) {m : Int} {j : Nat} {R : ByteArray} {z t d : Int} (h2 : SOk s p m p j R z t d) (w : World) :
    Calls Try.prog 12 #[.string s, .int .i64 p] w fun e w' => e = .returned (.bool true) ∧ Below w.heap.size w w' := by
  have hB := hid (Below.refl w.heap.size w)
  obtain ⟨_, hn, u1, hA, t1, t2, t3, u2, u3, hc⟩ := h
  obtain ⟨_, hm, s1, hS, r1, r2, r3, s2, s3, hd⟩ := h2
  obtain ⟨N, hN⟩ : ∃ N : Int, (n : Int) = N := ⟨_, rfl⟩
  have HP := hid (putU_int n N hN hn T hA)
  rw [hN] at u1 u2
  have hi : 4294967296 ≤ N := by omega
  clear hc hN hn hA
  have U1 := hid u1
  have U2 := hid u2
  have U3 := hid u3
  clear u1 u2 u3
  have S1 := hid s1
  have S2 := hid s2
  have S3 := hid s3
  have HS := hid hS
  clear s1 s2 s3 hS
  have p1 : (p : Int) + k ≤ s.size := by omega
  have q1 : (p : Int) + j ≤ s.size := by omega
  rcases hd with ⟨⟨i1, i2⟩, rfl⟩ | ⟨hi, rfl⟩
  · (go_enter Try.func12, Try.ntmps12; go_wp2_with (first | (go_at_call 21; go_must (refine (HP.out _).mono ?_); rintro e w1 ⟨rfl, hb⟩; have Hn := hid (hB.out.trans (hb.mono hB.out.size)); clear hb hB; have hB := Hn; clear Hn) | (go_at_call 23; go_must (refine (leb_PutS _ hm _).mono ?_); rintro e w1 ⟨he, hb⟩; rw [HS.out] at he; subst he; have Hn := hid (hB.out.trans (hb.mono hB.out.size)); clear hb hB; have hB := Hn; clear Hn) | (go_at_call 26; go_must (refine (leb_U _ _ _ (by omega) _).mono ?_); rintro e w1 ⟨he, hb⟩; go_must (first | rw [U1.out] at he | rw [U2.out] at he | rw [U3.out] at he); subst he; have Hn := hid (hB.out.trans (hb.mono hB.out.size)); clear hb hB; have hB := Hn; clear Hn) | (go_at_call 32; go_must (refine (leb_S _ _ _ (by omega) _).mono ?_); rintro e w1 ⟨he, hb⟩; go_must (first | rw [S1.out] at he | rw [S2.out] at he | rw [S3.out] at he); subst he; have Hn := hid (hB.out.trans (hb.mono hB.out.size)); clear hb hB; have hB := Hn; clear Hn) | (go_at_call 25; go_must (refine (law01_wakes _).mono ?_); rintro e w1 ⟨rfl, hb⟩; have Hn := hid (hB.out.trans (hb.mono hB.out.size)); clear hb hB; have hB := Hn; clear Hn)); go_ret; exact ⟨rfl, hB.out⟩)
  · have hi' : m < -2147483648 ∨ 2147483648 ≤ m := by unfold in32 at hi; omega
    clear hi
    rcases hi' with hi | hi
    · (go_enter Try.func12, Try.ntmps12; go_wp2_with (first | (go_at_call 21; go_must (refine (HP.out _).mono ?_); rintro e w1 ⟨rfl, hb⟩; have Hn := hid (hB.out.trans (hb.mono hB.out.size)); clear hb hB; have hB := Hn; clear Hn) | (go_at_call 23; go_must (refine (leb_PutS _ hm _).mono ?_); rintro e w1 ⟨he, hb⟩; rw [HS.out] at he; subst he; have Hn := hid (hB.out.trans (hb.mono hB.out.size)); clear hb hB; have hB := Hn; clear Hn) | (go_at_call 26; go_must (refine (leb_U _ _ _ (by omega) _).mono ?_); rintro e w1 ⟨he, hb⟩; go_must (first | rw [U1.out] at he | rw [U2.out] at he | rw [U3.out] at he); subst he; have Hn := hid (hB.out.trans (hb.mono hB.out.size)); clear hb hB; have hB := Hn; clear Hn) | (go_at_call 32; go_must (refine (leb_S _ _ _ (by omega) _).mono ?_); rintro e w1 ⟨he, hb⟩; go_must (first | rw [S1.out] at he | rw [S2.out] at he | rw [S3.out] at he); subst he; have Hn := hid (hB.out.trans (hb.mono hB.out.size)); clear hb hB; have hB := Hn; clear Hn) | (go_at_call 25; go_must (refine (law01_wakes _).mono ?_); rintro e w1 ⟨rfl, hb⟩; have Hn := hid (hB.out.trans (hb.mono hB.out.size)); clear hb hB; have hB := Hn; clear Hn)); go_ret; exact ⟨rfl, hB.out⟩)
    · (go_enter Try.func12, Try.ntmps12; go_wp2_with (first | (go_at_call 21; go_must (refine (HP.out _).mono ?_); rintro e w1 ⟨rfl, hb⟩; have Hn := hid (hB.out.trans (hb.mono hB.out.size)); clear hb hB; have hB := Hn; clear Hn) | (go_at_call 23; go_must (refine (leb_PutS _ hm _).mono ?_); rintro e w1 ⟨he, hb⟩; rw [HS.out] at he; subst he; have Hn := hid (hB.out.trans (hb.mono hB.out.size)); clear hb hB; have hB := Hn; clear Hn) | (go_at_call 26; go_must (refine (leb_U _ _ _ (by omega) _).mono ?_); rintro e w1 ⟨he, hb⟩; go_must (first | rw [U1.out] at he | rw [U2.out] at he | rw [U3.out] at he); subst he; have Hn := hid (hB.out.trans (hb.mono hB.out.size)); clear hb hB; have hB := Hn; clear Hn) | (go_at_call 32; go_must (refine (leb_S _ _ _ (by omega) _).mono ?_); rintro e w1 ⟨he, hb⟩; go_must (first | rw [S1.out] at he | rw [S2.out] at he | rw [S3.out] at he); subst he; have Hn := hid (hB.out.trans (hb.mono hB.out.size)); clear hb hB; have hB := Hn; clear Hn) | (go_at_call 25; go_must (refine (law01_wakes _).mono ?_); rintro e w1 ⟨rfl, hb⟩; have Hn := hid (hB.out.trans (hb.mono hB.out.size)); clear hb hB; have hB := Hn; clear Hn)); go_ret; exact ⟨rfl, hB.out⟩)

theorem walk (s : ByteArray) (hs : s.size ≤ 140737488351232) (a : Int) (_ : (Lit.int .i64 a).wf = true) (w : World) : Calls Try.prog 12 #[.string s, .int .i64 a] w fun e w' => e = .returned (.bool true) ∧ Below w.heap.size w w' := by
  rcases u_case s a with ⟨c, hc, hu⟩ | ⟨n, p, k, T, x, y, c, hU⟩
  · rcases s_case s a with ⟨d, hd, hv⟩ | ⟨m, q, j, R, z, t, d, hS⟩
    · exact w_ff s hs a c d hc hu hd hv w
    · obtain rfl := hS.1
      exact w_fs s hs q c hc hu hS w
  · obtain rfl := hU.1
    rcases s_case s p with ⟨d, hd, hv⟩ | ⟨m, q, j, R, z, t, d, hS⟩
    · exact w_sf s hs p d hd hv hU w
    · obtain rfl : p = q := by have := hS.1; omega
      have hc := hU.2.2.2.2.2.2.2.2.2
      rcases hc with ⟨_, rfl⟩ | ⟨_, rfl⟩
      · exact w_ss1 s hs p hU hS w
      · exact w_ss2 s hs p hU hS w

theorem answers {H : Type} (enc : TypeId × Value → H) : Answers enc Try.prog 12 Try.f12 := by
  intro W base args ds ps hA hval hlt hwt
  rw [Try.params12] at hA hval
  obtain ⟨v0, vs0, d0, ds0, p0, q0, hargs, rfl, rfl, h0, r0⟩ := trodAll_cons hA
  obtain ⟨v1, vs1, d1, ds1, p1, q1, rfl, rfl, rfl, h1, r1⟩ := trodAll_cons r0
  obtain ⟨rfl, rfl, rfl⟩ := trodAll_nil r1
  obtain rfl : args = #[v0, v1] := by cases args; simp_all
  obtain ⟨a0, rfl, rfl, rfl, w0⟩ := open_string Try.underlying9 (hval 0 9 v0 rfl rfl) h0
  obtain ⟨a1, rfl, rfl, rfl, w1⟩ := open_int Try.underlying3 (hval 1 3 v1 rfl rfl) h1
  exact walk a0 (str_reach hwt (j := 0) rfl rfl) a1 w1 W
theorem hspec {H : Type} (ds : List (DataW H)) (h : ds.length = (Try.f12).params.toList.length) : Rows.lebShortSpec.fn H ds = { results := [.lit (.bool true)], args := ds } := by
  rw [Try.params12] at h
  match ds, h with
  | [_, _], _ => rfl
theorem lifted (os : Os) (started : os.Started) (H : Type) (enc : TypeId × Value → H) : ReturnsInHanded {} Try.checked os 12 .any (Rows.lebShortSpec.pre6 enc Try.prog Try.f12 Rows.lebShortRow.domain false) (Rows.lebShortSpec.post enc Try.prog Try.f12 false true false false) :=
  lifted_of_walk (tb := 4) (by kernel_rfl) started (by kernel_rfl) Try.func12 rfl hspec rfl Try.underlying4 (by kernel_rfl) (by kernel_rfl)
    (ChangeSpec.witness6 (enc := enc) (C := Try.checked) false ⟨#[], #[.string ⟨#[]⟩, .int .i64 0], []⟩ 8 (by kernel_rfl) (by kernel_rfl) (by kernel_rfl) (by kernel_rfl)) (answers enc)
theorem over : Rows.lebShortRow.holds Try.pinned (OpenSpec.ofChange Rows.lebShortSpec) :=
  OpenClaim.holds_of_wide 12 Try.f12 rfl rfl rfl rfl rfl rfl rfl ⟨rfl, rfl, rfl, rfl, rfl⟩ rfl rfl rfl rfl rfl (by kernel_rfl) Try.func12 (by kernel_rfl)
    (of_decide_eq_true (by kernel_rfl)) (by unfold Func.isWrapper; first | (rw [if_pos (by decide +kernel)]; kernel_rfl) | (rw [if_neg (by decide +kernel)]; exact ⟨rfl, rfl⟩))
    (fun os started H enc _ => lifted os started H enc)
/-- THE STATEMENT. -/
theorem proved : Rows.LebShortSaid := over
#print axioms proved
end Go.Proofs.Ytiamcllejdidjaa.lebShort
