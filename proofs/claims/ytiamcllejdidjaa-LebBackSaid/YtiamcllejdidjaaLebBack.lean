/-
  LebBack: numbers that are put are read as they were, whatever stands ahead and behind; cut off they are none. No condition.
-/
import Derived.Test.YtiamcllejdidjaaLebPut2
import Derived.Lib.Strings
namespace Go.Proofs.Ytiamcllejdidjaa.lebBack
open Go.ChangeShapes Go.WideShapes Go.ChangeAt Go.RowKit Go.ChangeMaps

theorem data_app (a b : ByteArray) : (a ++ b).data.toList = a.data.toList ++ b.data.toList := by simp
theorem at_mid (s : ByteArray) (l : List Int) (hb : ∀ x ∈ l, 0 ≤ x ∧ x < 256) : AtP (s ++ strOfNums l ++ s) s.size l := by
  have h := atP_mid (s ++ strOfNums l ++ s) s.data.toList s.data.toList l hb (by rw [data_app, data_app, strOfNums_data, List.append_assoc])
  have e : s.data.toList.length = s.size := by simp
  rw [e] at h
  exact h
theorem cut_data (s : ByteArray) (k : Nat) : (s.extract 0 k).data.toList = s.data.toList.take k := by
  rw [Lib.extract_data]; simp

theorem few (s : ByteArray) (hl : 1000 < s.size) (n : Nat) (m : Int) (w : World) : Calls Try.prog 11 #[.int .u64 n, .int .i64 m, .string s] w fun e w' => e = .returned (.bool true) ∧ Below w.heap.size w w' := by
  have hB := hid (Below.refl w.heap.size w)
  go_enter Try.func11, Try.ntmps11
  go_wp2_with (go_at_call 25; go_must (refine (law01_wakes _).mono ?_); rintro e w1 ⟨rfl, hb⟩; have Hn := hid (hB.out.trans (hb.mono hB.out.size)); clear hb hB; have hB := Hn; clear Hn)
  go_ret
  exact ⟨rfl, hB.out⟩

theorem some_ (n : Nat) (hn : Is64 n) (m : Int) (hm : IsI64 m) (s : ByteArray) (hl : s.size ≤ 1000) (w : World) : Calls Try.prog 11 #[.int .u64 n, .int .i64 m, .string s] w fun e w' => e = .returned (.bool true) ∧ Below w.heap.size w w' := by
  have hB := hid (Below.refl w.heap.size w)
  obtain ⟨A, hA⟩ : ∃ A, strOfNums (putU n) = A := ⟨_, rfl⟩
  obtain ⟨B, hS⟩ : ∃ B, strOfNums (putS m) = B := ⟨_, rfl⟩
  have u1 := uV_put hn (at_mid s (putU n) (putU_byte n))
  have s1 := sV_put hm (at_mid s (putS m) (putS_byte _ m (Nat.le_refl _)))
  have szA : A.size = (putU n).length := by rw [← hA, strOfNums_size]
  have szB : B.size = (putS m).length := by rw [← hS, strOfNums_size]
  have u2 : uV (A.extract 0 (A.size - 1)) 0 64 = .tuple #[.int .u64 0, .int .i64 0, .int .i64 10] :=
    uV_none (A.extract 0 (A.size - 1)) 0 (by omega) (fun i hi _ => cut_more (putU n) (putU_byte n) (putU_more n) _ (by rw [cut_data, szA, ← hA, strOfNums_data]) i hi) (.inl rfl)
  have s2 : sV (B.extract 0 (B.size - 1)) 0 64 = .tuple #[.int .i64 0, .int .i64 0, .int .i64 10] :=
    sV_none (B.extract 0 (B.size - 1)) 0 (by omega) (fun i hi _ => cut_more (putS m) (putS_byte _ m (Nat.le_refl _)) (putS_more _ m (Nat.le_refl _)) _ (by rw [cut_data, szB, ← hS, strOfNums_data]) i hi) (.inl rfl)
  rw [← szA, hA] at u1
  rw [← szB, hS] at s1
  have a1 : 1 ≤ A.size := by have := putU_ne n; omega
  have a2 : A.size ≤ 10 := by have := putU_ten hn; omega
  have b1 : 1 ≤ B.size := by have := putS_ne m; omega
  have b2 : B.size ≤ 10 := by have := putS_ten hm; omega
  have c1 : (s ++ A ++ s).size = s.size + A.size + s.size := by simp
  have c2 : (s ++ B ++ s).size = s.size + B.size + s.size := by simp
  have c3 : (A.extract 0 (A.size - 1)).size = A.size - 1 := by simp
  have c4 : (B.extract 0 (B.size - 1)).size = B.size - 1 := by simp
  have C := hid (And.intro c1 (And.intro c2 (And.intro c3 c4)))
  have HA := hid hA
  have HS := hid hS
  have U1 := hid u1
  have U2 := hid u2
  have S1 := hid s1
  have S2 := hid s2
  clear hA hS u1 u2 s1 s2 szA szB c1 c2 c3 c4
  have z1 : ((s.size + A.size : Nat) : Int) = (s.size : Int) + A.size := by omega
  have z2 : ((s.size + B.size : Nat) : Int) = (s.size : Int) + B.size := by omega
  rw [z1] at U1
  rw [z2] at S1
  clear z1 z2
  go_enter Try.func11, Try.ntmps11
  go_wp2_with (first | (go_at_call 21; go_must (refine (leb_PutU _ hn _).mono ?_); rintro e w1 ⟨he, hb⟩; rw [HA.out] at he; subst he; have Hn := hid (hB.out.trans (hb.mono hB.out.size)); clear hb hB; have hB := Hn; clear Hn) | (go_at_call 23; go_must (refine (leb_PutS _ hm _).mono ?_); rintro e w1 ⟨he, hb⟩; rw [HS.out] at he; subst he; have Hn := hid (hB.out.trans (hb.mono hB.out.size)); clear hb hB; have hB := Hn; clear Hn) | (go_at_call 26; go_must (refine (leb_U _ _ _ (by have := C.out; omega) _).mono ?_); rintro e w1 ⟨he, hb⟩; go_must (first | rw [U1.out] at he | rw [U2.out] at he); subst he; have Hn := hid (hB.out.trans (hb.mono hB.out.size)); clear hb hB; have hB := Hn; clear Hn) | (go_at_call 32; go_must (refine (leb_S _ _ _ (by have := C.out; omega) _).mono ?_); rintro e w1 ⟨he, hb⟩; go_must (first | rw [S1.out] at he | rw [S2.out] at he); subst he; have Hn := hid (hB.out.trans (hb.mono hB.out.size)); clear hb hB; have hB := Hn; clear Hn) | (go_at_call 25; go_must (refine (law01_wakes _).mono ?_); rintro e w1 ⟨rfl, hb⟩; have Hn := hid (hB.out.trans (hb.mono hB.out.size)); clear hb hB; have hB := Hn; clear Hn))
  go_ret
  exact ⟨rfl, hB.out⟩

theorem walk (a : Int) (ha : (Lit.int .u64 a).wf = true) (b : Int) (hb : (Lit.int .i64 b).wf = true) (s : ByteArray) (_ : s.size ≤ 140737488351232) (w : World) : Calls Try.prog 11 #[.int .u64 a, .int .i64 b, .string s] w fun e w' => e = .returned (.bool true) ∧ Below w.heap.size w w' := by
  have h1 := wf_u64 ha
  obtain ⟨n, rfl⟩ := Int.eq_ofNat_of_zero_le h1.1
  by_cases hl : 1000 < s.size
  · exact few s hl n b w
  · exact some_ n (by unfold Is64; omega) b (wf_i64 hb) s (by omega) w

theorem answers {H : Type} (enc : TypeId × Value → H) : Answers enc Try.prog 11 Try.f11 := by
  intro W base args ds ps hA hval hlt hwt
  rw [Try.params11] at hA hval
  obtain ⟨v0, vs0, d0, ds0, p0, q0, hargs, rfl, rfl, h0, r0⟩ := trodAll_cons hA
  obtain ⟨v1, vs1, d1, ds1, p1, q1, rfl, rfl, rfl, h1, r1⟩ := trodAll_cons r0
  obtain ⟨v2, vs2, d2, ds2, p2, q2, rfl, rfl, rfl, h2, r2⟩ := trodAll_cons r1
  obtain ⟨rfl, rfl, rfl⟩ := trodAll_nil r2
  obtain rfl : args = #[v0, v1, v2] := by cases args; simp_all
  obtain ⟨a0, rfl, rfl, rfl, w0⟩ := open_int Try.underlying29 (hval 0 29 v0 rfl rfl) h0
  obtain ⟨a1, rfl, rfl, rfl, w1⟩ := open_int Try.underlying2 (hval 1 2 v1 rfl rfl) h1
  obtain ⟨a2, rfl, rfl, rfl, w2⟩ := open_string Try.underlying9 (hval 2 9 v2 rfl rfl) h2
  exact walk a0 w0 a1 w1 a2 (str_reach hwt (j := 2) rfl rfl) W
theorem hspec {H : Type} (ds : List (DataW H)) (h : ds.length = (Try.f11).params.toList.length) : Rows.lebBackSpec.fn H ds = { results := [.lit (.bool true)], args := ds } := by
  rw [Try.params11] at h
  match ds, h with
  | [_, _, _], _ => rfl
theorem lifted (os : Os) (started : os.Started) (H : Type) (enc : TypeId × Value → H) : ReturnsInHanded {} Try.checked os 11 .any (Rows.lebBackSpec.pre6 enc Try.prog Try.f11 Rows.lebBackRow.domain false) (Rows.lebBackSpec.post enc Try.prog Try.f11 false true false false) :=
  lifted_of_walk (tb := 4) (by kernel_rfl) started (by kernel_rfl) Try.func11 rfl hspec rfl Try.underlying4 (by kernel_rfl) (by kernel_rfl)
    (ChangeSpec.witness6 (enc := enc) (C := Try.checked) false ⟨#[], #[.int .u64 0, .int .i64 0, .string ⟨#[]⟩], []⟩ 8 (by kernel_rfl) (by kernel_rfl) (by kernel_rfl) (by kernel_rfl)) (answers enc)
theorem over : Rows.lebBackRow.holds Try.pinned (OpenSpec.ofChange Rows.lebBackSpec) :=
  OpenClaim.holds_of_wide 11 Try.f11 rfl rfl rfl rfl rfl rfl rfl ⟨rfl, rfl, rfl, rfl, rfl⟩ rfl rfl rfl rfl rfl (by kernel_rfl) Try.func11 (by kernel_rfl)
    (of_decide_eq_true (by kernel_rfl)) (by unfold Func.isWrapper; first | (rw [if_pos (by decide +kernel)]; kernel_rfl) | (rw [if_neg (by decide +kernel)]; exact ⟨rfl, rfl⟩))
    (fun os started H enc _ => lifted os started H enc)
/-- THE STATEMENT. -/
theorem proved : Rows.LebBackSaid := over
#print axioms proved
end Go.Proofs.Ytiamcllejdidjaa.lebBack
