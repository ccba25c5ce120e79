/-
  LebJoins: two numbers that stand one behind the other are read one by one. No condition.
-/
import Derived.Test.YtiamcllejdidjaaLebPut2
namespace Go.Proofs.Ytiamcllejdidjaa.lebJoins
open Go.ChangeShapes Go.WideShapes Go.ChangeAt Go.RowKit Go.ChangeMaps

theorem data_app (a b : ByteArray) : (a ++ b).data.toList = a.data.toList ++ b.data.toList := by simp
theorem at_first (l : List Int) (t : ByteArray) (hb : ∀ x ∈ l, 0 ≤ x ∧ x < 256) : AtP (strOfNums l ++ t) 0 l :=
  atP_mid (strOfNums l ++ t) [] t.data.toList l hb (by rw [data_app, strOfNums_data]; rfl)
theorem at_last (s : ByteArray) (l : List Int) (hb : ∀ x ∈ l, 0 ≤ x ∧ x < 256) : AtP (s ++ strOfNums l) s.size l := by
  have h := atP_mid (s ++ strOfNums l) s.data.toList [] l hb (by rw [data_app, strOfNums_data, List.append_nil])
  have e : s.data.toList.length = s.size := by simp
  rw [e] at h
  exact h

theorem some_ (n : Nat) (hn : Is64 n) (m : Int) (hm : IsI64 m) (w : World) : Calls Try.prog 13 #[.int .u64 n, .int .i64 m] w fun e w' => e = .returned (.bool true) ∧ Below w.heap.size w w' := by
  have hB := hid (Below.refl w.heap.size w)
  obtain ⟨A, hA⟩ : ∃ A, strOfNums (putU n) = A := ⟨_, rfl⟩
  obtain ⟨B, hS⟩ : ∃ B, strOfNums (putS m) = B := ⟨_, rfl⟩
  have u1 := uV_put hn (at_first (putU n) (strOfNums (putS m)) (putU_byte n))
  have s1 := sV_put hm (at_last (strOfNums (putU n)) (putS m) (putS_byte _ m (Nat.le_refl _)))
  have szA : A.size = (putU n).length := by rw [← hA, strOfNums_size]
  have szB : B.size = (putS m).length := by rw [← hS, strOfNums_size]
  have c1 : (A ++ B).size = A.size + B.size := by simp
  have s2 : sV (A ++ B) ((A.size + B.size : Nat) : Int) 64 = .tuple #[.int .i64 0, .int .i64 0, .int .i64 10] :=
    sV_none (A ++ B) (A.size + B.size) (by omega) (fun i hi h => by omega) (.inr c1.symm)
  rw [← szA, hA, hS, Nat.zero_add] at u1
  rw [← szB, hA, hS] at s1
  have a2 : A.size ≤ 10 := by have := putU_ten hn; omega
  have b2 : B.size ≤ 10 := by have := putS_ten hm; omega
  have C := hid c1
  have HA := hid hA
  have HS := hid hS
  have U1 := hid u1
  have S1 := hid s1
  have S2 := hid s2
  clear hA hS u1 s1 s2 szA szB c1
  have z1 : ((A.size + B.size : Nat) : Int) = (A.size : Int) + B.size := by omega
  rw [z1] at S1 S2
  clear z1
  have z0 : ((0 : Nat) : Int) = 0 := rfl
  rw [z0] at U1
  clear z0
  go_enter Try.func13, Try.ntmps13
  go_wp2_with (first | (go_at_call 21; go_must (refine (leb_PutU _ hn _).mono ?_); rintro e w1 ⟨he, hb⟩; rw [HA.out] at he; subst he; have Hn := hid (hB.out.trans (hb.mono hB.out.size)); clear hb hB; have hB := Hn; clear Hn) | (go_at_call 23; go_must (refine (leb_PutS _ hm _).mono ?_); rintro e w1 ⟨he, hb⟩; rw [HS.out] at he; subst he; have Hn := hid (hB.out.trans (hb.mono hB.out.size)); clear hb hB; have hB := Hn; clear Hn) | (go_at_call 26; go_must (refine (leb_U _ _ _ (by have := C.out; omega) _).mono ?_); rintro e w1 ⟨he, hb⟩; go_must (rw [U1.out] at he); subst he; have Hn := hid (hB.out.trans (hb.mono hB.out.size)); clear hb hB; have hB := Hn; clear Hn) | (go_at_call 32; go_must (refine (leb_S _ _ _ (by have := C.out; omega) _).mono ?_); rintro e w1 ⟨he, hb⟩; go_must (first | rw [S1.out] at he | rw [S2.out] at he); subst he; have Hn := hid (hB.out.trans (hb.mono hB.out.size)); clear hb hB; have hB := Hn; clear Hn) | (go_at_call 25; go_must (refine (law01_wakes _).mono ?_); rintro e w1 ⟨rfl, hb⟩; have Hn := hid (hB.out.trans (hb.mono hB.out.size)); clear hb hB; have hB := Hn; clear Hn))
  go_ret
  exact ⟨rfl, hB.out⟩

theorem walk (a : Int) (ha : (Lit.int .u64 a).wf = true) (b : Int) (hb : (Lit.int .i64 b).wf = true) (w : World) : Calls Try.prog 13 #[.int .u64 a, .int .i64 b] w fun e w' => e = .returned (.bool true) ∧ Below w.heap.size w w' := by
  have h1 := wf_u64 ha
  obtain ⟨n, rfl⟩ := Int.eq_ofNat_of_zero_le h1.1
  exact some_ n (by unfold Is64; omega) b (wf_i64 hb) w

theorem answers {H : Type} (enc : TypeId × Value → H) : Answers enc Try.prog 13 Try.f13 := by
  intro W base args ds ps hA hval hlt hwt
  rw [Try.params13] at hA hval
  obtain ⟨v0, vs0, d0, ds0, p0, q0, hargs, rfl, rfl, h0, r0⟩ := trodAll_cons hA
  obtain ⟨v1, vs1, d1, ds1, p1, q1, rfl, rfl, rfl, h1, r1⟩ := trodAll_cons r0
  obtain ⟨rfl, rfl, rfl⟩ := trodAll_nil r1
  obtain rfl : args = #[v0, v1] := by cases args; simp_all
  obtain ⟨a0, rfl, rfl, rfl, w0⟩ := open_int Try.underlying29 (hval 0 29 v0 rfl rfl) h0
  obtain ⟨a1, rfl, rfl, rfl, w1⟩ := open_int Try.underlying2 (hval 1 2 v1 rfl rfl) h1
  exact walk a0 w0 a1 w1 W
theorem hspec {H : Type} (ds : List (DataW H)) (h : ds.length = (Try.f13).params.toList.length) : Rows.lebJoinsSpec.fn H ds = { results := [.lit (.bool true)], args := ds } := by
  rw [Try.params13] at h
  match ds, h with
  | [_, _], _ => rfl
theorem lifted (os : Os) (started : os.Started) (H : Type) (enc : TypeId × Value → H) : ReturnsInHanded {} Try.checked os 13 .any (Rows.lebJoinsSpec.pre6 enc Try.prog Try.f13 Rows.lebJoinsRow.domain false) (Rows.lebJoinsSpec.post enc Try.prog Try.f13 false true false false) :=
  lifted_of_walk (tb := 4) (by kernel_rfl) started (by kernel_rfl) Try.func13 rfl hspec rfl Try.underlying4 (by kernel_rfl) (by kernel_rfl)
    (ChangeSpec.witness6 (enc := enc) (C := Try.checked) false ⟨#[], #[.int .u64 0, .int .i64 0], []⟩ 8 (by kernel_rfl) (by kernel_rfl) (by kernel_rfl) (by kernel_rfl)) (answers enc)
theorem over : Rows.lebJoinsRow.holds Try.pinned (OpenSpec.ofChange Rows.lebJoinsSpec) :=
  OpenClaim.holds_of_wide 13 Try.f13 rfl rfl rfl rfl rfl rfl rfl ⟨rfl, rfl, rfl, rfl, rfl⟩ rfl rfl rfl rfl rfl (by kernel_rfl) Try.func13 (by kernel_rfl)
    (of_decide_eq_true (by kernel_rfl)) (by unfold Func.isWrapper; first | (rw [if_pos (by decide +kernel)]; kernel_rfl) | (rw [if_neg (by decide +kernel)]; exact ⟨rfl, rfl⟩))
    (fun os started H enc _ => lifted os started H enc)
/-- THE STATEMENT. -/
theorem proved : Rows.LebJoinsSaid := over
#print axioms proved
end Go.Proofs.Ytiamcllejdidjaa.lebJoins
