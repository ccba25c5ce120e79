/-
  LebPuts: the bytes of every number, without and with sign: leb puts what the reference puts. No condition.
-/
import Derived.Test.YtiamcllejdidjaaLebW
namespace Go.Proofs.Ytiamcllejdidjaa.lebPuts
open Go.ChangeShapes Go.WideShapes Go.ChangeAt Go.RowKit Go.ChangeMaps

theorem walk (a : Int) (ha : (Lit.int .u64 a).wf = true) (b : Int) (hb : (Lit.int .i64 b).wf = true) (w : World) : Calls Try.prog 7 #[.int .u64 a, .int .i64 b] w fun e w' => e = .returned (.bool true) ∧ Below w.heap.size w w' := by
  have hB := hid (Below.refl w.heap.size w)
  have h1 := wf_u64 ha
  obtain ⟨n, rfl⟩ := Int.eq_ofNat_of_zero_le h1.1
  have hn : Is64 n := by unfold Is64; omega
  have hm : IsI64 b := wf_i64 hb
  clear h1 ha hb
  go_enter Try.func7, Try.ntmps7
  go_wp2_with (first | (go_at_call 21; go_must (refine (leb_PutU _ hn _).mono ?_); rintro e w1 ⟨rfl, hb⟩; have Hn := hid (hB.out.trans (hb.mono hB.out.size)); clear hb hB; have hB := Hn; clear Hn) | (go_at_call 22; go_must (refine (ref01_PutU _ hn _).mono ?_); rintro e w1 ⟨rfl, hb⟩; have Hn := hid (hB.out.trans (hb.mono hB.out.size)); clear hb hB; have hB := Hn; clear Hn) | (go_at_call 23; go_must (refine (leb_PutS _ hm _).mono ?_); rintro e w1 ⟨rfl, hb⟩; have Hn := hid (hB.out.trans (hb.mono hB.out.size)); clear hb hB; have hB := Hn; clear Hn) | (go_at_call 24; go_must (refine (ref01_PutS _ hm _).mono ?_); rintro e w1 ⟨rfl, hb⟩; have Hn := hid (hB.out.trans (hb.mono hB.out.size)); clear hb hB; have hB := Hn; clear Hn) | (go_at_call 25; go_must (refine (law01_wakes _).mono ?_); rintro e w1 ⟨rfl, hb⟩; have Hn := hid (hB.out.trans (hb.mono hB.out.size)); clear hb hB; have hB := Hn; clear Hn))
  go_ret
  exact ⟨rfl, hB.out⟩

theorem answers {H : Type} (enc : TypeId × Value → H) : Answers enc Try.prog 7 Try.f7 := by
  intro W base args ds ps hA hval hlt hwt
  rw [Try.params7] at hA hval
  obtain ⟨v0, vs0, d0, ds0, p0, q0, hargs, rfl, rfl, h0, r0⟩ := trodAll_cons hA
  obtain ⟨v1, vs1, d1, ds1, p1, q1, rfl, rfl, rfl, h1, r1⟩ := trodAll_cons r0
  obtain ⟨rfl, rfl, rfl⟩ := trodAll_nil r1
  obtain rfl : args = #[v0, v1] := by cases args; simp_all
  obtain ⟨a0, rfl, rfl, rfl, w0⟩ := open_int Try.underlying29 (hval 0 29 v0 rfl rfl) h0
  obtain ⟨a1, rfl, rfl, rfl, w1⟩ := open_int Try.underlying2 (hval 1 2 v1 rfl rfl) h1
  exact walk a0 w0 a1 w1 W
theorem hspec {H : Type} (ds : List (DataW H)) (h : ds.length = (Try.f7).params.toList.length) : Rows.lebPutsSpec.fn H ds = { results := [.lit (.bool true)], args := ds } := by
  rw [Try.params7] at h
  match ds, h with
  | [_, _], _ => rfl
theorem lifted (os : Os) (started : os.Started) (H : Type) (enc : TypeId × Value → H) : ReturnsInHanded {} Try.checked os 7 .any (Rows.lebPutsSpec.pre6 enc Try.prog Try.f7 Rows.lebPutsRow.domain false) (Rows.lebPutsSpec.post enc Try.prog Try.f7 false true false false) :=
  lifted_of_walk (tb := 4) (by kernel_rfl) started (by kernel_rfl) Try.func7 rfl hspec rfl Try.underlying4 (by kernel_rfl) (by kernel_rfl)
    (ChangeSpec.witness6 (enc := enc) (C := Try.checked) false ⟨#[], #[.int .u64 0, .int .i64 0], []⟩ 8 (by kernel_rfl) (by kernel_rfl) (by kernel_rfl) (by kernel_rfl)) (answers enc)
theorem over : Rows.lebPutsRow.holds Try.pinned (OpenSpec.ofChange Rows.lebPutsSpec) :=
  OpenClaim.holds_of_wide 7 Try.f7 rfl rfl rfl rfl rfl rfl rfl ⟨rfl, rfl, rfl, rfl, rfl⟩ rfl rfl rfl rfl rfl (by kernel_rfl) Try.func7 (by kernel_rfl)
    (of_decide_eq_true (by kernel_rfl)) (by unfold Func.isWrapper; first | (rw [if_pos (by decide +kernel)]; kernel_rfl) | (rw [if_neg (by decide +kernel)]; exact ⟨rfl, rfl⟩))
    (fun os started H enc _ => lifted os started H enc)
/-- THE STATEMENT. -/
theorem proved : Rows.LebPutsSaid := over
#print axioms proved
end Go.Proofs.Ytiamcllejdidjaa.lebPuts
