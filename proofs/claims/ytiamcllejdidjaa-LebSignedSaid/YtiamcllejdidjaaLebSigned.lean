/-
  LebSigned: what any bytes from any place on say as a number with sign: leb reads what the reference reads. No condition.
-/
import Derived.Test.YtiamcllejdidjaaLebW
namespace Go.Proofs.Ytiamcllejdidjaa.lebSigned
open Go.ChangeShapes Go.WideShapes Go.ChangeAt Go.RowKit Go.ChangeMaps

/-- A reading, whatever it is: its three parts. -/
theorem sV_parts (s : ByteArray) (a b : Int) : ∃ n p c : Int, sV s a b = .tuple #[.int .i64 n, .int .i64 p, .int .i64 c] := by
  unfold sV
  split
  · exact ⟨_, _, _, rfl⟩
  · split <;> exact ⟨_, _, _, rfl⟩
theorem walk (s : ByteArray) (hs : s.size ≤ 140737488351232) (a : Int) (_ : (Lit.int .i64 a).wf = true) (b : Int) (_ : (Lit.int .i64 b).wf = true) (w : World) : Calls Try.prog 10 #[.string s, .int .i64 a, .int .i64 b] w fun e w' => e = .returned (.bool true) ∧ Below w.heap.size w w' := by
  have hB := hid (Below.refl w.heap.size w)
  obtain ⟨n, p, c, hv⟩ := sV_parts s a b
  have Hv := hid hv
  clear hv
  go_enter Try.func10, Try.ntmps10
  go_wp2_with (first | (go_at_call 32; go_must (refine (leb_S _ _ _ (by omega) _).mono ?_); rintro e w1 ⟨he, hb⟩; rw [Hv.out] at he; subst he; have Hn := hid (hB.out.trans (hb.mono hB.out.size)); clear hb hB; have hB := Hn; clear Hn) | (go_at_call 33; go_must (refine (ref01_S _ _ _ (by omega) _).mono ?_); rintro e w1 ⟨he, he2⟩; rw [Hv.out] at he; subst he; subst he2) | (go_at_call 25; go_must (refine (law01_wakes _).mono ?_); rintro e w1 ⟨rfl, hb⟩; have Hn := hid (hB.out.trans (hb.mono hB.out.size)); clear hb hB; have hB := Hn; clear Hn))
  go_ret
  exact ⟨rfl, hB.out⟩

theorem answers {H : Type} (enc : TypeId × Value → H) : Answers enc Try.prog 10 Try.f10 := by
  intro W base args ds ps hA hval hlt hwt
  rw [Try.params10] at hA hval
  obtain ⟨v0, vs0, d0, ds0, p0, q0, hargs, rfl, rfl, h0, r0⟩ := trodAll_cons hA
  obtain ⟨v1, vs1, d1, ds1, p1, q1, rfl, rfl, rfl, h1, r1⟩ := trodAll_cons r0
  obtain ⟨v2, vs2, d2, ds2, p2, q2, rfl, rfl, rfl, h2, r2⟩ := trodAll_cons r1
  obtain ⟨rfl, rfl, rfl⟩ := trodAll_nil r2
  obtain rfl : args = #[v0, v1, v2] := by cases args; simp_all
  obtain ⟨a0, rfl, rfl, rfl, w0⟩ := open_string Try.underlying9 (hval 0 9 v0 rfl rfl) h0
  obtain ⟨a1, rfl, rfl, rfl, w1⟩ := open_int Try.underlying3 (hval 1 3 v1 rfl rfl) h1
  obtain ⟨a2, rfl, rfl, rfl, w2⟩ := open_int Try.underlying3 (hval 2 3 v2 rfl rfl) h2
  exact walk a0 (str_reach hwt (j := 0) rfl rfl) a1 w1 a2 w2 W
theorem hspec {H : Type} (ds : List (DataW H)) (h : ds.length = (Try.f10).params.toList.length) : Rows.lebSignedSpec.fn H ds = { results := [.lit (.bool true)], args := ds } := by
  rw [Try.params10] at h
  match ds, h with
  | [_, _, _], _ => rfl
theorem lifted (os : Os) (started : os.Started) (H : Type) (enc : TypeId × Value → H) : ReturnsInHanded {} Try.checked os 10 .any (Rows.lebSignedSpec.pre6 enc Try.prog Try.f10 Rows.lebSignedRow.domain false) (Rows.lebSignedSpec.post enc Try.prog Try.f10 false true false false) :=
  lifted_of_walk (tb := 4) (by kernel_rfl) started (by kernel_rfl) Try.func10 rfl hspec rfl Try.underlying4 (by kernel_rfl) (by kernel_rfl)
    (ChangeSpec.witness6 (enc := enc) (C := Try.checked) false ⟨#[], #[.string ⟨#[]⟩, .int .i64 0, .int .i64 0], []⟩ 8 (by kernel_rfl) (by kernel_rfl) (by kernel_rfl) (by kernel_rfl)) (answers enc)
theorem over : Rows.lebSignedRow.holds Try.pinned (OpenSpec.ofChange Rows.lebSignedSpec) :=
  OpenClaim.holds_of_wide 10 Try.f10 rfl rfl rfl rfl rfl rfl rfl ⟨rfl, rfl, rfl, rfl, rfl⟩ rfl rfl rfl rfl rfl (by kernel_rfl) Try.func10 (by kernel_rfl)
    (of_decide_eq_true (by kernel_rfl)) (by unfold Func.isWrapper; first | (rw [if_pos (by decide +kernel)]; kernel_rfl) | (rw [if_neg (by decide +kernel)]; exact ⟨rfl, rfl⟩))
    (fun os started H enc _ => lifted os started H enc)
/-- THE STATEMENT. -/
theorem proved : Rows.LebSignedSaid := over
#print axioms proved
end Go.Proofs.Ytiamcllejdidjaa.lebSigned
