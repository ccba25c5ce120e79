/-
  THE WALKS OF leb.PutU, leb.PutS AND OF THEIR REFERENCES: the bytes of every number.
-/
import Derived.Test.YtiamcllejdidjaaRows
import Derived.Test.YtiamcllejdidjaaMem
import Derived.Test.YtiamcllejdidjaaLebPlain
import Derived.OpenShut
import Derived.WalkLawsBesides
import Derived.Deep.DeepMust
namespace Go.Proofs.Ytiamcllejdidjaa
open Go.ChangeShapes Go.WideShapes Go.ChangeAt Go.RowKit

theorem info_u8 : InfoIs Try.prog 5 (.int .u8 0) 1 1 := by unfold InfoIs; kernel_rfl
theorem ret_str {a b : ByteArray} (h : a = b) : Ending.returned (.string a) = .returned (.string b) := by rw [h]

/-- The bytes of a row of the call's own, as a string. -/
theorem own_string {w : World} {B : Nat} {v : Value} {xs : List Int} (h : Own w B 5 v (xs.map (.int .u8))) :
    (convert 50 9 v).run Try.prog w = .ok (.string (strOfNums xs)) w := by
  rcases h.2 with ⟨rfl, hn⟩ | ⟨g, cap, cur, rfl, hB, hg, h1, h2, h3, h4⟩
  · have : xs = [] := by simpa using hn
    subst this
    exact run_convert_bytes_nil (P := Try.prog) w 50 5 Try.underlying50 Try.underlying5 0 0 9 Try.underlying9
  · refine run_convert_bytes_arg (P := Try.prog) w 50 5 Try.underlying50 Try.underlying5 g 0 _ cap xs (by simp) ?_ 9 Try.underlying9
    intro i hi
    have hi' : i < xs.length := by simpa using hi
    have e : (cur.toList.take (xs.map (Value.int IntKind.u8)).length)[i]? = some (.int .u8 (xs.getD i 0)) := by
      have h4' : cur.toList.take (xs.map (Value.int IntKind.u8)).length = xs.map (Value.int IntKind.u8) := by simpa using h4
      rw [h4']
      simp [List.getD, List.getElem?_eq_getElem hi']
    rw [List.getElem?_take] at e
    simp only [World.cell?, hg, Nat.zero_add]
    rw [if_pos (by simpa using hi')] at e
    simpa using e



set_option maxRecDepth 100000 in
theorem leb_PutU (n : Nat) (hn : Is64 n) (w : World) : Calls Try.prog 21 #[.int .u64 n] w fun e w' => e = .returned (.string (strOfNums (putU n))) ∧ Below w.heap.size w w' := by
  go_enter Try.func21, Try.ntmps21
  go_wp2
  go_loopw [0, 3] (fun x v wr => ∃ (k : Nat) (xs : List Int), x = .int .u64 k ∧ Hid (Is64 k) ∧ Hid (putU n = xs ++ putU k) ∧ Hid (Own wr w.heap.size 5 v (xs.map (.int .u8))) ∧ Hid (Below w.heap.size w wr)) (fun x v wr => (intOf x).toNat)
  case atStart => exact ⟨n, [], rfl, hid hn, hid rfl, hid (Own.nil _ _ _), hid (Below.refl _ _)⟩
  case round =>
    obtain ⟨k, xs, rfl, hk, hp, ho, hB⟩ := hrel
    have hlen : xs.length ≤ 10 := by have := putU_ten hn; rw [hp.out] at this; simp at this; omega
    have HL := hid hlen
    clear hlen
    by_cases hlt : 128 ≤ k
    · go_wp2_with (at_builtin; go_must (refine wpList_app (by rfl) _ _ 50 (by rfl) w.heap.size Try.underlying50 info_u8 rfl (by omega) (by rfl) (by exact ho.out) (by rfl) (by rfl) (by simp [Value.oneCell']) (by omega) (by have := HL.out; rw [List.length_map]; omega) hB.out.size ?_); intro v1 w1 hown1 hg1; have ho1 := hid (Own.of hown1); have hB1 := hid (below_grown hB.out hg1 hB.out.size ho.out); clear hown1 hg1)
      exact ⟨⟨k / 128, xs ++ [((k % 128 : Nat) + 128 : Int)], by go_num, hid hk.out.div, hid (by rw [hp.out, putU_step k hlt]; simp), hid (by have h := ho1.out; rw [or_128] at h; simpa using h), hB1⟩, by simp [intOf]; omega⟩
    · go_wp2_with ((at_builtin; go_must (refine wpList_app (by rfl) _ _ 50 (by rfl) w.heap.size Try.underlying50 info_u8 rfl (by omega) (by rfl) (by exact ho.out) (by rfl) (by rfl) (by simp [Value.oneCell']) (by omega) (by have := HL.out; rw [List.length_map]; omega) hB.out.size ?_); intro v1 w1 hown1 hg1; have ho1 := hid (Own.of hown1); have hB1 := hid (below_grown hB.out hg1 hB.out.size ho.out); clear hown1 hg1); go_must (have hcv := own_string (xs := xs ++ [(k : Int)]) (by have h := ho1.out; simp only [List.map_append, List.map_cons, List.map_nil]; exact h)))
      go_ret
      exact ⟨ret_str (by rw [hp.out, putU_last k (by omega)]), hB1.out⟩
set_option maxRecDepth 100000 in
theorem ref01_PutU (n : Nat) (hn : Is64 n) (w : World) : Calls Try.prog 22 #[.int .u64 n] w fun e w' => e = .returned (.string (strOfNums (putU n))) ∧ Below w.heap.size w w' := by
  go_enter Try.func22, Try.ntmps22
  go_wp2
  go_loopw [0, 3] (fun x v wr => ∃ (k : Nat) (xs : List Int), x = .int .u64 k ∧ Hid (Is64 k) ∧ Hid (putU n = xs ++ putU k) ∧ Hid (Own wr w.heap.size 5 v (xs.map (.int .u8))) ∧ Hid (Below w.heap.size w wr)) (fun x v wr => (intOf x).toNat)
  case atStart => exact ⟨n, [], rfl, hid hn, hid rfl, hid (Own.nil _ _ _), hid (Below.refl _ _)⟩
  case round =>
    obtain ⟨k, xs, rfl, hk, hp, ho, hB⟩ := hrel
    have hlen : xs.length ≤ 10 := by have := putU_ten hn; rw [hp.out] at this; simp at this; omega
    have HL := hid hlen
    clear hlen
    by_cases hlt : 128 ≤ k
    · go_wp2_with (at_builtin; go_must (refine wpList_app (by rfl) _ _ 50 (by rfl) w.heap.size Try.underlying50 info_u8 rfl (by omega) (by rfl) (by exact ho.out) (by rfl) (by rfl) (by simp [Value.oneCell']) (by omega) (by have := HL.out; rw [List.length_map]; omega) hB.out.size ?_); intro v1 w1 hown1 hg1; have ho1 := hid (Own.of hown1); have hB1 := hid (below_grown hB.out hg1 hB.out.size ho.out); clear hown1 hg1)
      exact ⟨⟨k / 128, xs ++ [((k % 128 : Nat) + 128 : Int)], by go_num, hid hk.out.div, hid (by rw [hp.out, putU_step k hlt]; simp), hid (by have h := ho1.out; rw [or_128] at h; simpa using h), hB1⟩, by simp [intOf]; omega⟩
    · go_wp2_with ((at_builtin; go_must (refine wpList_app (by rfl) _ _ 50 (by rfl) w.heap.size Try.underlying50 info_u8 rfl (by omega) (by rfl) (by exact ho.out) (by rfl) (by rfl) (by simp [Value.oneCell']) (by omega) (by have := HL.out; rw [List.length_map]; omega) hB.out.size ?_); intro v1 w1 hown1 hg1; have ho1 := hid (Own.of hown1); have hB1 := hid (below_grown hB.out hg1 hB.out.size ho.out); clear hown1 hg1); go_must (have hcv := own_string (xs := xs ++ [(k : Int)]) (by have h := ho1.out; simp only [List.map_append, List.map_cons, List.map_nil]; exact h)))
      go_ret
      exact ⟨ret_str (by rw [hp.out, putU_last k (by omega)]), hB1.out⟩
set_option maxRecDepth 100000 in
theorem leb_PutS (n : Int) (hn : IsI64 n) (w : World) : Calls Try.prog 23 #[.int .i64 n] w fun e w' => e = .returned (.string (strOfNums (putS n))) ∧ Below w.heap.size w w' := by
  go_enter Try.func23, Try.ntmps23
  go_wp2
  go_loopw [0, 3] (fun x v wr => ∃ (k : Int) (xs : List Int), x = .int .i64 k ∧ Hid (IsI64 k) ∧ Hid (putS n = xs ++ putS k) ∧ Hid (Own wr w.heap.size 5 v (xs.map (.int .u8))) ∧ Hid (Below w.heap.size w wr)) (fun x v wr => (intOf x).natAbs)
  case atStart => exact ⟨n, [], rfl, hid hn, hid rfl, hid (Own.nil _ _ _), hid (Below.refl _ _)⟩
  case round =>
    obtain ⟨k, xs, rfl, hk, hp, ho, hB⟩ := hrel
    have hlen : xs.length ≤ 10 := by have := putS_ten hn; rw [hp.out] at this; simp at this; omega
    have HL := hid hlen
    clear hlen
    by_cases hlt : k < -64
    · (go_wp2_with (at_builtin; go_must (refine wpList_app (by rfl) _ _ 50 (by rfl) w.heap.size Try.underlying50 info_u8 rfl (by omega) (by rfl) (by exact ho.out) (by rfl) (by rfl) (by simp [Value.oneCell']) (by omega) (by have := HL.out; rw [List.length_map]; omega) hB.out.size ?_); intro v1 w1 hown1 hg1; have ho1 := hid (Own.of hown1); have hB1 := hid (below_grown hB.out hg1 hB.out.size ho.out); clear hown1 hg1); exact ⟨⟨k / 128, xs ++ [k % 128 + 128], by go_num, hid hk.out.div, hid (by rw [hp.out, putS_step k (by omega)]; simp), hid (by have h := ho1.out; rw [or_128] at h; simpa using h), hB1⟩, by simp [intOf]; omega⟩)
    · by_cases hgt : 63 < k
      · (go_wp2_with (at_builtin; go_must (refine wpList_app (by rfl) _ _ 50 (by rfl) w.heap.size Try.underlying50 info_u8 rfl (by omega) (by rfl) (by exact ho.out) (by rfl) (by rfl) (by simp [Value.oneCell']) (by omega) (by have := HL.out; rw [List.length_map]; omega) hB.out.size ?_); intro v1 w1 hown1 hg1; have ho1 := hid (Own.of hown1); have hB1 := hid (below_grown hB.out hg1 hB.out.size ho.out); clear hown1 hg1); exact ⟨⟨k / 128, xs ++ [k % 128 + 128], by go_num, hid hk.out.div, hid (by rw [hp.out, putS_step k (by omega)]; simp), hid (by have h := ho1.out; rw [or_128] at h; simpa using h), hB1⟩, by simp [intOf]; omega⟩)
      · go_wp2_with ((at_builtin; go_must (refine wpList_app (by rfl) _ _ 50 (by rfl) w.heap.size Try.underlying50 info_u8 rfl (by omega) (by rfl) (by exact ho.out) (by rfl) (by rfl) (by simp [Value.oneCell']) (by omega) (by have := HL.out; rw [List.length_map]; omega) hB.out.size ?_); intro v1 w1 hown1 hg1; have ho1 := hid (Own.of hown1); have hB1 := hid (below_grown hB.out hg1 hB.out.size ho.out); clear hown1 hg1); go_must (have hcv := own_string (xs := xs ++ [k % 128]) (by have h := ho1.out; rw [and_127] at h; simp only [List.map_append, List.map_cons, List.map_nil]; exact h)))
        go_ret
        exact ⟨ret_str (by rw [hp.out, putS_last k (by omega)]), hB1.out⟩
set_option maxRecDepth 100000 in
theorem ref01_PutS (n : Int) (hn : IsI64 n) (w : World) : Calls Try.prog 24 #[.int .i64 n] w fun e w' => e = .returned (.string (strOfNums (putS n))) ∧ Below w.heap.size w w' := by
  go_enter Try.func24, Try.ntmps24
  go_wp2
  go_loopw [0, 3] (fun x v wr => ∃ (k : Int) (xs : List Int), x = .int .i64 k ∧ Hid (IsI64 k) ∧ Hid (putS n = xs ++ putS k) ∧ Hid (Own wr w.heap.size 5 v (xs.map (.int .u8))) ∧ Hid (Below w.heap.size w wr)) (fun x v wr => (intOf x).natAbs)
  case atStart => exact ⟨n, [], rfl, hid hn, hid rfl, hid (Own.nil _ _ _), hid (Below.refl _ _)⟩
  case round =>
    obtain ⟨k, xs, rfl, hk, hp, ho, hB⟩ := hrel
    have hlen : xs.length ≤ 10 := by have := putS_ten hn; rw [hp.out] at this; simp at this; omega
    have HL := hid hlen
    clear hlen
    by_cases hlt : k < -64
    · (go_wp2_with (at_builtin; go_must (refine wpList_app (by rfl) _ _ 50 (by rfl) w.heap.size Try.underlying50 info_u8 rfl (by omega) (by rfl) (by exact ho.out) (by rfl) (by rfl) (by simp [Value.oneCell']) (by omega) (by have := HL.out; rw [List.length_map]; omega) hB.out.size ?_); intro v1 w1 hown1 hg1; have ho1 := hid (Own.of hown1); have hB1 := hid (below_grown hB.out hg1 hB.out.size ho.out); clear hown1 hg1); exact ⟨⟨k / 128, xs ++ [k % 128 + 128], by go_num, hid hk.out.div, hid (by rw [hp.out, putS_step k (by omega)]; simp), hid (by have h := ho1.out; rw [or_128] at h; simpa using h), hB1⟩, by simp [intOf]; omega⟩)
    · by_cases hgt : 63 < k
      · (go_wp2_with (at_builtin; go_must (refine wpList_app (by rfl) _ _ 50 (by rfl) w.heap.size Try.underlying50 info_u8 rfl (by omega) (by rfl) (by exact ho.out) (by rfl) (by rfl) (by simp [Value.oneCell']) (by omega) (by have := HL.out; rw [List.length_map]; omega) hB.out.size ?_); intro v1 w1 hown1 hg1; have ho1 := hid (Own.of hown1); have hB1 := hid (below_grown hB.out hg1 hB.out.size ho.out); clear hown1 hg1); exact ⟨⟨k / 128, xs ++ [k % 128 + 128], by go_num, hid hk.out.div, hid (by rw [hp.out, putS_step k (by omega)]; simp), hid (by have h := ho1.out; rw [or_128] at h; simpa using h), hB1⟩, by simp [intOf]; omega⟩)
      · go_wp2_with ((at_builtin; go_must (refine wpList_app (by rfl) _ _ 50 (by rfl) w.heap.size Try.underlying50 info_u8 rfl (by omega) (by rfl) (by exact ho.out) (by rfl) (by rfl) (by simp [Value.oneCell']) (by omega) (by have := HL.out; rw [List.length_map]; omega) hB.out.size ?_); intro v1 w1 hown1 hg1; have ho1 := hid (Own.of hown1); have hB1 := hid (below_grown hB.out hg1 hB.out.size ho.out); clear hown1 hg1); go_must (have hcv := own_string (xs := xs ++ [k % 128]) (by have h := ho1.out; rw [and_127] at h; simp only [List.map_append, List.map_cons, List.map_nil]; exact h)))
        go_ret
        exact ⟨ret_str (by rw [hp.out, putS_last k (by omega)]), hB1.out⟩
end Go.Proofs.Ytiamcllejdidjaa
