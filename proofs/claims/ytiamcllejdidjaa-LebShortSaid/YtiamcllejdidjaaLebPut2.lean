/-
  PLAIN LAWS ON READINGS: what was put is read, whatever stands ahead and behind; cut off it is none.
-/
import Derived.Test.YtiamcllejdidjaaLebMore
import Derived.Test.YtiamcllejdidjaaLebW
namespace Go.Proofs.Ytiamcllejdidjaa
open Go.ChangeShapes Go.WideShapes Go.ChangeAt Go.RowKit

theorem atP_mid (s : ByteArray) (pre post : List UInt8) (l : List Int) (hb : ∀ x ∈ l, 0 ≤ x ∧ x < 256) (h : s.data.toList = pre ++ ((l.map fun n => UInt8.ofNat n.toNat) ++ post)) : AtP s pre.length l := by
  intro i x hx
  have hi : i < l.length := (List.getElem?_eq_some_iff.1 hx).1
  have hsz : s.size = s.data.toList.length := by simp
  have hlen : s.size = pre.length + (l.length + post.length) := by rw [hsz, h]; simp
  have hb' := hb x (List.mem_of_getElem? hx)
  refine ⟨by omega, ?_⟩
  unfold bt
  rw [h, List.getD, List.getElem?_append_right (by omega), Nat.add_sub_cancel_left, List.getElem?_append_left (by simpa using hi), List.getElem?_map, hx]
  simp only [Option.map_some, Option.getD_some]
  rw [UInt8.toNat_ofNat']
  omega
theorem uV_put {s : ByteArray} {p n : Nat} (hn : Is64 n) (h : AtP s p (putU n)) : uV s p 64 = .tuple #[.int .u64 n, .int .i64 (p + (putU n).length : Nat), .int .i64 0] := by
  obtain ⟨h1, h2, h3, h4⟩ := read_putU hn h
  unfold uV
  rw [if_neg h1, h2, Int.toNat_natCast, if_neg h4, h3]
theorem sV_put {s : ByteArray} {p : Nat} {n : Int} (hn : IsI64 n) (h : AtP s p (putS n)) : sV s p 64 = .tuple #[.int .i64 n, .int .i64 (p + (putS n).length : Nat), .int .i64 0] := by
  obtain ⟨h1, h2, h3, h4⟩ := read_putS hn h
  unfold sV
  rw [if_neg h1, h2, Int.toNat_natCast, if_neg h4, h3]
theorem grp_none (s : ByteArray) (p most : Nat) (h : ∀ i, i < s.size → 128 ≤ bt s i) : ∀ d j, most - j = d → grpFrom s p most j = 0 := by
  intro d
  induction d with
  | zero => intro j hj; exact grp_end s p most j (by omega)
  | succ d ih =>
    intro j hj
    by_cases hc : j < most ∧ p + j < s.size
    · rw [grp_miss s p most j hc (by have := h (p + j) hc.2; omega)]
      exact ih (j + 1) (by omega)
    · exact grp_end s p most j hc
theorem uV_none (s : ByteArray) (p : Nat) (hp : p ≤ s.size) (h : ∀ i, i < s.size → p ≤ i → 128 ≤ bt s i) (hz : p = 0 ∨ p = s.size) : uV s p 64 = .tuple #[.int .u64 0, .int .i64 0, .int .i64 10] := by
  have hg : grpN s p 64 = 0 := by
    unfold grpN
    rw [Int.toNat_natCast]
    rcases hz with rfl | rfl
    · exact grp_none s 0 _ (fun i hi => h i hi (by omega)) _ _ rfl
    · exact grp_end s _ _ _ (by omega)
  unfold uV
  rw [if_neg (by unfold badAsk; omega), if_pos (by rw [hg]; exact .inl rfl)]
theorem sV_none (s : ByteArray) (p : Nat) (hp : p ≤ s.size) (h : ∀ i, i < s.size → p ≤ i → 128 ≤ bt s i) (hz : p = 0 ∨ p = s.size) : sV s p 64 = .tuple #[.int .i64 0, .int .i64 0, .int .i64 10] := by
  have hg : grpN s p 64 = 0 := by
    unfold grpN
    rw [Int.toNat_natCast]
    rcases hz with rfl | rfl
    · exact grp_none s 0 _ (fun i hi => h i hi (by omega)) _ _ rfl
    · exact grp_end s _ _ _ (by omega)
  unfold sV
  rw [if_neg (by unfold badAsk; omega), if_pos (by rw [hg]; exact .inl rfl)]
theorem putU_more (n : Nat) : ∀ i x, i + 1 < (putU n).length → (putU n)[i]? = some x → 128 ≤ x := by
  induction n using Nat.strongRecOn with
  | _ n ih =>
    intro i x hi hx
    by_cases h : n < 128
    · rw [putU_last n h] at hi; simp at hi
    · rw [putU_step n (by omega)] at hi hx
      cases i with
      | zero => simp at hx; omega
      | succ i => exact ih (n / 128) (by omega) i x (by simpa using hi) (by simpa using hx)
theorem putS_more (m : Nat) : ∀ (n : Int), n.natAbs ≤ m → ∀ i x, i + 1 < (putS n).length → (putS n)[i]? = some x → 128 ≤ x := by
  induction m with
  | zero =>
    intro n hn i x hi hx
    rw [putS_last n (by omega)] at hi; simp at hi
  | succ m ih =>
    intro n hn i x hi hx
    by_cases h : n < -64 ∨ n > 63
    · rw [putS_step n h] at hi hx
      cases i with
      | zero => simp at hx; omega
      | succ i => exact ih (n / 128) (by omega) i x (by simpa using hi) (by simpa using hx)
    · rw [putS_last n h] at hi; simp at hi

theorem cut_more (l : List Int) (hb : ∀ x ∈ l, 0 ≤ x ∧ x < 256) (hm : ∀ i x, i + 1 < l.length → l[i]? = some x → 128 ≤ x) (s : ByteArray) (hs : s.data.toList = (l.map fun n => UInt8.ofNat n.toNat).take (l.length - 1)) :
    ∀ i, i < s.size → 128 ≤ bt s i := by
  intro i hi
  have hsz : s.size = s.data.toList.length := by simp
  have hlen : s.size = l.length - 1 := by rw [hsz, hs]; simp
  have hi' : i < l.length := by omega
  unfold bt
  have hx : l[i]? = some l[i] := List.getElem?_eq_getElem hi'
  have h1 := hb l[i] (List.getElem_mem hi')
  have h2 := hm i l[i] (by omega) hx
  rw [hs, List.getD, List.getElem?_take, if_pos (by omega), List.getElem?_map, hx]
  simp only [Option.map_some, Option.getD_some]
  rw [UInt8.toNat_ofNat']
  omega
end Go.Proofs.Ytiamcllejdidjaa
