/-
  THE WALK OF athanorref11.skip.
-/
import Derived.Test.YtngbaghkjaibeaaDoorXRefL
namespace Go.Proofs.YtngbaghkjaibeaaDoor
set_option linter.all false
open Go.ChangeShapes Go.WideShapes Go.ChangeAt Go.RowKit

/-- What lies between is skipped. -/
def SkipTo (s : ByteArray) (p q : Nat) : Prop := p ≤ q ∧ q ≤ s.size ∧ ∀ m, Lx.lexA (s.data.toList.drop p) p m = Lx.lexA (s.data.toList.drop q) q m
theorem SkipTo.refl {s : ByteArray} {p : Nat} (h : p ≤ s.size) : SkipTo s p p := ⟨Nat.le_refl _, h, fun _ => rfl⟩
theorem SkipTo.trans {s : ByteArray} {p q r : Nat} (h : SkipTo s p q) (k : SkipTo s q r) : SkipTo s p r := ⟨Nat.le_trans h.1 k.1, k.2.1, fun m => (h.2.2 m).trans (k.2.2 m)⟩
theorem SkipTo.blank {s : ByteArray} {p : Nat} (h : p < s.size) (hb : Lx.isBlank (s[p]'h) = true) : SkipTo s p (p + 1) := by
  refine ⟨by omega, h, fun m => ?_⟩
  have hdr : s.data.toList.drop p = s[p]'h :: s.data.toList.drop (p + 1) := List.drop_eq_getElem_cons (by rw [size_list]; exact h)
  rw [hdr, Lx.lexA_cons, if_pos hb]
theorem SkipTo.note {s : ByteArray} {p k : Nat} (h : p < s.size) (hb : s[p]'h = 35) (hk : k ≤ s.size) (he : p + Lx.runL (fun x => x != 10) (s.data.toList.drop p) = k) : SkipTo s p k := by
  have hdr : s.data.toList.drop p = s[p]'h :: s.data.toList.drop (p + 1) := List.drop_eq_getElem_cons (by rw [size_list]; exact h)
  rw [hb] at hdr
  have hr : Lx.runL (fun x => x != 10) (s.data.toList.drop p) = Lx.runL (fun x => x != 10) (s.data.toList.drop (p + 1)) + 1 := by rw [hdr, Lx.runL, if_pos (by decide)]
  refine ⟨by omega, hk, fun m => ?_⟩
  rw [hdr, Lx.lexA_cons, if_neg (by decide), if_pos rfl, List.drop_drop]
  congr 1
  · congr 1; omega
  · omega
def SkipP (s : ByteArray) (p : Nat) (w : World) (e : Ending) (w' : World) : Prop := w = w' ∧ ∃ q : Nat, e = .returned (.int .i64 q) ∧ SkipTo s p q ∧ ∀ h : q < s.size, Lx.isBlank (s[q]'h) = false ∧ s[q]'h ≠ 35
theorem skip_ret {s : ByteArray} {p q : Nat} {v : Int} {w : World} (hv : v = q) (h : SkipTo s p q) (h2 : ∀ h : q < s.size, Lx.isBlank (s[q]'h) = false ∧ s[q]'h ≠ 35) : SkipP s p w (.returned (.int .i64 v)) w := ⟨rfl, q, by rw [hv], h, h2⟩
set_option maxHeartbeats 8000000 in
set_option maxRecDepth 100000 in
theorem rf_skip (s : ByteArray) (p : Nat) (w : World) (hp : p ≤ s.size) (hm : s.size ≤ 100000) : Calls Tryd.prog 17 #[.string s, .int .i64 p] w (SkipP s p w) := by
  go_enter Tryd.func17, Tryd.ntmps17
  go_wp2_with fail
  go_loopg [1] (s.size - p) (fun g i wr => ∃ k : Nat, k + g = s.size ∧ k ≤ s.size ∧ i = .int .i64 k ∧ wr = w ∧ Hid (SkipTo s p k))
  case atStart => exact ⟨p, by omega, hp, rfl, rfl, hid (SkipTo.refl hp)⟩
  case round =>
    obtain ⟨k, hkg, hks, rfl, rfl, hS⟩ := hrel
    have HG := hid hkg
    obtain ⟨g9, hg9⟩ : ∃ g9, g9 = s.size - k := ⟨_, rfl⟩
    have HG9 := hid hg9
    by_cases hlt : k < s.size
    · clear hkg hg9
      have hlt' : (k : Int) < s.size := by omega
      obtain ⟨cb, hcb⟩ : ∃ cb, s[k]'hlt = cb := ⟨_, rfl⟩
      have hx : ((s[k]'hlt).toNat : Int) = (cb.toNat : Int) := by rw [hcb]
      have HC := hid hcb
      clear hcb
      by_cases hb : cb = 9 ∨ cb = 10 ∨ cb = 13 ∨ cb = 32
      · have HT := hid (SkipTo.blank hlt (by rw [HC.out]; rcases hb with h | h | h | h <;> rw [h] <;> rfl))
        rcases hb with h9 | h9 | h9 | h9
        all_goals
          have hx2 := hx
          rw [h9] at hx2
          first
            | (have hx3 : ((s[k]'hlt).toNat : Int) = 9 := hx2)
            | (have hx3 : ((s[k]'hlt).toNat : Int) = 10 := hx2)
            | (have hx3 : ((s[k]'hlt).toNat : Int) = 13 := hx2)
            | (have hx3 : ((s[k]'hlt).toNat : Int) = 32 := hx2)
          clear hx h9 hx2
          go_wp2_with fail
          have hkg := HG.out
          have hg9 := HG9.out
          go_roundg (g9 - 1)
          case rel => exact ⟨k + 1, by omega, by omega, by go_num, rfl, hid (hS.out.trans HT.out)⟩
          case measure => omega
      · have h9 : cb ≠ 9 := fun h => hb (.inl h)
        have h10 : cb ≠ 10 := fun h => hb (.inr (.inl h))
        have h13 : cb ≠ 13 := fun h => hb (.inr (.inr (.inl h)))
        have h32 : cb ≠ 32 := fun h => hb (.inr (.inr (.inr h)))
        have hnb : Lx.isBlank cb = false := by unfold Lx.isBlank; simp [h9, h10, h13, h32]
        by_cases h35 : cb = 35
        · have hx2 : ((s[k]'hlt).toNat : Int) = 35 := by rw [hx, h35]; rfl
          have H35 := hid h35
          clear hx h9 h10 h13 h32 hnb hb h35
          go_wp2_with fail
          go_loopg [1] (s.size - k) (fun g i wr2 => ∃ j : Nat, j + g = s.size ∧ j ≤ s.size ∧ i = .int .i64 j ∧ wr2 = wr ∧ Hid (k + Lx.runL (fun x => x != 10) (s.data.toList.drop k) = j + Lx.runL (fun x => x != 10) (s.data.toList.drop j)))
          case atStart => exact ⟨k, by omega, hks, rfl, rfl, hid rfl⟩
          case round =>
            obtain ⟨j, hjg, hjs, rfl, rfl, he⟩ := hrel
            have HJ := hid hjg
            by_cases hltj : j < s.size
            · clear hjg
              have hltj' : (j : Int) < s.size := by omega
              have hdrj : s.data.toList.drop j = s[j]'hltj :: s.data.toList.drop (j + 1) := List.drop_eq_getElem_cons (by rw [size_list]; exact hltj)
              obtain ⟨cj, hcj⟩ : ∃ cj, s[j]'hltj = cj := ⟨_, rfl⟩
              have hxj : ((s[j]'hltj).toNat : Int) = (cj.toNat : Int) := by rw [hcj]
              rw [hcj] at hdrj
              have HDJ := hid hdrj
              clear hcj hdrj
              by_cases hj10 : cj = 10
              · have hxj2 : ((s[j]'hltj).toNat : Int) = 10 := by rw [hxj, hj10]; rfl
                have he2 : k + Lx.runL (fun x => x != 10) (s.data.toList.drop k) = j := by rw [he.out, HDJ.out, Lx.runL, if_neg (by rw [hj10]; decide)]; rfl
                have HT := hid (SkipTo.note hlt (by rw [HC.out, H35.out]) hjs he2)
                clear hxj hj10 he2
                go_wp2_with fail
                have hkg := HG.out
                have hg9 := HG9.out
                have ht := HT.out.1
                have hne : k ≠ j := fun h => by subst h; rw [hx2] at hxj2; omega
                go_roundg (s.size - j)
                case rel => exact ⟨j, by omega, hjs, by rfl, rfl, hid (hS.out.trans HT.out)⟩
                case measure => omega
              · have hxj2 : (((s[j]'hltj).toNat : Int) == 10) = false := by simp; intro h; exact hj10 (UInt8.toNat_inj.1 (by simp; omega))
                have hne : (cj != 10) = true := by simpa using hj10
                have he2 : k + Lx.runL (fun x => x != 10) (s.data.toList.drop k) = (j + 1) + Lx.runL (fun x => x != 10) (s.data.toList.drop (j + 1)) := by rw [he.out, HDJ.out, Lx.runL, if_pos hne]; omega
                have HE2 := hid he2
                clear hxj hj10 hne he2
                go_wp2_with fail
                have hjg := HJ.out
                go_roundg (s.size - (j + 1))
                case rel => exact ⟨j + 1, by omega, by omega, by go_num, rfl, HE2⟩
                case measure => omega
            · obtain rfl : j = s.size := by omega
              have HT := hid (SkipTo.note hlt (by rw [HC.out, H35.out]) hjs (he.out.trans (by rw [List.drop_of_length_le (by rw [size_list]; omega)]; rfl)))
              clear hjg
              go_wp2_with fail
              have hkg := HG.out
              have hg9 := HG9.out
              go_roundg 0
              case rel => exact ⟨s.size, by omega, hjs, by rfl, rfl, hid (hS.out.trans HT.out)⟩
              case measure => omega
        · have e9 : ((cb.toNat : Int) == 9) = false := by simp; intro h; exact h9 (UInt8.toNat_inj.1 (by simp; omega))
          have e10 : ((cb.toNat : Int) == 10) = false := by simp; intro h; exact h10 (UInt8.toNat_inj.1 (by simp; omega))
          have e13 : ((cb.toNat : Int) == 13) = false := by simp; intro h; exact h13 (UInt8.toNat_inj.1 (by simp; omega))
          have e32 : ((cb.toNat : Int) == 32) = false := by simp; intro h; exact h32 (UInt8.toNat_inj.1 (by simp; omega))
          have e35 : ((cb.toNat : Int) == 35) = false := by simp; intro h; exact h35 (UInt8.toNat_inj.1 (by simp; omega))
          obtain ⟨ci, hci⟩ : ∃ ci : Int, (cb.toNat : Int) = ci := ⟨_, rfl⟩
          rw [hci] at hx e9 e10 e13 e32 e35
          have HN := hid (And.intro hnb h35)
          clear hci h9 h10 h13 h32 hnb hb h35
          go_wp2_with fail
          go_ret
          exact skip_ret rfl hS.out (fun _ => by rw [HC.out]; exact HN.out)
    · obtain rfl : k = s.size := by omega
      clear hkg hg9
      go_wp2_with fail
      go_ret
      exact skip_ret rfl hS.out (fun h => by omega)
end Go.Proofs.YtngbaghkjaibeaaDoor
