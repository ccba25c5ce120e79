/-
  THE WALK OF athanorref14.Decl.
-/
import Derived.Test.YtnlifgcnmhakiaaTReachP
namespace Go.Proofs.Ytnlifgcnmhakiaa
open Go.ChangeShapes Go.WideShapes Go.ChangeAt Go.RowKit

/-- What Decl tells. -/
def declR (ds : List Dc) (s : ByteArray) : Int := if idx ds s < ds.length then idx ds s else -1
def DeclP (ds : List Dc) (s : ByteArray) (w : World) (e : Ending) (w' : World) : Prop := e = .returned (.int .i64 (declR ds s)) ∧ w' = w
set_option maxHeartbeats 4000000 in
set_option maxRecDepth 100000 in
theorem ref14_Decl (ds : List Dc) (s : ByteArray) (v : Value) (S : Nat → Prop) (w : World) (hl : ds.length ≤ 1000) (hv : DcsAt w S ds v) : Calls Try.prog 64 #[v, .string s] w (DeclP ds s w) := by
  obtain ⟨A, c, rfl, hc, hcm, _, hrow⟩ := hv
  have H := hid hrow
  have HL := hid hl
  clear hrow hc hcm
  go_enter Try.func64, Try.ntmps64
  go_wp2
  go_loopg [5] ds.length (fun g x wr => ∃ i : Nat, i + g = ds.length ∧ x = .int .i64 i ∧ wr = w ∧ Hid (∀ j, (h : j < ds.length) → j < i → ds[j].name ≠ s))
  case atStart => exact ⟨0, by omega, rfl, rfl, hid (fun j _ h => by omega)⟩
  case round =>
    obtain ⟨i, hi, rfl, rfl, hn⟩ := hrel
    have Hi := hid hi
    by_cases hlt : i < ds.length
    case neg =>
      obtain rfl : i = ds.length := by omega
      clear hi
      go_wp2
      go_ret
      have e1 : declR ds s = -1 := by unfold declR; rw [if_neg (by rw [idx_none (fun j h => hn.out j h h)]; omega)]
      exact ⟨by rw [e1]; rfl, rfl⟩
    have hlt' : (i : Int) < ds.length := by omega
    obtain ⟨ad, P, pc, C, cc, rfl, hSb, y0, _⟩ := H.out i hlt
    have HT := hid hlt
    have HN := hid (rfl : ds[i].name = ds[i].name)
    generalize hd9 : ds[i].name = nm at y0
    have Hd := hid hd9
    clear hSb hd9 HN
    by_cases he : nm = s
    · subst he
      have e1 : declR ds nm = i := by unfold declR; rw [if_pos (by rw [idx_at HT.out Hd.out hn.out]; exact hlt), idx_at HT.out Hd.out hn.out]
      have E1 := hid e1
      clear hi e1
      go_wp2
      go_ret
      exact ⟨by rw [E1.out]; rfl, rfl⟩
    · have he2 : (nm.toList == s.toList) = false := str_ne (decide_eq_false he)
      have HE := hid he
      clear hi
      go_wp2
      have hgk := Hi.out
      go_roundg (gk - 1)
      case rel =>
        refine ⟨i + 1, by omega, by go_num, rfl, hid (fun j hj hji => ?_)⟩
        by_cases hjj : j = i
        · subst hjj; exact of_get (P := fun x => x ≠ s) Hd.out HE.out
        · exact hn.out j hj (by omega)
      case measure => omega
end Go.Proofs.Ytnlifgcnmhakiaa
