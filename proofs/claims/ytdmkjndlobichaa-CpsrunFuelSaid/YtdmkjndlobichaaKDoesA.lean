/-
  THE WALK OF cpsrun's does: ALL KINDS.
-/
import Derived.Test.YtdmkjndlobichaaKDoes2
import Derived.Test.YtdmkjndlobichaaKDoes3
import Derived.Test.YtdmkjndlobichaaKDoes4
namespace Go.Proofs.Ytdmkjndlobichaa
set_option linter.all false
open Go.ChangeShapes Go.WideShapes Go.ChangeAt Go.RowKit Go.Maps
open Tm (Te Pv Fr lookV setV atomV fixF primS fieldS bindS)
open Ev (Out)
theorem prim_stop {n q : Int} {v : Pv} {k : Int} (h : primS n (.num q) v = .stop k) : k ≠ 1 := by
  unfold primS at h
  split at h
  · split at h
    · cases h
    · injection h with h; omega
  · injection h with h; omega
set_option maxHeartbeats 4000000 in
theorem run_does (t : Te) (h5 : Tm.kind t ≠ 5) (M F s : Nat) (ws : List Int) (wv : Value) (φ : List (Nat × Nat)) (fs : List Fr) (N e ep mp : Nat) (p : Addr) (w : World) (st : Tm.St) (hd : Tm.doesF e t fs ws = some st) (hm : MK w M F s ws wv φ fs N) (hN : N ≤ 1000000000000000) (he : φ[e]? = some (ep, mp)) (ht : TPt w (Nm M φ wv) p t) :
    Calls Try.prog 91 #[.pointer (some ⟨M, 0, none⟩), .pointer (some p), .pointer (some ⟨ep, 0, none⟩)] w (DoP st M F s φ wv (N + 65536) w) := by
  obtain ⟨k, x, n, i, ts, ats, fh, fb, us⟩ := t
  rw [Tm.doesF] at hd
  unfold Tm.doesK at hd
  by_cases h1 : k = 1
  · subst h1
    rw [if_pos rfl] at hd
    split at hd
    · rename_i a b u
      obtain ⟨av, an⟩ := a
      obtain ⟨bv, bn⟩ := b
      injection hd with hd
      subst hd
      cases hn : Tm.numOf (atomV fs e (av, an)) with
      | none =>
        have e1 : primS n (atomV fs e (av, an)) (atomV fs e (bv, bn)) = .stop (-1) := by unfold primS; rw [hn]
        rw [e1]
        exact does_1a x n i ts av bv an bn fh fb u M F s ws wv φ fs N e ep mp p w hm hN he ht ⟨hn, rfl⟩
      | some q =>
        have hv := num_kind hn
        cases hp : primS n (.num q) (atomV fs e (bv, bn)) with
        | ok r =>
          rw [hv, hp]
          exact does_1ok x n i ts av bv an bn fh fb u M F s ws wv φ fs N e ep mp p w hm hN he ht q r ⟨hn, hp⟩
        | stop k =>
          rw [hv, hp]
          exact does_1b x n i ts av bv an bn fh fb u M F s ws wv φ fs N e ep mp p w hm hN he ht q k (prim_stop hp) ⟨hn, hp⟩
    · cases hd
  rw [if_neg h1] at hd
  by_cases h2 : k = 2
  · subst h2
    rw [if_pos rfl] at hd
    split at hd
    · rename_i u
      split at hd
      · rename_i hl
        injection hd with hd
        subst hd
        exact does_2 x n i ts ats fh fb u M F s ws wv φ fs N e ep mp p w hm hN he ht hl
      · cases hd
    · cases hd
  rw [if_neg h2] at hd
  by_cases h3 : k = 3
  · subst h3
    rw [if_pos rfl] at hd
    split at hd
    · rename_i a u
      obtain ⟨av, an⟩ := a
      split at hd
      · rename_i hn0
        injection hd with hd
        subst hd
        cases hv : atomV fs e (av, an) with
        | zero => exact does_3a x n i ts av an fh fb u M F s ws wv φ fs N e ep mp p w hm hN he ht .zero hv.symm rfl
        | num m => exact does_3a x n i ts av an fh fb u M F s ws wv φ fs N e ep mp p w hm hN he ht (.num m) hv.symm rfl
        | fn ps b e9 => exact does_3a x n i ts av an fh fb u M F s ws wv φ fs N e ep mp p w hm hN he ht (.fn ps b e9) hv.symm rfl
        | con c vs =>
          unfold fieldS
          simp only
          cases hr : vs[n.toNat]? with
          | some r => exact does_3ok x n i ts av an fh fb u M F s ws wv φ fs N e ep mp p w hm hN he ht (.con c vs) hv.symm c vs n.toNat r rfl (by omega) hr
          | none => exact does_3b x n i ts av an fh fb u M F s ws wv φ fs N e ep mp p w hm hN he ht (.con c vs) hv.symm c vs rfl (by have := List.getElem?_eq_none_iff.1 hr; omega)
      · cases hd
    · cases hd
  rw [if_neg h3] at hd
  by_cases h4 : k = 4
  · subst h4
    rw [if_pos rfl] at hd
    split at hd
    · rename_i u
      split at hd
      · rename_i hl
        injection hd with hd
        subst hd
        exact does_4 x n i ts ats fh fb u M F s ws wv φ fs N e ep mp p w hm hN he ht hl.2
      · cases hd
    · cases hd
  rw [if_neg h4] at hd
  by_cases h6 : k = 6
  · subst h6
    rw [if_pos rfl] at hd
    split at hd
    · rename_i a
      obtain ⟨av, an⟩ := a
      have h9 := does_6 x n i ts av an fh fb us M F s ws wv φ fs N e ep mp p w hm hN he ht
      split at hd
      · rename_i u hu
        injection hd with hd
        subst hd
        rw [hu] at h9
        exact h9
      · rename_i hu
        injection hd with hd
        subst hd
        rw [hu] at h9
        exact h9
    · cases hd
  rw [if_neg h6] at hd
  by_cases h7 : k = 7
  · subst h7
    rw [if_pos rfl] at hd
    split at hd
    · rename_i a u
      obtain ⟨av, an⟩ := a
      injection hd with hd
      subst hd
      exact does_7 x n i ts av an fh fb u [u] M F s ws wv φ fs N e ep mp p w hm hN he ht rfl
    · cases hd
  rw [if_neg h7] at hd
  by_cases h8 : k = 8
  · subst h8
    rw [if_pos rfl] at hd
    split at hd
    · rename_i a
      obtain ⟨av, an⟩ := a
      injection hd with hd
      subst hd
      exact does_8 x n i ts av an fh fb us M F s ws wv φ fs N e ep mp p w hm hN he ht
    · cases hd
  rw [if_neg h8] at hd
  cases hd
end Go.Proofs.Ytdmkjndlobichaa
