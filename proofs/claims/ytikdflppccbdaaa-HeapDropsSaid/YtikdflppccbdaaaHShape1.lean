/-
  THE WALK OF THE CLOSURE OF heap.Shape.
-/
import Derived.Test.YtikdflppccbdaaaHShapeM
import Derived.Deep.DeepMust
namespace Go.Proofs.Ytikdflppccbdaaa
open Go.ChangeShapes Go.WideShapes Go.ChangeAt Go.RowKit Go.ChangeMaps

structure TSt (W : World) (B0 nb ob r : Nat) (vo : Value) (l : List Nat) : Prop where
  num : Blk W nb 71 #[.map (some r)]
  ord : Blk W ob 22 #[vo]
  map : MapN W r l.length (numM l)
  own : OwnI W B0 vo (ordI l)
theorem OwnI.vals {w : World} {B : Nat} {v : Value} {l : List Nat} (h : OwnI w B v (ordI l)) : ∃ A c, v = .slice A l.length c := by
  obtain ⟨A, c, e, _⟩ := h.slice
  rw [ordI_length] at e
  exact ⟨A, c, e⟩
theorem Blk.grown1 {w w' : World} {g : Nat} {t : TypeId} {cs : Array Value} {r : Option Nat} (h : Blk w g t cs) (hg : w.grownBy w' r) (hr : r ≠ some g) : Blk w' g t cs :=
  (hg.block g (Array.getElem?_eq_some_iff.1 h).1 (fun e => hr e.symm)).trans h
set_option maxHeartbeats 2000000 in
set_option maxRecDepth 100000 in
theorem shape_word (B0 nb ob r : Nat) (vo : Value) (l : List Nat) (x : Int) (W : World) (h : TSt W B0 nb ob r vo l) (hB : B0 ≤ W.heap.size) (h1 : nb < B0) (h2 : ob < B0) (h3 : r < B0) (n1 : nb ≠ ob) (n2 : r ≠ ob) (n3 : nb ≠ r)
    (hwf : (Lit.int .i64 x).wf = true) (hl : l.length ≤ 6000) :
    Calls Try.prog 46 #[.int .i64 x, .pointer (some ⟨nb, 0, none⟩), .pointer (some ⟨ob, 0, none⟩)] W fun e W' => e = .returned (.int .i64 (wnum (enc l x) x)) ∧ ∃ vo', TSt W' B0 nb ob r vo' (enc l x) ∧ KB r ob vo.ownBlock W W' ∧ (vo'.ownBlock = vo.ownBlock ∨ ∃ k, W.heap.size ≤ k ∧ vo'.ownBlock = some k) := by
  obtain ⟨hn, ho, hm, hw⟩ := h
  have hwx := hid hwf
  by_cases hx : PlOk x
  · have hP := hid (plV_yes hx)
    obtain ⟨p, hp⟩ : ∃ p, plN x = p := ⟨_, rfl⟩
    rw [hp] at hP
    have hp6 : p < 1000000 := by rw [← hp]; unfold plN; unfold PlOk at hx; omega
    have q1 : W.cell? ⟨nb, 0, none⟩ = some (.map (some r)) := hn.cell 0
    have q2 : W.cell? ⟨ob, 0, none⟩ = some vo := ho.cell 0
    have q3 := ho.frozen 0
    by_cases hin : p ∈ l
    · have he : enc l x = l := enc_old fun _ => by rw [hp]; exact hin
      have hnm : numM l p = some (idx l p : Int) := if_pos hin
      have hi := idx_lt hin
      have hnu : wnum l x = (idx l p : Int) - 1099511627776 := by unfold wnum; rw [if_pos hx, hp]
      have hwr : IntKind.i64.wrap ((idx l p : Int) - 1099511627776) = (idx l p : Int) - 1099511627776 := IntWalk.i64_in _ (by omega)
      have HNM := hid hnm
      have HM := hid hm
      have HF := hid (And.intro he hnu)
      clear hx hp hwf hin he hnm hnu
      generalize idx l p = ix at hi hwr HNM HF
      go_enter Try.func46, Try.ntmps46
      go_wp2_with (first
        | (go_at_call 31; go_must (refine (cells_Place x hwx.out _).mono ?_); rw [hP.out]; rintro e w1 ⟨rfl, rfl⟩)
        | (at_lookup; refine wpList_lookN (by rfl) _ _ (by rfl) HM.out (p := p) (by omega) (by rfl) (by rfl) ?_; rw [HNM.out]; simp only [Option.getD_some, Option.isSome_some])
        | (at_lookup; refine wpList_lookM (by rfl) _ _ (by rfl) HM.out (p := p) (by omega) (by rfl) (by rfl) ?_; rw [HNM.out]; simp only [Option.getD_some]))
      go_ret
      obtain ⟨he, hnu⟩ := HF.out
      rw [he, hnu]
      exact ⟨rfl, vo, ⟨hn, ho, hm, hw⟩, KB.refl _ _ _ _, .inl rfl⟩
    · have he : enc l x = l ++ [p] := by rw [enc_new ⟨hx, by rw [hp]; exact hin⟩, hp]
      have hnm : numM l p = none := if_neg hin
      have hn2 := numM_new hin
      have hnu : wnum (l ++ [p]) x = (l.length : Int) - 1099511627776 := by unfold wnum; rw [if_pos hx, hp, idx_new hin]
      have hwr : IntKind.i64.wrap ((l.length : Int) - 1099511627776) = (l.length : Int) - 1099511627776 := IntWalk.i64_in _ (by omega)
      have hlw := hid (wf_nat (p := l.length) (by omega))
      have hpw := hid (wf_nat hp6)
      have HNM := hid hnm
      have HN2 := hid hn2
      have HM := hid hm
      have HF := hid (And.intro he hnu)
      obtain ⟨A, co, rfl⟩ := hw.vals
      have HW := hid hw
      have HO := hid ho
      have HN := hid hn
      clear hx hp hwf hin he hnm hnu hm hn2 hw hn ho
      have HL := hid hl
      go_enter Try.func46, Try.ntmps46
      go_wp2_with (first
        | (go_at_call 31; go_must (refine (cells_Place x hwx.out _).mono ?_); rw [hP.out]; rintro e w1 ⟨rfl, rfl⟩)
        | (at_lookup; have _ := HNM; refine wpList_lookN (by rfl) _ _ (by rfl) HM.out (p := p) (by omega) (by rfl) (by rfl) ?_; rw [HNM.out]; simp only [Option.getD_none, Option.isSome_none])
        | (at_mapUpdate; go_must (refine wpList_updN (by rfl) _ _ _ (by rfl) HM.out (p := p) (u := (l.length : Int)) (by omega) (by omega) hlw.out (by rfl) (by rfl) (by rfl) ?_); intro w3 ho3 hm3; go_must (rw [← HN2.out] at hm3; have HM3 := hid hm3; have HO3 := hid (ho3.blk HO.out (fun e => n2 e.symm)); have HN3 := hid (ho3.blk HN.out n3); have HW3 := hid (HW.out.of_block fun g hg => ho3.block g (by have := (HW.out.lt hg).1; omega)); have Ho3 := hid ho3; have hB3 : B0 ≤ w3.heap.size := Nat.le_trans hB (Nat.le_of_eq ho3.size.symm); clear q1 q2 q3 ho3 hm3; have q1 : w3.cell? ⟨nb, 0, none⟩ = some (.map (some r)) := HN3.out.cell 0; have q2 : w3.cell? ⟨ob, 0, none⟩ = some (.slice A l.length co) := HO3.out.cell 0; have q3 := HO3.out.frozen 0; clear HNM HM))
        | (at_builtin; go_must (refine wpList_appJ (by rfl) _ _ (by rfl) B0 (by rfl) (HW3.out.alloc _) (by rfl) (ints_one (B := w3.heap.size + 1) rfl (by omega) hpw.out) (by rw [ordI_length]; omega) (by simp; omega) ?_); intro v' w4 hO4 hg4 hat; go_must (obtain ⟨A4, c4, e9, _⟩ := hO4.slice; rw [List.length_append, ordI_length, List.length_singleton] at e9; subst e9; have e4 : ∀ j, j < B0 → (Value.slice A l.length co).ownBlock ≠ some j := fun j hj e => (by have := (HW3.out.lt e).1; omega); have HO4 := hid ((HO3.out.alloc _).grown1 hg4 (e4 _ h2)); have HN4 := hid ((HN3.out.alloc _).grown1 hg4 (e4 _ h1)); have HM4 := hid ((HM3.out.alloc _).grown hg4 (e4 _ h3)); have HV4 := hid hO4; have Hg4 := hid hg4; have Hat := hid hat; clear q1 q2 q3 hO4 hg4 hat e4; have q1 : w4.cell? ⟨nb, 0, none⟩ = some (.map (some r)) := HN4.out.cell 0; have q2 : w4.cell? ⟨ob, 0, none⟩ = some (.slice A l.length co) := HO4.out.cell 0; have q3 := HO4.out.frozen 0))
        | (at_lookup; go_must (refine wpList_lookM (by rfl) _ _ (by rfl) (HM4.out.only (Only.setCell _ ob 0 _) n2) (p := p) (by omega) (by rfl) (by rfl) ?_); rw [HN2.out]; simp only [Option.getD_some, if_true]))
      go_ret
      obtain ⟨he, hnu⟩ := HF.out
      rw [he, hnu]
      have hs := Hg4.out.size
      rw [World.size_alloc] at hs
      refine ⟨rfl, _, ⟨HN4.out.far (by dsimp only; omega) _, HO4.out.set_ 0 _, by (rw [List.length_append]; exact HM4.out.only (Only.setCell _ ob 0 _) n2), ?_⟩, ⟨Hg4.out.os.trans Ho3.out.os, Hg4.out.tape.trans Ho3.out.tape, Hg4.out.output.trans Ho3.out.output, ?_, ?_⟩, ?_⟩
      · have := HV4.out.set_ (a := ⟨ob, 0, none⟩) (by exact h2) (.slice A4 (l.length + 1) c4)
        rwa [← ordI_snoc] at this
      · have := Ho3.out.size
        simp [World.setCell]
        omega
      · intro j a1 a2 a3 a4
        rw [Below.heap_setCell w4 ⟨ob, 0, none⟩ _ j a3, Hg4.out.block j (by have := Ho3.out.size; rw [World.size_alloc]; omega) (fun e => a4 e.symm)]
        have h9 : (w3.alloc (.cells #[.int .i64 p] 3)).heap[j]? = w3.heap[j]? := heap_alloc_old w3 _ j (by have := Ho3.out.size; omega)
        rw [h9, Ho3.out.block j a2]
      · rcases Hat.out with e | e
        · exact .inl e
        · exact .inr ⟨(w3.alloc (.cells #[.int .i64 (p : Int)] 3)).heap.size, by rw [World.size_alloc]; have := Ho3.out.size; omega, e⟩
  · have hP := hid (plV_no hx)
    have he : enc l x = l := enc_old fun h => absurd h hx
    have hnu : wnum l x = x := if_neg hx
    have HF := hid (And.intro he hnu)
    clear hx hwf he hnu
    go_enter Try.func46, Try.ntmps46
    go_wp2_with (first | (go_at_call 31; go_must (refine (cells_Place x hwx.out _).mono ?_); rw [hP.out]; rintro e w1 ⟨rfl, rfl⟩))
    go_ret
    obtain ⟨he, hnu⟩ := HF.out
    rw [he, hnu]
    exact ⟨rfl, vo, ⟨hn, ho, hm, hw⟩, KB.refl _ _ _ _, .inl rfl⟩
end Go.Proofs.Ytikdflppccbdaaa
