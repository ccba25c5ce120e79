/-
  THE WALK OF (*athanorref28.teller).told.
-/
import Derived.Test.YtikdflppccbdaaaHShape2
import Derived.Test.YtikdflppccbdaaaHAllocR
import Derived.Deep.RegionHeld3
namespace Go.Proofs.Ytikdflppccbdaaa
open Go.ChangeShapes Go.WideShapes Go.ChangeAt Go.RowKit Go.ChangeMaps

structure TRt (W : World) (B0 M g n : Nat) (vo : Value) (l : List Nat) : Prop where
  blk : Blk W M 82 #[.slice (some ⟨g, 0, none⟩) n n, vo]
  num : Row W g n n (tab n (numR l))
  own : OwnI W B0 vo (ordI l)
theorem Blk.two {w : World} {g : Nat} {t : TypeId} {a b : Value} (h : Blk w g t #[a, b]) : w.cell? ⟨g, 0, none⟩ = some a ∧ w.cell? ⟨g, 1, none⟩ = some b ∧ w.frozen? ⟨g, 1, none⟩ = false := ⟨h.cell 0, h.cell 1, h.frozen 1⟩
set_option maxHeartbeats 2000000 in
set_option maxRecDepth 100000 in
theorem told_ (B0 M g n : Nat) (vo : Value) (l : List Nat) (x : Int) (W : World) (h : TRt W B0 M g n vo l) (hB : B0 ≤ W.heap.size) (h1 : M < B0) (h2 : g < B0) (n1 : M ≠ g)
    (hwf : (Lit.int .i64 x).wf = true) (hl : l.length ≤ 6000) (hn : n ≤ 6000) (hx : ¬ PlOk x ∧ IntOk x ∨ PlOk x ∧ plN x < n) :
    Calls Try.prog 47 #[.pointer (some ⟨M, 0, none⟩), .int .i64 x] W fun e W' => e = .returned (.int .i64 (wnum (enc l x) x)) ∧ ∃ vo', TRt W' B0 M g n vo' (enc l x) ∧ KB M g vo.ownBlock W W' ∧ (vo'.ownBlock = vo.ownBlock ∨ ∃ k, W.heap.size ≤ k ∧ vo'.ownBlock = some k) := by
  obtain ⟨hb, hnr, hw⟩ := h
  have hwx := hid hwf
  have n2 : ¬ g = M := fun h => n1 h.symm
  rcases hx with ⟨hx, hi⟩ | ⟨hx, hpn⟩
  · have hx2 : x % 2 = 1 ∧ 0 ≤ x := by unfold IntOk at hi; omega
    have hx3 : x.tmod 2 = x % 2 := Int.tmod_eq_emod_of_nonneg hx2.2
    have hx4 : (x.tmod 2 == 1) = true := by rw [hx3, hx2.1]; rfl
    have he : enc l x = l := enc_old fun h => absurd h hx
    have hnu : wnum l x = x := if_neg hx
    have HF := hid (And.intro he hnu)
    clear hx hi hwf he hnu hx2 hx3
    go_enter Try.func47, Try.ntmps47
    go_wp2
    go_ret
    obtain ⟨he, hnu⟩ := HF.out
    rw [he, hnu]
    exact ⟨rfl, vo, ⟨hb, hnr, hw⟩, KB.refl _ _ _ _, .inl rfl⟩
  · have hx2 : x % 2 = 0 ∧ 0 ≤ x := by unfold PlOk at hx; omega
    have hx3 : x.tmod 2 = x % 2 := Int.tmod_eq_emod_of_nonneg hx2.2
    have hx4 : (x.tmod 2 == 1) = false := by rw [hx3, hx2.1]; rfl
    have hP := hid (plV_yes hx)
    obtain ⟨p, hp⟩ : ∃ p, plN x = p := ⟨_, rfl⟩
    rw [hp] at hP hpn
    obtain ⟨q1, q2, q3⟩ := hb.two
    have q4 := hnr.cell hpn
    rw [gw_tab hpn] at q4
    have q5 := hnr.frozen p
    by_cases hin : p ∈ l
    · have he : enc l x = l := enc_old fun _ => by rw [hp]; exact hin
      have hnm : numR l p = (idx l p : Int) + 1 := if_pos hin
      have hi := idx_lt hin
      have hnu : wnum l x = (idx l p : Int) - 1099511627776 := by unfold wnum; rw [if_pos hx, hp]
      have hwr : IntKind.i64.wrap ((idx l p : Int) + 1 - 1) = (idx l p : Int) := by rw [show (idx l p : Int) + 1 - 1 = (idx l p : Int) from by omega]; exact IntWalk.i64_in _ (by omega)
      have hwr2 : IntKind.i64.wrap ((idx l p : Int) - 1099511627776) = (idx l p : Int) - 1099511627776 := IntWalk.i64_in _ (by omega)
      have hne : ((idx l p : Int) + 1 == 0) = false := by simp; omega
      rw [hnm] at q4
      have HF := hid (And.intro he hnu)
      clear hx hp hwf hin he hnm hnu hx2 hx3
      generalize idx l p = ix at hi hwr hwr2 q4 HF hne
      go_enter Try.func47, Try.ntmps47
      go_wp2_with (go_at_call 51; go_must (refine (ref27_Place x hwx.out _).mono ?_); rw [hP.out]; rintro e w1 ⟨rfl, rfl⟩)
      go_ret
      obtain ⟨he, hnu⟩ := HF.out
      rw [he, hnu]
      exact ⟨rfl, vo, ⟨hb, hnr, hw⟩, KB.refl _ _ _ _, .inl rfl⟩
    · have he : enc l x = l ++ [p] := by rw [enc_new ⟨hx, by rw [hp]; exact hin⟩, hp]
      have hnm : numR l p = 0 := if_neg hin
      have hn2 := numR_new hin
      have hnu : wnum (l ++ [p]) x = (l.length : Int) - 1099511627776 := by unfold wnum; rw [if_pos hx, hp, idx_new hin]
      have hwr : IntKind.i64.wrap ((l.length : Int) + 1 - 1) = (l.length : Int) := by rw [show (l.length : Int) + 1 - 1 = (l.length : Int) from by omega]; exact IntWalk.i64_in _ (by omega)
      have hwr2 : IntKind.i64.wrap ((l.length : Int) - 1099511627776) = (l.length : Int) - 1099511627776 := IntWalk.i64_in _ (by omega)
      have hp6 : p < 1000000 := by omega
      have hpw := hid (wf_nat hp6)
      rw [hnm] at q4
      have HF := hid (And.intro he hnu)
      have HN2 := hid hn2
      obtain ⟨A, co, rfl⟩ := hw.vals
      have HW := hid hw
      have HBk := hid hb
      have HNR := hid hnr
      clear hx hp hwf hin he hnm hnu hx2 hx3 hn2 hw hb hnr
      go_enter Try.func47, Try.ntmps47
      go_wp2_with (first
        | (go_at_call 51; go_must (refine (ref27_Place x hwx.out _).mono ?_); rw [hP.out]; rintro e w1 ⟨rfl, rfl⟩)
        | (at_builtin; go_must (refine wpList_appJ (by rfl) _ _ (by rfl) B0 (by rfl) (HW.out.alloc _) (by rfl) (ints_one (B := W.heap.size + 1) rfl (by omega) hpw.out) (by rw [ordI_length]; omega) (by simp; omega) ?_); intro v' w4 hO4 hg4 hat; go_must (obtain ⟨A4, c4, e9, _⟩ := hO4.slice; rw [List.length_append, ordI_length, List.length_singleton] at e9; subst e9; have e4 : ∀ j, j < B0 → (Value.slice A l.length co).ownBlock ≠ some j := fun j hj e => (by have := (HW.out.lt e).1; omega); have HB4 := hid ((HBk.out.alloc _).grown1 hg4 (e4 _ h1)); have HR4 := hid ((HNR.out.alloc _).grown hg4 (e4 _ h2)); have HV4 := hid hO4; have Hg4 := hid hg4; have Hat := hid hat; clear q1 q2 q3 q4 q5 hO4 hg4 hat e4; obtain ⟨q1, q2, q3⟩ := HB4.out.two; have q4 := HR4.out.cell hpn; have q5 := HR4.out.frozen p)))
      have hpi : (p : Int) < (n : Int) := by omega
      have hlw := hid (show (Lit.int .i64 ((l.length : Int) + 1)).wf = true by rw [← wrap_small (z := (l.length : Int) + 1) (by omega)]; exact wrap64_wf _)
      have hS1 : (w4.setCell ⟨M, 1, none⟩ (.slice A4 (l.length + 1) c4)).cell? ⟨M, 0, none⟩ = some (.slice (some ⟨g, 0, none⟩) n n) := (HB4.out.set_ 1 (.slice A4 (l.length + 1) c4)).cell 0
      have hS2 : (w4.setCell ⟨M, 1, none⟩ (.slice A4 (l.length + 1) c4)).cell? ⟨M, 1, none⟩ = some (.slice A4 (l.length + 1) c4) := (HB4.out.set_ 1 (.slice A4 (l.length + 1) c4)).cell 1
      go_region_held3 (fun w' => w'.cell? ⟨M, 0, none⟩ = some (.slice (some ⟨g, 0, none⟩) n n) ∧ w'.cell? ⟨M, 1, none⟩ = some (.slice A4 (l.length + 1) c4)) (first | exact ⟨hS1, hS2⟩ | go_keep) (fail)
      all_goals go_wp2
      go_ret
      obtain ⟨he, hnu⟩ := HF.out
      rw [he, hnu]
      have hs := Hg4.out.size
      rw [World.size_alloc] at hs
      refine ⟨rfl, .slice A4 (l.length + 1) c4, ⟨?_, ?_, ?_⟩, ⟨Hg4.out.os, Hg4.out.tape, Hg4.out.output, ?_, ?_⟩, ?_⟩
      · repeat (first | exact HB4.out.set_ 1 _ | refine Blk.far ?_ (by dsimp only; omega) _ | refine Blk.drew ?_)
      · rw [HN2.out, ← tab_set]
        have := ((HR4.out.far n2 (p := ⟨M, 1, none⟩) (.slice A4 (l.length + 1) c4)).drew).set_ (i := p) hpn hlw.out
        exact this
      · rw [ordI_snoc]
        repeat (first | exact HV4.out | refine OwnI.set_ ?_ (by dsimp only; omega) _ | refine OwnI.drew ?_)
      · simp [World.setCell, World.drew]
        omega
      · intro j a1 a2 a3 a4
        have h8 := Hg4.out.block j (by rw [World.size_alloc]; omega) (fun e => a4 e.symm)
        have h9 : (W.alloc (.cells #[.int .i64 p] 3)).heap[j]? = W.heap[j]? := heap_alloc_old W _ j a1
        exact (Below.heap_setCell _ ⟨g, p, none⟩ _ j a3).trans ((Below.heap_setCell w4 ⟨M, 1, none⟩ _ j a2).trans (h8.trans h9))
      · rcases Hat.out with e | e
        · exact .inl e
        · exact .inr ⟨(W.alloc (.cells #[.int .i64 (p : Int)] 3)).heap.size, by rw [World.size_alloc]; omega, e⟩
end Go.Proofs.Ytikdflppccbdaaa
