/-
  append ONTO AN EMPTY LITERAL: nothing that was is turned. AND THE WALKS OF Live.
-/
import Derived.Test.YtikdflppccbdaaaHShape3
import Derived.Test.YtikdflppccbdaaaHStep
import Derived.Test.YtikdflppccbdaaaHColR
namespace Go.Proofs.Ytikdflppccbdaaa
open Go.ChangeShapes Go.WideShapes Go.ChangeAt Go.RowKit

theorem run_app0 {w : World} {g : Nat} (hg : Blk w g 3 #[]) {A : Option Addr} {n c Bi : Nat} {ys : List Int} (hi : Ints w Bi A n c ys) (hlen : n ≤ 1000000) (ty : TypeId) :
    ∃ A' c' w', (Builtin.append_ #[22, 22] ty #[.slice (some ⟨g, 0, none⟩) 0 0, .slice A n c]).run Try.prog w = .ok (.slice A' n c') w' ∧ Below w.heap.size w w' ∧ Ints w' w'.heap.size A' n c' ys := by
  obtain ⟨i, hi1, hz, hs1, hs2⟩ := info_int.parts
  have hgl := hg.lt
  have hown : w.ownsRow 0 3 1 (.slice (some ⟨g, 0, none⟩) 0 0) 0 [] := ⟨rfl, .inr ⟨g, 0, #[], rfl, Nat.zero_le _, hg, Nat.le_refl _, Nat.zero_le _, rfl, rfl⟩⟩
  cases A with
  | none =>
    obtain ⟨rfl, rfl⟩ := hi.nil rfl
    obtain rfl : ys = [] := List.length_eq_zero_iff.1 hi.len.symm
    exact ⟨some ⟨g, 0, none⟩, 0, w, run_append_owned_none (P := Try.prog) (w := w) 0 22 ty 3 i 1 Try.underlying22 hi1 _ 0 _ hown, Below.refl _ _, rfl, Nat.le_refl _, Nat.zero_le _, by simp, fun h => (by cases h), .inl rfl⟩
  | some ad =>
    obtain ⟨v', w', hr, h1, _, _, _⟩ := run_append_own_at (P := Try.prog) w 0 22 ty 3 i (.int .i64 0) 1 8 Try.underlying22 hi1 hz hs1 hs2 rfl (by omega) (.slice (some ⟨g, 0, none⟩) 0 0) 0 [] hown ad n c (ys.map (.int .i64)) (by simp [hi.len]) (news_of_ints hi) (by simp [Value.oneCell']) (by unfold maxLen; omega) (by omega) (Nat.zero_le _)
    have hO : OwnI w' 0 v' ys := ⟨by unfold Own; have := h1; simp only [List.nil_append, Nat.zero_add] at this; rwa [show n = (ys.map (Value.int .i64)).length from by simp [hi.len]] at this, hi.wf⟩
    obtain ⟨A', c', rfl, hi'⟩ := hO.slice
    rw [← hi.len] at hr hi'
    refine ⟨A', c', w', hr, ?_, hi'⟩
    by_cases h0 : n = 0
    · subst h0
      have hr2 := run_append_room (P := Try.prog) w 22 ty 3 i Try.underlying22 hi1 g 0 0 #[] hg ad 0 c [] (by simp) (by simp) (by simp) (by omega) (by simp)
      rw [hr] at hr2
      injection hr2 with _ hw
      subst hw
      refine ⟨rfl, rfl, rfl, by simp [World.setRow], fun j hj => ?_⟩
      by_cases e : j = g
      · subst e
        rw [setRow_heap w j #[] _ _ _ hg, hg]
        simp
      · exact setRow_other w g j _ e
    · have hr2 := run_append_grow (P := Try.prog) w 22 ty 3 i (.int .i64 0) Try.underlying22 hi1 hz ⟨g, 0, none⟩ 0 0 [] (by simp) (by simp) ad n c (ys.map (.int .i64)) (by simp [hs1, hi.len]) (news_of_ints hi) (by omega) (by omega) (growslice_fits (by omega) (by rw [hs2]; omega))
      rw [hr] at hr2
      injection hr2 with _ hw
      subst hw
      exact ((Below.refl _ w).drew).alloc (by simp) _
theorem step_app0 {w : World} {ops : Array Oper} {o : Oper} {a : Act} {K : Act → World → Prop} {Q : Exit → Act → World → Prop} {E : Prop} (hw : Region.wanted o (yielded ops a.tmps) = true) (s x : Operand)
    (ho : o.op = .call { callee := .builtin .append, args := #[s, x], argTypes := #[22, 22] })
    {g : Nat} (hs : a.eval s = .slice (some ⟨g, 0, none⟩) 0 0) (hg : Blk w g 3 #[]) {A : Option Addr} {n c Bi : Nat} {ys : List Int} (hx : a.eval x = .slice A n c) (hi : Ints w Bi A n c ys) (hlen : n ≤ 1000000)
    (h : ∀ A' c' w', Below w.heap.size w w' → Ints w' w'.heap.size A' n c' ys → K (a.put o.dst (.slice A' n c')) w') : if Region.wanted o (yielded ops a.tmps) = true then Oper.wp Try.prog o a w K Q else E := by
  rw [if_pos hw]
  obtain ⟨A', c', w', hr, hb, hi'⟩ := run_app0 hg hi hlen o.type
  unfold Oper.wp execOp
  simp only [ho, resolve, invoke, builtin, Sem.run_bind, Sem.run_pure, Result.andThen_ok, List.map_toArray, List.map_cons, List.map_nil, hs, hx, hr]
  exact h A' c' w' hb hi'

/-- How much is live. -/
noncomputable def liveP (h : Hp) (roots : List Int) : Int := if GoodP h roots then (collectP h roots).1.top - (collectP h roots).1.base else 0
set_option maxHeartbeats 2000000 in
set_option maxRecDepth 100000 in
theorem heap_Live (B : Nat) (v rv : Value) (h : Hp) (roots : List Int) (w : World) (hBw : B ≤ w.heap.size) (i1 : IsHp w B v h) (i2 : IsInts w B rv roots) (hn6 : h.ws.length ≤ 6000) :
    Calls Try.prog 24 #[v, rv] w fun e w' => e = .returned (.int .i64 (liveP h roots)) ∧ Below w.heap.size w w' := by
  obtain ⟨A, n, c, rfl, g1⟩ := i1
  obtain ⟨A2, m, d, rfl, g2⟩ := i2
  obtain ⟨ws, room, base, top⟩ := h
  dsimp only at g1 hn6 ⊢
  have HN : Hid ((Hp.mk ws room base top).ws.length ≤ 6000) := hid hn6
  have G1 := hid (g1.below (Below.refl B w) hBw)
  have G2 := hid (g2.below (Below.refl B w) hBw)
  have HB := hid (Below.refl w.heap.size w)
  clear g1 g2
  by_cases hg : GoodP ⟨ws, room, base, top⟩ roots
  · obtain ⟨L, sts, _, q2, _, _, q5, q6⟩ := bfs_facts hg
    have hlv := live_of hg q2
    have hL : liveP ⟨ws, room, base, top⟩ roots = (collectP ⟨ws, room, base, top⟩ roots).1.top - (collectP ⟨ws, room, base, top⟩ roots).1.base := if_pos hg
    have hsz : szs (gw ws) L ≤ 3000 := by have h9 := hg.1; unfold ShapedP at h9; dsimp only at h9 q5; omega
    obtain ⟨h2, o2, hc⟩ : ∃ h2 o2, collectP ⟨ws, room, base, top⟩ roots = (h2, o2, 0) := ⟨_, _, q6⟩
    rw [hc] at hL hlv
    obtain ⟨ws2, room2, base2, top2⟩ := h2
    dsimp only at hL hlv
    have hwr : IntKind.i64.wrap (top2 - base2) = top2 - base2 := IntWalk.i64_in _ (by omega)
    have HC := hid hc
    have HL := hid hL
    clear hg q2 q5 q6 hlv hL hc hsz hn6
    go_enter Try.func24, Try.ntmps24
    go_wp2_with (go_at_call 22; go_must (refine (heap_Collect _ _ _ ⟨ws, room, base, top⟩ roots _ (Nat.le_refl _) ?_ ?_ HN.out).mono ?_; (exact (G1.out.below (by go_grown : Below w.heap.size w _) (by first | (simp; done) | (simp; omega) | omega)).isHp (h := ⟨ws, room, base, top⟩)); (exact ⟨_, _, _, rfl, G2.out.below (by go_grown : Below w.heap.size w _) (by first | (simp; done) | (simp; omega) | omega)⟩)); rw [HC.out]; rintro e w1 ⟨⟨_, _, rfl, ⟨A5, n5, c5, rfl, g5⟩, ⟨A6, n6, c6, rfl, g6⟩⟩, b⟩; go_must (have b9 := below_hop b (by go_grown : Below w.heap.size w _); (try (have h9 := hid (G1.out.below b9 b9.size); clear G1; have G1 := h9; clear h9)); (try (have h9 := hid (G2.out.below b9 b9.size); clear G2; have G2 := h9; clear h9)); (try (have h9 := hid (G3.out.below b9 b9.size); clear G3; have G3 := h9; clear h9)); (try (have h9 := hid (G4.out.below b9 b9.size); clear G4; have G4 := h9; clear h9)); (try (have h9 := hid (G5.out.below b9 b9.size); clear G5; have G5 := h9; clear h9)); (try (have h9 := hid (G6.out.below b9 b9.size); clear G6; have G6 := h9; clear h9)); (try (have h9 := hid (G7.out.below b9 b9.size); clear G7; have G7 := h9; clear h9)); (try (have h9 := hid (G8.out.below b9 b9.size); clear G8; have G8 := h9; clear h9)); (try (have h9 := hid (G9.out.below b9 b9.size); clear G9; have G9 := h9; clear h9)); (try (have h9 := hid (G10.out.below b9 b9.size); clear G10; have G10 := h9; clear h9)); (try (have h9 := hid (G11.out.below b9 b9.size); clear G11; have G11 := h9; clear h9)); (try (have h9 := hid (G12.out.below b9 b9.size); clear G12; have G12 := h9; clear h9)); (try (have h9 := hid (G13.out.below b9 b9.size); clear G13; have G13 := h9; clear h9)); (try (have h9 := hid (G14.out.below b9 b9.size); clear G14; have G14 := h9; clear h9)); (try (have h9 := hid (X1.out.below b9 X1.out.lt); clear X1; have X1 := h9; clear h9; clear x10 x11 x12 x13 x14 x15 x16 x17; obtain ⟨x10, x11, x12, x13, x14, x15, x16, x17⟩ := X1.out.cells4)); (try (have h9 := hid (X2.out.below b9 X2.out.lt); clear X2; have X2 := h9; clear h9; clear x20 x21 x22 x23 x24 x25 x26 x27; obtain ⟨x20, x21, x22, x23, x24, x25, x26, x27⟩ := X2.out.cells4)); (try (have h9 := hid (X3.out.below b9 X3.out.lt); clear X3; have X3 := h9; clear h9; clear x30 x31 x32 x33 x34 x35 x36 x37; obtain ⟨x30, x31, x32, x33, x34, x35, x36, x37⟩ := X3.out.cells4)); (try (have h9 := hid (X4.out.below b9 X4.out.lt); clear X4; have X4 := h9; clear h9; clear x40 x41 x42 x43 x44 x45 x46 x47; obtain ⟨x40, x41, x42, x43, x44, x45, x46, x47⟩ := X4.out.cells4)); (try (have h9 := hid (X5.out.below b9 X5.out.lt); clear X5; have X5 := h9; clear h9; clear x50 x51 x52 x53 x54 x55 x56 x57; obtain ⟨x50, x51, x52, x53, x54, x55, x56, x57⟩ := X5.out.cells4)); (try (have h9 := hid (X6.out.below b9 X6.out.lt); clear X6; have X6 := h9; clear h9; clear x60 x61 x62 x63 x64 x65 x66 x67; obtain ⟨x60, x61, x62, x63, x64, x65, x66, x67⟩ := X6.out.cells4)); (try (have h9 := hid (X7.out.below b9 X7.out.lt); clear X7; have X7 := h9; clear h9; clear x70 x71 x72 x73 x74 x75 x76 x77; obtain ⟨x70, x71, x72, x73, x74, x75, x76, x77⟩ := X7.out.cells4)); (have h9 := hid (HB.out.trans (b9.mono HB.out.size)); clear HB; have HB := h9; clear h9); clear b9; clear b))
    go_ret
    exact ⟨by rw [HL.out]; rfl, by have h9 := HB.out; have h8 := h9.size; go_grown⟩
  · have hc : collectP ⟨ws, room, base, top⟩ roots = (hpZ, [], 280) := if_neg hg
    have hL : liveP ⟨ws, room, base, top⟩ roots = 0 := if_neg hg
    have HC := hid hc
    have HL := hid hL
    clear hg hL hc hn6
    go_enter Try.func24, Try.ntmps24
    go_wp2_with (go_at_call 22; go_must (refine (heap_Collect _ _ _ ⟨ws, room, base, top⟩ roots _ (Nat.le_refl _) ?_ ?_ HN.out).mono ?_; (exact (G1.out.below (by go_grown : Below w.heap.size w _) (by first | (simp; done) | (simp; omega) | omega)).isHp (h := ⟨ws, room, base, top⟩)); (exact ⟨_, _, _, rfl, G2.out.below (by go_grown : Below w.heap.size w _) (by first | (simp; done) | (simp; omega) | omega)⟩)); rw [HC.out]; rintro e w1 ⟨⟨_, _, rfl, ⟨A5, n5, c5, rfl, g5⟩, ⟨A6, n6, c6, rfl, g6⟩⟩, b⟩; go_must (have b9 := below_hop b (by go_grown : Below w.heap.size w _); (try (have h9 := hid (G1.out.below b9 b9.size); clear G1; have G1 := h9; clear h9)); (try (have h9 := hid (G2.out.below b9 b9.size); clear G2; have G2 := h9; clear h9)); (try (have h9 := hid (G3.out.below b9 b9.size); clear G3; have G3 := h9; clear h9)); (try (have h9 := hid (G4.out.below b9 b9.size); clear G4; have G4 := h9; clear h9)); (try (have h9 := hid (G5.out.below b9 b9.size); clear G5; have G5 := h9; clear h9)); (try (have h9 := hid (G6.out.below b9 b9.size); clear G6; have G6 := h9; clear h9)); (try (have h9 := hid (G7.out.below b9 b9.size); clear G7; have G7 := h9; clear h9)); (try (have h9 := hid (G8.out.below b9 b9.size); clear G8; have G8 := h9; clear h9)); (try (have h9 := hid (G9.out.below b9 b9.size); clear G9; have G9 := h9; clear h9)); (try (have h9 := hid (G10.out.below b9 b9.size); clear G10; have G10 := h9; clear h9)); (try (have h9 := hid (G11.out.below b9 b9.size); clear G11; have G11 := h9; clear h9)); (try (have h9 := hid (G12.out.below b9 b9.size); clear G12; have G12 := h9; clear h9)); (try (have h9 := hid (G13.out.below b9 b9.size); clear G13; have G13 := h9; clear h9)); (try (have h9 := hid (G14.out.below b9 b9.size); clear G14; have G14 := h9; clear h9)); (try (have h9 := hid (X1.out.below b9 X1.out.lt); clear X1; have X1 := h9; clear h9; clear x10 x11 x12 x13 x14 x15 x16 x17; obtain ⟨x10, x11, x12, x13, x14, x15, x16, x17⟩ := X1.out.cells4)); (try (have h9 := hid (X2.out.below b9 X2.out.lt); clear X2; have X2 := h9; clear h9; clear x20 x21 x22 x23 x24 x25 x26 x27; obtain ⟨x20, x21, x22, x23, x24, x25, x26, x27⟩ := X2.out.cells4)); (try (have h9 := hid (X3.out.below b9 X3.out.lt); clear X3; have X3 := h9; clear h9; clear x30 x31 x32 x33 x34 x35 x36 x37; obtain ⟨x30, x31, x32, x33, x34, x35, x36, x37⟩ := X3.out.cells4)); (try (have h9 := hid (X4.out.below b9 X4.out.lt); clear X4; have X4 := h9; clear h9; clear x40 x41 x42 x43 x44 x45 x46 x47; obtain ⟨x40, x41, x42, x43, x44, x45, x46, x47⟩ := X4.out.cells4)); (try (have h9 := hid (X5.out.below b9 X5.out.lt); clear X5; have X5 := h9; clear h9; clear x50 x51 x52 x53 x54 x55 x56 x57; obtain ⟨x50, x51, x52, x53, x54, x55, x56, x57⟩ := X5.out.cells4)); (try (have h9 := hid (X6.out.below b9 X6.out.lt); clear X6; have X6 := h9; clear h9; clear x60 x61 x62 x63 x64 x65 x66 x67; obtain ⟨x60, x61, x62, x63, x64, x65, x66, x67⟩ := X6.out.cells4)); (try (have h9 := hid (X7.out.below b9 X7.out.lt); clear X7; have X7 := h9; clear h9; clear x70 x71 x72 x73 x74 x75 x76 x77; obtain ⟨x70, x71, x72, x73, x74, x75, x76, x77⟩ := X7.out.cells4)); (have h9 := hid (HB.out.trans (b9.mono HB.out.size)); clear HB; have HB := h9; clear h9); clear b9; dsimp only [hpZ]; clear b))
    go_ret
    exact ⟨by rw [HL.out]; rfl, by have h9 := HB.out; have h8 := h9.size; go_grown⟩
set_option maxHeartbeats 2000000 in
set_option maxRecDepth 100000 in
theorem ref28_Live (B : Nat) (v rv : Value) (h : Hp) (roots : List Int) (w : World) (hBw : B ≤ w.heap.size) (i1 : IsHp w B v h) (i2 : IsInts w B rv roots) (hn6 : h.ws.length ≤ 6000) :
    Calls Try.prog 25 #[v, rv] w fun e w' => e = .returned (.int .i64 (liveP h roots)) ∧ Below w.heap.size w w' := by
  obtain ⟨A, n, c, rfl, g1⟩ := i1
  obtain ⟨A2, m, d, rfl, g2⟩ := i2
  obtain ⟨ws, room, base, top⟩ := h
  dsimp only at g1 hn6 ⊢
  have HN : Hid ((Hp.mk ws room base top).ws.length ≤ 6000) := hid hn6
  have G1 := hid (g1.below (Below.refl B w) hBw)
  have G2 := hid (g2.below (Below.refl B w) hBw)
  have HB := hid (Below.refl w.heap.size w)
  clear g1 g2
  by_cases hg : GoodP ⟨ws, room, base, top⟩ roots
  · obtain ⟨L, sts, _, q2, _, _, q5, q6⟩ := bfs_facts hg
    have hlv := live_of hg q2
    have hL : liveP ⟨ws, room, base, top⟩ roots = (collectP ⟨ws, room, base, top⟩ roots).1.top - (collectP ⟨ws, room, base, top⟩ roots).1.base := if_pos hg
    have hsz : szs (gw ws) L ≤ 3000 := by have h9 := hg.1; unfold ShapedP at h9; dsimp only at h9 q5; omega
    obtain ⟨h2, o2, hc⟩ : ∃ h2 o2, collectP ⟨ws, room, base, top⟩ roots = (h2, o2, 0) := ⟨_, _, q6⟩
    rw [hc] at hL hlv
    obtain ⟨ws2, room2, base2, top2⟩ := h2
    dsimp only at hL hlv
    have hwr : IntKind.i64.wrap (top2 - base2) = top2 - base2 := IntWalk.i64_in _ (by omega)
    have HC := hid hc
    have HL := hid hL
    clear hg q2 q5 q6 hlv hL hc hsz hn6
    go_enter Try.func25, Try.ntmps25
    go_wp2_with (go_at_call 23; go_must (refine (ref28_Collect _ _ _ ⟨ws, room, base, top⟩ roots _ (Nat.le_refl _) ?_ ?_ HN.out).mono ?_; (exact (G1.out.below (by go_grown : Below w.heap.size w _) (by first | (simp; done) | (simp; omega) | omega)).isHp (h := ⟨ws, room, base, top⟩)); (exact ⟨_, _, _, rfl, G2.out.below (by go_grown : Below w.heap.size w _) (by first | (simp; done) | (simp; omega) | omega)⟩)); rw [HC.out]; rintro e w1 ⟨⟨_, _, rfl, ⟨A5, n5, c5, rfl, g5⟩, ⟨A6, n6, c6, rfl, g6⟩⟩, b⟩; go_must (have b9 := below_hop b (by go_grown : Below w.heap.size w _); (try (have h9 := hid (G1.out.below b9 b9.size); clear G1; have G1 := h9; clear h9)); (try (have h9 := hid (G2.out.below b9 b9.size); clear G2; have G2 := h9; clear h9)); (try (have h9 := hid (G3.out.below b9 b9.size); clear G3; have G3 := h9; clear h9)); (try (have h9 := hid (G4.out.below b9 b9.size); clear G4; have G4 := h9; clear h9)); (try (have h9 := hid (G5.out.below b9 b9.size); clear G5; have G5 := h9; clear h9)); (try (have h9 := hid (G6.out.below b9 b9.size); clear G6; have G6 := h9; clear h9)); (try (have h9 := hid (G7.out.below b9 b9.size); clear G7; have G7 := h9; clear h9)); (try (have h9 := hid (G8.out.below b9 b9.size); clear G8; have G8 := h9; clear h9)); (try (have h9 := hid (G9.out.below b9 b9.size); clear G9; have G9 := h9; clear h9)); (try (have h9 := hid (G10.out.below b9 b9.size); clear G10; have G10 := h9; clear h9)); (try (have h9 := hid (G11.out.below b9 b9.size); clear G11; have G11 := h9; clear h9)); (try (have h9 := hid (G12.out.below b9 b9.size); clear G12; have G12 := h9; clear h9)); (try (have h9 := hid (G13.out.below b9 b9.size); clear G13; have G13 := h9; clear h9)); (try (have h9 := hid (G14.out.below b9 b9.size); clear G14; have G14 := h9; clear h9)); (try (have h9 := hid (X1.out.below b9 X1.out.lt); clear X1; have X1 := h9; clear h9; clear x10 x11 x12 x13 x14 x15 x16 x17; obtain ⟨x10, x11, x12, x13, x14, x15, x16, x17⟩ := X1.out.cells4)); (try (have h9 := hid (X2.out.below b9 X2.out.lt); clear X2; have X2 := h9; clear h9; clear x20 x21 x22 x23 x24 x25 x26 x27; obtain ⟨x20, x21, x22, x23, x24, x25, x26, x27⟩ := X2.out.cells4)); (try (have h9 := hid (X3.out.below b9 X3.out.lt); clear X3; have X3 := h9; clear h9; clear x30 x31 x32 x33 x34 x35 x36 x37; obtain ⟨x30, x31, x32, x33, x34, x35, x36, x37⟩ := X3.out.cells4)); (try (have h9 := hid (X4.out.below b9 X4.out.lt); clear X4; have X4 := h9; clear h9; clear x40 x41 x42 x43 x44 x45 x46 x47; obtain ⟨x40, x41, x42, x43, x44, x45, x46, x47⟩ := X4.out.cells4)); (try (have h9 := hid (X5.out.below b9 X5.out.lt); clear X5; have X5 := h9; clear h9; clear x50 x51 x52 x53 x54 x55 x56 x57; obtain ⟨x50, x51, x52, x53, x54, x55, x56, x57⟩ := X5.out.cells4)); (try (have h9 := hid (X6.out.below b9 X6.out.lt); clear X6; have X6 := h9; clear h9; clear x60 x61 x62 x63 x64 x65 x66 x67; obtain ⟨x60, x61, x62, x63, x64, x65, x66, x67⟩ := X6.out.cells4)); (try (have h9 := hid (X7.out.below b9 X7.out.lt); clear X7; have X7 := h9; clear h9; clear x70 x71 x72 x73 x74 x75 x76 x77; obtain ⟨x70, x71, x72, x73, x74, x75, x76, x77⟩ := X7.out.cells4)); (have h9 := hid (HB.out.trans (b9.mono HB.out.size)); clear HB; have HB := h9; clear h9); clear b9; clear b))
    go_ret
    exact ⟨by rw [HL.out]; rfl, by have h9 := HB.out; have h8 := h9.size; go_grown⟩
  · have hc : collectP ⟨ws, room, base, top⟩ roots = (hpZ, [], 280) := if_neg hg
    have hL : liveP ⟨ws, room, base, top⟩ roots = 0 := if_neg hg
    have HC := hid hc
    have HL := hid hL
    clear hg hL hc hn6
    go_enter Try.func25, Try.ntmps25
    go_wp2_with (go_at_call 23; go_must (refine (ref28_Collect _ _ _ ⟨ws, room, base, top⟩ roots _ (Nat.le_refl _) ?_ ?_ HN.out).mono ?_; (exact (G1.out.below (by go_grown : Below w.heap.size w _) (by first | (simp; done) | (simp; omega) | omega)).isHp (h := ⟨ws, room, base, top⟩)); (exact ⟨_, _, _, rfl, G2.out.below (by go_grown : Below w.heap.size w _) (by first | (simp; done) | (simp; omega) | omega)⟩)); rw [HC.out]; rintro e w1 ⟨⟨_, _, rfl, ⟨A5, n5, c5, rfl, g5⟩, ⟨A6, n6, c6, rfl, g6⟩⟩, b⟩; go_must (have b9 := below_hop b (by go_grown : Below w.heap.size w _); (try (have h9 := hid (G1.out.below b9 b9.size); clear G1; have G1 := h9; clear h9)); (try (have h9 := hid (G2.out.below b9 b9.size); clear G2; have G2 := h9; clear h9)); (try (have h9 := hid (G3.out.below b9 b9.size); clear G3; have G3 := h9; clear h9)); (try (have h9 := hid (G4.out.below b9 b9.size); clear G4; have G4 := h9; clear h9)); (try (have h9 := hid (G5.out.below b9 b9.size); clear G5; have G5 := h9; clear h9)); (try (have h9 := hid (G6.out.below b9 b9.size); clear G6; have G6 := h9; clear h9)); (try (have h9 := hid (G7.out.below b9 b9.size); clear G7; have G7 := h9; clear h9)); (try (have h9 := hid (G8.out.below b9 b9.size); clear G8; have G8 := h9; clear h9)); (try (have h9 := hid (G9.out.below b9 b9.size); clear G9; have G9 := h9; clear h9)); (try (have h9 := hid (G10.out.below b9 b9.size); clear G10; have G10 := h9; clear h9)); (try (have h9 := hid (G11.out.below b9 b9.size); clear G11; have G11 := h9; clear h9)); (try (have h9 := hid (G12.out.below b9 b9.size); clear G12; have G12 := h9; clear h9)); (try (have h9 := hid (G13.out.below b9 b9.size); clear G13; have G13 := h9; clear h9)); (try (have h9 := hid (G14.out.below b9 b9.size); clear G14; have G14 := h9; clear h9)); (try (have h9 := hid (X1.out.below b9 X1.out.lt); clear X1; have X1 := h9; clear h9; clear x10 x11 x12 x13 x14 x15 x16 x17; obtain ⟨x10, x11, x12, x13, x14, x15, x16, x17⟩ := X1.out.cells4)); (try (have h9 := hid (X2.out.below b9 X2.out.lt); clear X2; have X2 := h9; clear h9; clear x20 x21 x22 x23 x24 x25 x26 x27; obtain ⟨x20, x21, x22, x23, x24, x25, x26, x27⟩ := X2.out.cells4)); (try (have h9 := hid (X3.out.below b9 X3.out.lt); clear X3; have X3 := h9; clear h9; clear x30 x31 x32 x33 x34 x35 x36 x37; obtain ⟨x30, x31, x32, x33, x34, x35, x36, x37⟩ := X3.out.cells4)); (try (have h9 := hid (X4.out.below b9 X4.out.lt); clear X4; have X4 := h9; clear h9; clear x40 x41 x42 x43 x44 x45 x46 x47; obtain ⟨x40, x41, x42, x43, x44, x45, x46, x47⟩ := X4.out.cells4)); (try (have h9 := hid (X5.out.below b9 X5.out.lt); clear X5; have X5 := h9; clear h9; clear x50 x51 x52 x53 x54 x55 x56 x57; obtain ⟨x50, x51, x52, x53, x54, x55, x56, x57⟩ := X5.out.cells4)); (try (have h9 := hid (X6.out.below b9 X6.out.lt); clear X6; have X6 := h9; clear h9; clear x60 x61 x62 x63 x64 x65 x66 x67; obtain ⟨x60, x61, x62, x63, x64, x65, x66, x67⟩ := X6.out.cells4)); (try (have h9 := hid (X7.out.below b9 X7.out.lt); clear X7; have X7 := h9; clear h9; clear x70 x71 x72 x73 x74 x75 x76 x77; obtain ⟨x70, x71, x72, x73, x74, x75, x76, x77⟩ := X7.out.cells4)); (have h9 := hid (HB.out.trans (b9.mono HB.out.size)); clear HB; have HB := h9; clear h9); clear b9; dsimp only [hpZ]; clear b))
    go_ret
    exact ⟨by rw [HL.out]; rfl, by have h9 := HB.out; have h8 := h9.size; go_grown⟩
end Go.Proofs.Ytikdflppccbdaaa
