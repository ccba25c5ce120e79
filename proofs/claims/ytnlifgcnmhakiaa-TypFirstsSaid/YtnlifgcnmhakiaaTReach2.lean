/-
  THE WALK OF typ.reaches$2.
-/
import Derived.Test.YtnlifgcnmhakiaaTReach
namespace Go.Proofs.Ytnlifgcnmhakiaa
open Go.ChangeShapes Go.WideShapes Go.ChangeAt Go.RowKit

theorem short_parts {k n : Int} {s : ByteArray} {us : List Ty} (h : Short (.mk k s n us)) : s.size ≤ maxLen ∧ ∀ t ∈ us, Short t := by rw [Short, shortL_iff] at h; exact h
theorem r_aux {a b N : Nat} (h : a + (1 + b) ≤ N + 1) : a ≤ N := by omega
theorem r_aux2 {a b c M : Nat} (h : a + (1 + b) + c ≤ M) : a + 1 + c ≤ M := by omega
theorem r_aux3 {a b n a' N : Nat} (h : a + (1 + b) ≤ N + 1) (h2 : n ≤ b) (h3 : a' ≤ a) : a' + n ≤ N := by omega
theorem r_aux4 {a b c a' c' M : Nat} (h : a + (1 + b) + c ≤ M) (h2 : a' + c' ≤ a + 1 + c) : a' + b + c' ≤ M := by omega
theorem r_aux5 {k k1 k2 b c c1 c2 : Nat} (h2 : k1 + c1 ≤ k + 1 + c) (h3 : k2 + c2 ≤ k1 + b + c1) : k2 + c2 ≤ k + (1 + b) + c := by omega
set_option maxHeartbeats 8000000 in
set_option maxRecDepth 100000 in
theorem in_node (ds : List Dc) (S : Nat → Prop) (B N : Nat) (ih : InC ds S B N) (rc : ReachC ds S B N) : InC ds S B (N + 1) := by
  intro t f k v lv gl gm gi w hN hn hsh hE hv hM hb
  obtain ⟨q, s, m, us⟩ := t
  obtain ⟨A, c, rfl, hc, hcm, _, hrow, _⟩ := hv.parts
  obtain ⟨hs1, hs2⟩ := short_parts hsh
  have hnd : nodes (.mk q s m us) = 1 + nodesL us := by rw [nodes]
  rw [hnd] at hN hn hb ⊢
  have hb0 : Below w.heap.size w (w.alloc (.cells #[.int .i64 q, .string s, .int .i64 m, .slice A us.length c] 34)) := (Below.refl _ _).alloc (Nat.le_refl _) _
  have hE0 := hE.up hb0
  have x0 := hE0.bl.cell 0
  have x1 := hE0.bm.cell 0
  have x2 := hE0.bi.cell 0
  have H := hid (And.intro hE0 (And.intro (hrow.up hb0) (And.intro (hM.below hb0) (And.intro hs1 hs2))))
  have HB := hid (And.intro hN (And.intro hn hb))
  have HM := hid (Nat.le_trans hc hcm)
  have X0 := hid (Blk.new w 34 #[.int .i64 q, .string s, .int .i64 m, .slice A us.length c])
  obtain ⟨AD, cD, hlv, _⟩ := hE.dcs
  have HBl := hid hM.map.lt
  have HI := hid ih
  have HR := hid rc
  clear hN hn hb hE hE0 hrow hM hs1 hs2 hsh hv hc hcm ih rc hnd hb0
  by_cases h3 : q = 3
  · subst h3
    clear x0 x1 x2
    go_enter Try.func80, Try.ntmps80
    go_wp2
    go_ret
    exact ⟨true, f, k, rfl, H.out.2.2.1, (Kept.refl _ _).alloc _, fun _ => .inl (by rw [hasFun]; exact .inl rfl), fun h => (by cases h)⟩
  have h3b : (q == 3) = false := by simpa using h3
  have H3 := hid h3
  clear h3
  by_cases h4 : q = 4
  case neg =>
    have h4b : (q == 4) = false := by simpa using h4
    have H4 := hid h4
    have C := hid (in_has ds S B N HI.out us f k A c lv gl gm gi _ (fun t ht => by have h1 := HB.out.1; have h2 := nodes_mem ht; omega) (by have := HB.out.2.1; omega) H.out.2.2.2.2 H.out.1 HM.out H.out.2.1 H.out.2.2.1 (by have := HB.out.2.2; omega))
    clear h4 x0 x1
    subst hlv
    go_enter Try.func80, Try.ntmps80
    go_wp2_with (go_at_call 61; go_must (refine C.out.mono ?_); rintro e w1 ⟨b, f1, k1, hans, g1, g2, g3, g4⟩; go_must (obtain rfl : e = .returned (.bool b) := hans; have G := hid (And.intro g1 (And.intro g2 (And.intro g3 g4))); clear g1 g2 g3 g4))
    all_goals
      go_ret
      refine ⟨b, f1, k1, by first | rfl | (unfold ansB; simp_all; done), G.out.1, G.out.2.1.hop ((Kept.refl _ _).alloc _), fun hb => ?_, fun hb => ?_⟩
      · obtain ⟨t, ht, h9⟩ := G.out.2.2.1 hb
        exact badT_arg ht h9
      · obtain ⟨j1, j2, j3⟩ := G.out.2.2.2 hb
        exact ⟨cleanT_mk H3.out j1 (fun e => absurd e H4.out), j2, by omega⟩
  subst h4
  have C1 := hid (HR.out s f k lv _ (r_aux HB.out.1) H.out.2.2.2.1 H.out.1.dcs H.out.1.nS H.out.2.2.1 (r_aux2 HB.out.2.2))
  subst hlv
  have C := hid (fun (w1 : World) (f1 : ByteArray → Int) (k1 : Nat) (hM1 : MS w1 B f1 k1) (hK1 : Kept (OnP B) (w.alloc (.cells #[.int .i64 4, .string s, .int .i64 m, .slice A us.length c] 34)) w1) (hS1 : Since ds (vis ds f) (vis ds f1)) (hb1 : k1 + MB * left_ (vis ds f1) ds.length ≤ k + 1 + MB * left_ (vis ds f) ds.length) =>
    in_has ds S B N HI.out us f1 k1 A c _ gl gm gi w1 (fun t ht => r_aux3 HB.out.1 (nodes_mem ht) (Nat.mul_le_mul_right 100000000 (left_mono hS1.sub ds.length))) (by have := HB.out.2.1; omega) H.out.2.2.2.2 (H.out.1.kept hK1) HM.out (H.out.2.1.kept hK1 (onp_not H.out.1.nS)) hM1 (r_aux4 HB.out.2.2 hb1))
  have Hgi := hid (And.intro H.out.1.bi (And.intro H.out.1.ni (show w.heap.size ≠ B from by have := HBl.out; omega)))
  go_enter Try.func80, Try.ntmps80
  go_wp2_with (first
    | (go_at_call 74; go_must (refine C1.out.mono ?_); rintro e w1 ⟨b, f1, k1, hans, g1, g2, g3, g4⟩; go_must (obtain rfl : e = .returned (.bool b) := hans; have G := hid (And.intro g1 (And.intro g2 (And.intro g3 g4))); clear g1 g2 g3 g4; have Y := hid (X0.out.kept G.out.2.1 Hgi.out.2.2); have y3 : w1.cell? ⟨w.heap.size, 3, none⟩ = some (.slice A us.length c) := Y.out.cell 3; have z2 := (Hgi.out.1.kept G.out.2.1 Hgi.out.2.1).cell 0))
    | (go_at_call 61; go_must (have hbf : b = false := (by first | assumption | (cases b <;> simp_all)); obtain ⟨j1, j2, j3⟩ := G.out.2.2.2 hbf; refine (C.out w1 f1 k1 G.out.1 G.out.2.1 j2 j3).mono ?_); rintro e w2 ⟨b2, f2, k2, hans, g1, g2, g3, g4⟩; go_must (obtain rfl : e = .returned (.bool b2) := hans; have G2 := hid (And.intro g1 (And.intro g2 (And.intro g3 g4))); clear g1 g2 g3 g4)))
  · go_ret
    have hbt : b = true := by first | assumption | (cases b <;> simp_all)
    exact ⟨true, f1, k1, rfl, G.out.1, G.out.2.1.hop ((Kept.refl _ _).alloc _), fun _ => badT_con (G.out.2.2.1 hbt), fun h => (by cases h)⟩
  · go_ret
    have hbf : b = false := by first | assumption | (cases b <;> simp_all)
    obtain ⟨j1, j2, j3⟩ := G.out.2.2.2 hbf
    refine ⟨b2, f2, k2, by first | rfl | (unfold ansB; simp_all; done), G2.out.1, (G2.out.2.1.hop G.out.2.1).hop ((Kept.refl _ _).alloc _), fun hb => ?_, fun hb => ?_⟩
    · obtain ⟨t, ht, h9⟩ := G2.out.2.2.1 hb
      exact badT_arg ht h9
    · obtain ⟨i1, i2, i3⟩ := G2.out.2.2.2 hb
      exact ⟨cleanT_mk H3.out i1 (fun _ hix => i2.sub _ (j1 hix)), j2.trans i2, r_aux5 j3 i3⟩
end Go.Proofs.Ytnlifgcnmhakiaa
