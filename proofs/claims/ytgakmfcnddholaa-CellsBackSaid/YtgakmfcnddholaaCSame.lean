/-
  THE WALK OF athanorref19.SameVals: two rows that read as the same trees are the same.
-/
import Derived.Test.YtgakmfcnddholaaCCopy
import Derived.Deep.RegionHeld3
namespace Go.Proofs.Ytgakmfcnddholaa
open Go.ChangeShapes Go.WideShapes Go.ChangeAt Go.RowKit

set_option maxHeartbeats 8000000 in
set_option maxRecDepth 100000 in
theorem same_vals : ∀ (N : Nat) (us : List Tr), nodesL us < N → ∀ (B : Nat) (A1 A2 : Option Addr) (c1 c2 : Nat) (w : World), B ≤ w.heap.size → RowV w B us A1 0 → RowV w B us A2 0 → us.length ≤ c1 → c1 ≤ maxLen → us.length ≤ c2 →
    Calls Try.prog 18 #[.slice A1 us.length c1, .slice A2 us.length c2] w fun e w' => e = .returned (.bool true) ∧ Below w.heap.size w w' := by
  intro N
  induction N with
  | zero => intro us h; omega
  | succ N ih =>
  intro us hN B A1 A2 c1 c2 w hB r1 r2 hc1 hcm hc2
  have hL : us.length ≤ 9223372036854775807 := by unfold maxLen at hcm; omega
  have H := hid (And.intro hN (And.intro hB (And.intro r1 (And.intro r2 (And.intro ih hcm)))))
  clear hN hB r1 r2 ih hcm
  go_enter Try.func18, Try.ntmps18
  go_wp2
  go_loopg [5] us.length (fun g x wr => ∃ i : Nat, i + g = us.length ∧ x = .int .i64 i ∧ Hid (Below w.heap.size w wr))
  case atStart => exact ⟨0, by omega, rfl, hid (Below.refl _ _)⟩
  case round =>
    obtain ⟨i, hi, rfl, hb⟩ := hrel
    have Hi := hid hi
    by_cases hlt : i < us.length
    · have hlt' : (i : Int) < us.length := by omega
      obtain ⟨a1, u0, u1, u2, rfl, p0, p1, p2, p3, p4⟩ := H.out.2.2.1.get hlt
      obtain ⟨a2, v0, v1, v2, rfl, o0, o1, o2, o3, o4⟩ := H.out.2.2.2.1.get hlt
      have e := fun (a : Addr) (ha : a.block < B) => (hb.out.mono H.out.2.1).cell (p := a) ha
      rw [Nat.zero_add] at p1 p2 p3 o1 o2 o3
      have eb1 := add_block a1 (i * 3)
      have eb2 := add_block a2 (i * 3)
      have p4' := (p4.keep (w' := wr) (fun j hj => hb.out.block j (Nat.lt_of_lt_of_le hj H.out.2.1)))
      have o4' := (o4.keep (w' := wr) (fun j hj => hb.out.block j (Nat.lt_of_lt_of_le hj H.out.2.1)))
      have ht : nodes us[i] < N + 1 := Nat.lt_of_le_of_lt (nodes_mem (List.getElem_mem hlt)) H.out.1
      generalize us[i] = t at p4 o4 p4' o4' ht
      obtain ⟨b', n', ks⟩ := t
      obtain ⟨A3, c3, e3, k1, k2, _, k3, _⟩ := p4'.parts
      obtain ⟨A4, c4, e4, l1, l2, _, l3, _⟩ := o4'.parts
      simp only [Value.agg.injEq, Array.mk.injEq, List.cons.injEq, and_true] at e3 e4
      obtain ⟨rfl, rfl, rfl⟩ := e3
      obtain ⟨rfl, rfl, rfl⟩ := e4
      have y0 := (e _ (by rw [eb1]; exact p0)).trans p1
      have y1 := (e _ (by dsimp only; rw [eb1]; exact p0)).trans p2
      have y2 := (e _ (by dsimp only; rw [eb1]; exact p0)).trans p3
      have z0 := (e _ (by rw [eb2]; exact o0)).trans o1
      have z1 := (e _ (by dsimp only; rw [eb2]; exact o0)).trans o2
      have z2 := (e _ (by dsimp only; rw [eb2]; exact o0)).trans o3
      have hB1 := Nat.le_trans H.out.2.1 hb.out.size
      rw [nodes] at ht
      have Q := hid (And.intro k1 (And.intro k2 (And.intro k3 (And.intro l1 (And.intro l3 (And.intro ht (And.intro p0 (And.intro o0 hB1))))))))
      have hk1 : (a1.add (i * 3)).block < wr.heap.size := by omega
      have hk2 : (a2.add (i * 3)).block < wr.heap.size := by omega
      clear hi e p1 p2 p3 p4 o1 o2 o3 o4 p4' o4' k1 k2 k3 l1 l2 l3 ht p0 o0 hB1 eb1 eb2
      go_wp2
      go_region_held3 (fun w' => w'.cell? (a1.add (i * 3)) = some (.bool b') ∧ w'.cell? ⟨(a1.add (i * 3)).block, (a1.add (i * 3)).off + 1, none⟩ = some (.int .i64 n') ∧ w'.cell? ⟨(a1.add (i * 3)).block, (a1.add (i * 3)).off + 2, none⟩ = some (.slice A3 ks.length c3) ∧ w'.cell? (a2.add (i * 3)) = some (.bool b') ∧ w'.cell? ⟨(a2.add (i * 3)).block, (a2.add (i * 3)).off + 1, none⟩ = some (.int .i64 n') ∧ w'.cell? ⟨(a2.add (i * 3)).block, (a2.add (i * 3)).off + 2, none⟩ = some (.slice A4 ks.length c4)) (first | exact ⟨y0, y1, y2, z0, z1, z2⟩ | exact ⟨t0, t1, t2, t3, t4, t5⟩ | go_keep)
        ((go_at_call 18; refine (H.out.2.2.2.2.1 ks (by have := Q.out.2.2.2.2.2.1; omega) B A3 A4 c3 c4 wr.drew Q.out.2.2.2.2.2.2.2.2 (RowV.keep (w := wr) (w' := wr.drew) (fun _ _ => rfl) _ _ _ Q.out.2.2.1) (RowV.keep (w := wr) (w' := wr.drew) (fun _ _ => rfl) _ _ _ Q.out.2.2.2.2.1) Q.out.1 Q.out.2.1 Q.out.2.2.2.1).mono ?_; rintro e w1 ⟨rfl, b1⟩; have t0 := (b1.cell (p := a1.add (i * 3)) hk1).trans y0; have t1 := (b1.cell (p := ⟨(a1.add (i * 3)).block, (a1.add (i * 3)).off + 1, none⟩) hk1).trans y1; have t2 := (b1.cell (p := ⟨(a1.add (i * 3)).block, (a1.add (i * 3)).off + 2, none⟩) hk1).trans y2; have t3 := (b1.cell (p := a2.add (i * 3)) hk2).trans z0; have t4 := (b1.cell (p := ⟨(a2.add (i * 3)).block, (a2.add (i * 3)).off + 1, none⟩) hk2).trans z1; have t5 := (b1.cell (p := ⟨(a2.add (i * 3)).block, (a2.add (i * 3)).off + 2, none⟩) hk2).trans z2))
      go_wp2
      have hgk := Hi.out
      go_roundg (gk - 1)
      case rel => exact ⟨i + 1, by omega, rfl, hid (below_hop b1 (Below.drew hb.out))⟩
      case measure => omega
    · clear hi
      go_wp2
      go_ret
      exact ⟨rfl, hb.out⟩
end Go.Proofs.Ytgakmfcnddholaa
