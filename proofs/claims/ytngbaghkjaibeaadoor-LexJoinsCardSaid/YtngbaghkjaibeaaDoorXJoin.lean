/-
  LexJoins, WHERE BOTH TEXTS HAVE TOKENS.
-/
import Derived.Test.YtngbaghkjaibeaaDoorXAppK
import Derived.Deep.LoopGhost
namespace Go.Proofs.YtngbaghkjaibeaaDoor.lexJoins
set_option linter.all false
open Go.ChangeShapes Go.WideShapes Go.ChangeAt Go.RowKit Go.ChangeMaps

theorem same_all (all : List Lx.Tok) (n m : Nat) (A1 A2 : Option Addr) (c1 c2 : Nat) (w : World) (h1 : RdT w A1 all) (h2 : RdT w A2 all) (hl : all.length = m) (hm : m ≤ 100000) : Calls Tryd.prog 12 #[.slice A1 m c1, .slice A2 m c2, .bool true] w fun e w' => e = .returned (.bool true) ∧ Below w.heap.size w w' := by
  subst hl
  exact rf_Same all all A1 A2 c1 c2 true w h1 h2 rfl hm (fun i _ _ => ⟨same_self _, fun _ => rfl⟩)
theorem keep_grown {w w5 : World} {o1 o2 : Obj} {v : Value} (hg : ((w.alloc o1).alloc o2).grownBy w5 v.ownBlock) {g : Nat} (h1 : g < w.heap.size) (h2 : v.ownBlock ≠ some g) : w5.heap[g]? = w.heap[g]? := (hg.block g (by simp; omega) (fun e => h2 e.symm)).trans (((alB w o1).alloc (by simp) o2).block g h1)
theorem take_map {k : List Lx.Tok} {j : Nat} (h : j < k.length) (d : Nat) : (k.take (j + 1)).map (Lx.Tok.move d) = (k.take j).map (Lx.Tok.move d) ++ [Lx.Tok.move d k[j]] := by rw [List.take_succ_eq_append_getElem h, List.map_append]; rfl
set_option maxHeartbeats 8000000 in
set_option maxRecDepth 100000 in
theorem walk_both (w : World) (s t all : ByteArray) (l k : List Lx.Tok) (hl : s.size + t.size ≤ 4000) (hall2 : s ++ ⟨#[10]⟩ ++ t = all) (hz1 : ¬ 9223372036854775807 < s.size + (⟨#[10]⟩ : ByteArray).size) (hz2 : ¬ 9223372036854775807 < (s ++ ⟨#[10]⟩ : ByteArray).size + t.size)
    (hr : Lx.lexT s.data.toList = .ok l) (hr2 : Lx.lexT t.data.toList = .ok k) (hj2 : Lx.lexT all.data.toList = .ok (l ++ k.map (Lx.Tok.move (s.size + 1)))) (hE : ErrVars w) :
    Calls Tryd.prog 5 #[.string s, .string t] w fun e w' => e = .returned (.bool true) ∧ Below w.heap.size w w' := by
        have HE := hid hE
        clear hE
        have hl2 : ¬ (4000 : Int) < (s.size : Int) + t.size := by omega
        have hs2 : (s.size : Int) ≤ 4000 := by omega
        have ht2 : (t.size : Int) ≤ 4000 := by omega
        have HS := hid hr
        have HT := hid hr2
        have HLL := hid (show l.length ≤ 4000 from Nat.le_trans (count_le hr) (by rw [size_list]; omega))
        have HPS := hid (ok_pos hr2 (by rw [size_list]; omega))
        have HJ := hid hj2
        have HKL := hid (show k.length ≤ 4000 from Nat.le_trans (count_le hr2) (by rw [size_list]; omega))
        clear hj2 hr hr2
        go_enter Tryd.func5, Tryd.ntmps5
        go_wp2_with (first
          | (go_at_call 10; first
            | (((with_reducible refine (lex_Lex s _ HE.out).mono ?_); rw [HS.out]; rintro e w1 ⟨b, v, rfl, hr⟩; obtain ⟨A1, c1, rfl⟩ := rowT_slice hr); have B1 := hid b; have R1 := hid hr; have HO1 := hid (fun g e => (hr.lt g e).2 : ∀ g, (Value.slice A1 l.length c1).ownBlock = some g → g < w1.heap.size); clear b hr)
            | (((with_reducible refine (lex_Lex t _ (HE.out.up B1.out)).mono ?_); rw [HT.out]; rintro e w2 ⟨b, v, rfl, hr⟩; obtain ⟨A2, c2, rfl⟩ := rowT_slice hr); have B2 := hid (below_hop b B1.out); have R2 := hid hr; have R12 := hid (R1.out.up b); have HZ12 := hid b.size; clear b hr)
            | (((with_reducible refine (lex_Lex all _ (HE.out.up B2.out)).mono ?_); rw [HJ.out]; rintro e w3 ⟨b, v, rfl, hr⟩; obtain ⟨A3, c3, rfl⟩ := rowT_slice hr); have B3 := hid (below_hop b B2.out); have R3 := hid hr; have R13 := hid (R12.out.up b); have R23 := hid (R2.out.up b); have HZ := hid (And.intro HZ12.out b.size); clear b hr)))
        have hkl := HKL.out
        have hll := HLL.out
        have HD2 := hid (fun g e => R23.out.lt g e : ∀ g, (Value.slice A2 k.length c2).ownBlock = some g → w1.heap.size ≤ g ∧ g < w3.heap.size)
        have HD3 := hid (fun g e => (⟨Nat.le_trans HZ.out.1 (R3.out.lt g e).1, (R3.out.lt g e).2⟩ : w1.heap.size ≤ g ∧ g < w3.heap.size) : ∀ g, (Value.slice A3 (l ++ k.map (Lx.Tok.move (s.size + 1))).length c3).ownBlock = some g → w1.heap.size ≤ g ∧ g < w3.heap.size)
        go_loopg [5, 14] k.length (fun g lv x wr => ∃ (j : Nat) (A : Option Addr) (c : Nat), j + g = k.length ∧ x = .int .i64 j ∧ lv = .slice A (l.length + j) c ∧ Hid (TRowT wr w.heap.size (.slice A (l.length + j) c) (l ++ (k.take j).map (Lx.Tok.move (s.size + 1)))) ∧ Hid (∀ g, (Value.slice A (l.length + j) c).ownBlock = some g → g < w1.heap.size ∨ w3.heap.size ≤ g) ∧ Hid (Below w.heap.size w wr ∧ w3.heap.size ≤ wr.heap.size) ∧ Hid (TRowT wr w1.heap.size (.slice A2 k.length c2) k) ∧ Hid (TRowT wr w2.heap.size (.slice A3 (l ++ k.map (Lx.Tok.move (s.size + 1))).length c3) (l ++ k.map (Lx.Tok.move (s.size + 1)))))
        case atStart => exact ⟨0, A1, c1, by omega, rfl, rfl, hid (by simpa using R13.out), hid (fun g e => .inl (HO1.out g e)), hid ⟨B3.out, Nat.le_refl _⟩, R23, R3⟩
        case round =>
          obtain ⟨j, A, c, hj, rfl, rfl, hrow, hown, hB, hR2, hR3⟩ := hrel
          have HJ := hid hj
          by_cases hlt : j < k.length
          · have hlt' : (j : Int) < k.length := by omega
            clear hj
            obtain ⟨a2, rfl, p0, y0, y1, y2, y3⟩ := hR2.out.rd j hlt
            obtain ⟨tk, htk⟩ : ∃ tk, tk = k[j] := ⟨_, rfl⟩
            rw [← htk] at y0 y1 y2 y3
            have HTK := hid htk
            obtain ⟨kd, tx, n, ps⟩ := tk
            dsimp only at y0 y1 y2 y3
            obtain ⟨tb, htb⟩ : ∃ tb : ByteArray, tb = ⟨tx.toArray⟩ := ⟨_, rfl⟩
            rw [← htb] at y1
            have HTB := hid htb
            obtain ⟨np, hnp⟩ : ∃ np : Int, np = ps + (s.size + 1 : Nat) := ⟨_, rfl⟩
            have HNP := hid hnp
            have hps := HPS.out j hlt
            rw [← htk] at hps
            have hps1 : 0 ≤ ps := hps.1
            have hps2 : ps ≤ 4000 := by have := hps.2; rw [size_list] at this; dsimp only at this; omega
            clear htk htb hnp hps
            go_wp2_with (at_builtin; go_must (refine wpList_appK (by rfl) _ _ (by rfl) w.heap.size (by rfl) (n := l.length + j) (World.ownsRow.alloc (World.ownsRow.alloc (show wr.ownsRow w.heap.size 32 4 (.slice A (l.length + j) c) (l.length + j) (tcells (l ++ (k.take j).map (Lx.Tok.move (s.size + 1)))) from by have h := hrow.out; unfold TRowT at h; rw [show (l ++ (k.take j).map (Lx.Tok.move (s.size + 1))).length = l.length + j by simp; omega] at h; exact h) _) _) (by rfl) (by rfl) (cells_lit (wr.alloc _) (by simp) _ _ _ _ _) (by simp [Value.oneCell']) (by omega) (by have := hB.out.1.size; simp; omega) ?_); intro v1 w5 hr5 hg5 hn5; have HO := hid hr5; have HG := hid hg5; have HNW := hid hn5; clear hr5 hg5 hn5)
            have hlj : (l ++ (k.take j).map (Lx.Tok.move (s.size + 1))).length = l.length + j := by simp; omega
            have hn1 : TRowT w5 w.heap.size v1 ((l ++ (k.take j).map (Lx.Tok.move (s.size + 1))) ++ [Lx.Tok.move (s.size + 1) k[j]]) :=
              TRowT.snoc (by rw [hlj]; exact HO.out) (by rw [← HTK.out, HTB.out]; simp only [tokC, Lx.Tok.move]; rfl)
            rw [List.append_assoc, ← take_map hlt] at hn1
            obtain ⟨A', c', hv1⟩ := rowT_slice hn1
            rw [show (l ++ (k.take (j + 1)).map (Lx.Tok.move (s.size + 1))).length = l.length + (j + 1) by simp; omega] at hv1
            subst hv1
            have hX : w3.heap.size ≤ wr.heap.size := hB.out.2
            have hb2 := below_grown ((hB.out.1.alloc (hB.out.1.size) _).alloc (by have := hB.out.1.size; simp; omega) _) HG.out (by have := hB.out.1.size; simp; omega) (World.ownsRow.alloc (World.ownsRow.alloc hrow.out _) _)
            have hz5 : wr.heap.size ≤ w5.heap.size := by have := HG.out.size; simp at this; omega
            have hk2 := hR2.out.keep (fun g e => keep_grown HG.out (hR2.out.lt g e).2 (fun e9 => by have h1 := hown.out g e9; have h2 := HD2.out g e; omega))
            have hk3 := hR3.out.keep (fun g e => keep_grown HG.out (hR3.out.lt g e).2 (fun e9 => by have h1 := hown.out g e9; have h2 := HD3.out g e; omega))
            have ho5 : ∀ g, (Value.slice A' (l.length + (j + 1)) c').ownBlock = some g → g < w1.heap.size ∨ w3.heap.size ≤ g := fun g e => (HNW.out g e).elim (hown.out g) (fun h => .inr (by simp at h; omega))
            have hjg := HJ.out
            go_roundg (gk - 1)
            case rel => exact ⟨j + 1, A', c', by omega, by go_num, rfl, hid hn1, hid ho5, hid ⟨hb2, Nat.le_trans hX hz5⟩, hid hk2, hid hk3⟩
            case measure => omega
          · obtain rfl : j = k.length := by omega
            clear hj
            have R5 := hid (show TRowT wr w.heap.size (.slice A (l.length + k.length) c) (l ++ k.map (Lx.Tok.move (s.size + 1))) by have h := hrow.out; rw [List.take_length] at h; exact h)
            have hlen : (l ++ k.map (Lx.Tok.move (s.size + 1))).length = l.length + k.length := by simp
            have HLN := hid hlen
            go_wp2_with (first
              | (go_at_call 12; go_must (with_reducible refine (same_all _ 0 _ _ _ _ _ _ hR3.out.rd R5.out.rd HLN.out (by omega)).mono ?_); rintro e w4 ⟨rfl, b⟩; have B4 := hid (below_hop b hB.out.1); clear b)
              | (go_at_call 9; (with_reducible refine (law_wakes _ (HE.out.up B4.out)).mono ?_); rintro e w9 ⟨rfl, b⟩; have B9 := hid (below_hop b B4.out); clear b))
            go_ret
            exact ⟨rfl, B9.out⟩
end Go.Proofs.YtngbaghkjaibeaaDoor.lexJoins
