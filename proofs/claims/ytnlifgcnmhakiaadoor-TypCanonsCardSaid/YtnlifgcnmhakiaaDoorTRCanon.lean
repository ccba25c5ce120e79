/-
  THE WALK OF athanorref15.Canon.
-/
import Derived.Test.YtnlifgcnmhakiaaDoorTRCan
namespace Go.Proofs.YtnlifgcnmhakiaaDoor
open Go.ChangeShapes Go.WideShapes Go.ChangeAt Go.RowKit

theorem rns_new (w : World) : RNs (w.alloc (.cells #[.slice none 0 0, .slice none 0 0, .slice none 0 0, .slice none 0 0] 58)) w.heap.size [] (.slice none 0 0) (.slice none 0 0) (.slice none 0 0) (.slice none 0 0) :=
  ⟨Blk.new _ _ _, ⟨World.ownsRow_nil _ _ _ _, World.ownsRow_nil _ _ _ _, World.ownsRow_nil _ _ _ _, World.ownsRow_nil _ _ _ _, fun g e => by simp [Value.ownBlock] at e, fun g e => by simp [Value.ownBlock] at e⟩⟩
theorem own4_none {b : Nat} : ¬ own4 (.slice none 0 0) (.slice none 0 0) (.slice none 0 0) (.slice none 0 0) b := by simp [own4, Value.ownBlock]
theorem cr_lo2 {w1 w2 : World} {o : Obj} (hk : Kept (fun b => b = w1.heap.size ∨ own4 (.slice none 0 0) (.slice none 0 0) (.slice none 0 0) (.slice none 0 0) b) (w1.alloc o) w2) : Below w1.heap.size w1 w2 :=
  (al1' w1 o).trans (hk.below (by simp) (fun b hb => hb.elim (fun e => by omega) (fun e => (own4_none e).elim)))
theorem cr_ne {b n : Nat} (h : b < n) : ¬ (b = n ∨ own4 (.slice none 0 0) (.slice none 0 0) (.slice none 0 0) (.slice none 0 0) b) := fun e => e.elim (fun e => by omega) (fun e => own4_none e)
set_option maxHeartbeats 4000000 in
set_option maxRecDepth 100000 in
theorem ref15_Canon (t : Ty) (v : Value) (S : Nat → Prop) (w : World) (hS : ∀ b, S b → b < w.heap.size) (hv : TAt w S t v) : Calls Tryd.prog 9 #[v] w (CanonP t w) := by
  have HV := hid hv
  obtain ⟨q, s, k, A, m, c, rfl⟩ := hv.agg
  have HS := hid hS
  clear hv hS
  obtain ⟨n, hn⟩ : ∃ n, n = sizeT t := ⟨_, rfl⟩
  have HNN := hid hn
  clear hn
  by_cases h9 : n ≤ 1024
  · have HNO := hid (show nodes t ≤ 1024 by have := HNN.out; unfold sizeT at this; omega)
    go_enter Tryd.func9, Tryd.ntmps9
    go_wp2_with (first
      | (go_at_call 26; go_must (refine (ref15_Size t _ S _ (HV.out.up (by go_grown : Below w.heap.size w _))).mono ?_); rw [← HNN.out]; rintro e w1 ⟨rfl, b1⟩; go_must (have BT := hid (ca_b1 b1); have BR := hid (ca_b2 b1); have bw := hid (ca_b3 b1); have x0 := fun o => (BT.out.alloc o).four.1; have x1 := fun o => (BT.out.alloc o).four.2.1; have x2 := fun o => (BT.out.alloc o).four.2.2.1; have x3 := fun o => (BT.out.alloc o).four.2.2.2.1; have hsz := bw.out.size; clear b1))
      | (go_at_call 27; go_must (refine (ref_canon w1.heap.size _ t [] _ _ _ _ _ _ (Nat.le_refl _) ((HV.out.up (below_hop (al1' w1 _) bw.out)).mono (fun b hb _ => by have := HS.out b hb; omega)) (rns_new w1) (by have := HNO.out; simp; omega)).mono ?_); rintro e w2 ⟨vr, es', u1, u2, u3, u4, rfl, hv, hn, hk1, ht⟩; go_must (obtain ⟨q9, s9, n9, A9, m9, c9, rfl⟩ := hv.agg; have BR2 := (BR.out.alloc _).kept ht.kept (fun e => cr_ne (by have := BR.out.lt; omega) e); have OUT : Hid (Blk (w2) (w.heap.size + 1) 24 #[.int .i64 0, .string ⟨#[]⟩, .int .i64 0, .slice none 0 0]) := hid (BR2); have o0 : (w2).cell? ⟨w.heap.size + 1, 0, none⟩ = some (.int .i64 0) := OUT.out.cell 0; have o1 : (w2).cell? ⟨w.heap.size + 1, 1, none⟩ = some (.string ⟨#[]⟩) := OUT.out.cell 1; have o2 : (w2).cell? ⟨w.heap.size + 1, 2, none⟩ = some (.int .i64 0) := OUT.out.cell 2; have o3 : (w2).cell? ⟨w.heap.size + 1, 3, none⟩ = some (.slice none 0 0) := OUT.out.cell 3; have g0 := OUT.out.frozen 0; have g1 := OUT.out.frozen 1; have g2 := OUT.out.frozen 2; have g3 := OUT.out.frozen 3; have HK := hid (And.intro hv (And.intro ht.kept bw.out)); clear hv hn ht BR2)))
    have e1 : canonF t = ((canF [] t).2, 0) := by unfold canonF; rw [if_pos HNO.out]
    have hk := HK.out
    have hsz := hk.2.2.size
    have hb2 : Below w.heap.size w w2 := hk.2.2.trans ((cr_lo2 hk.2.1).mono hsz)
    refine ret_type2 rfl (by rfl) (by rfl) (set4_blk OUT.out) rfl ⟨⟨_, by rw [e1]; rfl, ?_⟩, set4_below hb2 (by omega)⟩
    rw [e1]
    exact hk.1.keep (fun b hb hl => ⟨set4_other (by have := hb.1; simp at this; have := BR.out.lt; omega), by have := hb.1; simp at this; omega⟩)
  · have HNO := hid (show ¬ nodes t ≤ 1024 by have := HNN.out; unfold sizeT at this; omega)
    go_enter Tryd.func9, Tryd.ntmps9
    go_wp2_with (go_at_call 26; go_must (refine (ref15_Size t _ S _ (HV.out.up (by go_grown : Below w.heap.size w _))).mono ?_); rw [← HNN.out]; rintro e w1 ⟨rfl, b1⟩; go_must (have BR := ca_b2 b1; have bw := hid (ca_b3 b1); have OUT : Hid (Blk (w1) (w.heap.size + 1) 24 #[.int .i64 0, .string ⟨#[]⟩, .int .i64 0, .slice none 0 0]) := hid (BR); have o0 : (w1).cell? ⟨w.heap.size + 1, 0, none⟩ = some (.int .i64 0) := OUT.out.cell 0; have o1 : (w1).cell? ⟨w.heap.size + 1, 1, none⟩ = some (.string ⟨#[]⟩) := OUT.out.cell 1; have o2 : (w1).cell? ⟨w.heap.size + 1, 2, none⟩ = some (.int .i64 0) := OUT.out.cell 2; have o3 : (w1).cell? ⟨w.heap.size + 1, 3, none⟩ = some (.slice none 0 0) := OUT.out.cell 3; have g0 := OUT.out.frozen 0; have g1 := OUT.out.frozen 1; have g2 := OUT.out.frozen 2; have g3 := OUT.out.frozen 3; clear b1 BR))
    have e1 : canonF t = (zeroT, 3) := by unfold canonF; rw [if_neg HNO.out]
    exact ret_type2 rfl (by rfl) (by rfl) (set4_blk OUT.out) rfl ⟨⟨_, by rw [e1]; rfl, by rw [e1]; exact zero_at _ _⟩, set4_below bw.out (by omega)⟩
end Go.Proofs.YtnlifgcnmhakiaaDoor
