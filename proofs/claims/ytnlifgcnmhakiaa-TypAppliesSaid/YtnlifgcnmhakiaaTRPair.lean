/-
  THE WALK OF athanorref15.pair: two types are made the same.
-/
import Derived.Test.YtnlifgcnmhakiaaTRMet
import Derived.Test.YtnlifgcnmhakiaaTUnify
import Derived.Test.YtnlifgcnmhakiaaTSameP
import Derived.Deep.RegionLaw
import Derived.Deep.RegionHeld3
import Derived.Deep.DeepCutAuto
import Derived.BigQuiet
namespace Go.Proofs.Ytnlifgcnmhakiaa
open Go.ChangeShapes Go.WideShapes Go.ChangeAt Go.RowKit

/-- What pair tells. -/
def RPairP (S : Nat → Prop) (p pv c : Nat) (r : Int × Sg × Nat) (w : World) (e : Ending) (w' : World) : Prop :=
  e = .returned (.int .i64 r.1) ∧ (∃ cur np, Rb S w' p pv c np r.2.1 cur ∧ (r.1 = 0 → np = 65536 - (r.2.2 : Int))) ∧ Kept (fun b => b = pv ∨ b = p) w w'
def RPairC (S : Nat → Prop) (p pv c k : Nat) : Prop := ∀ (σ : Sg) (cur : Array Value) (a b : Ty) (va vb : Value) (l : Nat) (np : Int) (w : World), np = 65536 - (l : Int) → l < k → l ≤ 65536 → Rb S w p pv c np σ cur → Ok σ → goodT σ.length a = true → goodT σ.length b = true → TAt w S a va → TAt w S b vb → (∀ b, w.heap.size ≤ b → S b) →
  Calls Try.prog 37 #[.pointer (some ⟨p, 0, none⟩), va, vb] w (RPairP S p pv c (pairF k σ a b l) w)
/-- What stands behind the two head calls. -/
structure RM (S : Nat → Prop) (p pv c : Nat) (np : Int) (σ : Sg) (cur : Array Value) (a b : Ty) (w wx : World) (v0 v1 v2 v3 u0 u1 u2 u3 : Value) : Prop where
  ba : Blk wx w.heap.size 34 #[v0, v1, v2, v3]
  bb : Blk wx (w.heap.size + 1) 34 #[u0, u1, u2, u3]
  ta : TAt wx (fun b => S b ∧ b < w.heap.size) a (.agg #[v0, v1, v2, v3])
  tb : TAt wx (fun b => S b ∧ b < w.heap.size) b (.agg #[u0, u1, u2, u3])
  tab : Rb (fun b => S b ∧ b < w.heap.size) wx p pv c np σ cur
  kp : Kept (fun b => b = p) w wx
section
variable {S : Nat → Prop} {p pv c : Nat} {np : Int} {σ : Sg} {cur : Array Value} {a b : Ty} {w wx wy : World} {v0 v1 v2 v3 u0 u1 u2 u3 : Value}
theorem RM.up (h : RM S p pv c np σ cur a b w wx v0 v1 v2 v3 u0 u1 u2 u3) (hb : Below wx.heap.size wx wy) : RM S p pv c np σ cur a b w wy v0 v1 v2 v3 u0 u1 u2 u3 :=
  ⟨h.ba.below hb h.ba.lt, h.bb.below hb h.bb.lt, h.ta.up hb, h.tb.up hb, h.tab.up hb, Kept.after hb h.kp⟩
theorem RM.drew (h : RM S p pv c np σ cur a b w wx v0 v1 v2 v3 u0 u1 u2 u3) : RM S p pv c np σ cur a b w wx.drew v0 v1 v2 v3 u0 u1 u2 u3 := h.up ((Below.refl _ _).drew)
theorem RM.done {a' b' : Ty} {x0 x1 x2 x3 y0 y1 y2 y3 : Value} {T1 T2 : Nat → Prop} (h : RM S p pv c np σ cur a b w wx v0 v1 v2 v3 u0 u1 u2 u3) (hp : p < w.heap.size) (hpv : pv < w.heap.size)
    (ha : TAt wx (fun b => (S b ∧ b < w.heap.size) ∧ T1 b) a' (.agg #[x0, x1, x2, x3])) (hb : TAt wx (fun b => (S b ∧ b < w.heap.size) ∧ T2 b) b' (.agg #[y0, y1, y2, y3])) :
    RM S p pv c np σ cur a' b' w ((((((((wx.setCell ⟨w.heap.size, 0, none⟩ x0).setCell ⟨w.heap.size, 1, none⟩ x1).setCell ⟨w.heap.size, 2, none⟩ x2).setCell ⟨w.heap.size, 3, none⟩ x3).setCell ⟨w.heap.size + 1, 0, none⟩ y0).setCell ⟨w.heap.size + 1, 1, none⟩ y1).setCell ⟨w.heap.size + 1, 2, none⟩ y2).setCell ⟨w.heap.size + 1, 3, none⟩ y3) x0 x1 x2 x3 y0 y1 y2 y3 := by
  have key : ∀ k, k < w.heap.size → ((((((((wx.setCell ⟨w.heap.size, 0, none⟩ x0).setCell ⟨w.heap.size, 1, none⟩ x1).setCell ⟨w.heap.size, 2, none⟩ x2).setCell ⟨w.heap.size, 3, none⟩ x3).setCell ⟨w.heap.size + 1, 0, none⟩ y0).setCell ⟨w.heap.size + 1, 1, none⟩ y1).setCell ⟨w.heap.size + 1, 2, none⟩ y2).setCell ⟨w.heap.size + 1, 3, none⟩ y3).heap[k]? = wx.heap[k]? :=
    fun k hk => (set4_other (by omega)).trans (set4_other (by omega))
  refine ⟨(set4_other (by omega)).trans (set4_blk h.ba), set4_blk ((set4_other (by omega)).trans h.bb), ha.keep (fun k hk _ => ⟨key k hk.1.2, hk.1⟩), hb.keep (fun k hk _ => ⟨key k hk.1.2, hk.1⟩),
    h.tab.keep (fun k _ hk => key k (by rcases hk with hk | rfl | rfl; exact hk.2; exact hp; exact hpv)), (h.kp.set4 (Nat.le_refl _)).set4 (by omega)⟩
theorem RM.wide (h : RM S p pv c np σ cur a b w wx v0 v1 v2 v3 u0 u1 u2 u3) (hS1 : ¬ S p) (hS2 : ¬ S pv) : Rb S wx p pv c np σ cur := h.tab.widen (fun _ hk _ => hk.1) hS1 hS2
theorem RM.ret (h : RM S p pv c np σ cur a b w wx v0 v1 v2 v3 u0 u1 u2 u3) (hS1 : ¬ S p) (hS2 : ¬ S pv) (l : Nat) (hl : np = 65536 - (l : Int)) (r : Int) : RPairP S p pv c (r, σ, l) w (.returned (.int .i64 r)) wx :=
  ⟨rfl, ⟨cur, np, h.wide hS1 hS2, fun _ => hl⟩, h.kp.mono (fun _ _ e => .inr e)⟩
end
theorem Kept.set4q {S : Nat → Prop} {A w : World} (h : Kept S A w) {g o : Nat} {v0 v1 v2 v3 : Value} (hg : S g ∨ A.heap.size ≤ g) : Kept S A ((((w.setCell ⟨g, o, none⟩ v0).setCell ⟨g, o + 1, none⟩ v1).setCell ⟨g, o + 2, none⟩ v2).setCell ⟨g, o + 3, none⟩ v3) :=
  (((h.setCell (p := ⟨g, o, none⟩) hg v0).setCell (p := ⟨g, o + 1, none⟩) hg v1).setCell (p := ⟨g, o + 2, none⟩) hg v2).setCell (p := ⟨g, o + 3, none⟩) hg v3
set_option maxHeartbeats 8000000 in
set_option maxRecDepth 100000 in
theorem pair_node (S : Nat → Prop) (p pv c k : Nat) (ih : RPairC S p pv c k) : RPairC S p pv c (k + 1) := by
  intro σ cur a b va vb l np w hnp hl hl2 hT hok hga hgb hva hvb hSn
  have HA := hid hva
  have HB := hid hvb
  obtain ⟨q, s, m, A, m9, c9, rfl⟩ := hva.agg
  obtain ⟨q', s', m', A', m8, c8, rfl⟩ := hvb.agg
  have HT := hid hT
  have HL := hid (And.intro hT.blk.lt (And.intro hT.row.lt hT.ne))
  have HN := hid hSn
  have HO := hid (And.intro hok (And.intro hga (And.intro hgb hl)))
  have HI := hid ih
  rw [pairF]
  have a0 : ∀ o o', ((w.alloc o).alloc o').cell? ⟨p, 1, none⟩ = some (.int .i64 np) := fun o o' => ((hT.blk.alloc o).alloc o').cell 1
  have a1 : ∀ o o', ((w.alloc o).alloc o').frozen? ⟨p, 1, none⟩ = false := fun o o' => ((hT.blk.alloc o).alloc o').frozen 1
  clear hva hvb hT hok hga hgb hSn ih hl
  cases l with
  | zero =>
    rw [if_pos rfl]
    obtain rfl : np = 65536 := by omega
    clear hnp hl2
    go_enter Try.func37, Try.ntmps37
    go_wp2
    go_ret
    exact ⟨rfl, ⟨cur, _, HT.out.up (below_2 (Below.refl _ _) _ _), fun h => by cases h⟩, ((Kept.refl _ w).alloc _).alloc _⟩
  | succ l =>
  rw [if_neg (by omega), Nat.add_sub_cancel]
  obtain ⟨R, hR⟩ : ∃ R, R = stepF (pairF k) σ (hdT σ a) (hdT σ b) l := ⟨_, rfl⟩
  rw [← hR]
  have HR := hid hR
  clear hR
  obtain ⟨np1, hn1⟩ : ∃ np1, np1 = np + 1 := ⟨_, rfl⟩
  have Hn1 := hid (show np1 = 65536 - (l : Int) by omega)
  have q5 : IntKind.i64.wrap (np + 1) = np1 := by rw [hn1]; exact IntWalk.i64_in _ (by omega)
  have q7 : (np == 65536) = false := beq_eq_false_iff_ne.2 (by omega)
  have KG := hid ((((Kept.refl (fun b => b = p) w).alloc (.cells #[.int .i64 q, .string s, .int .i64 m, .slice A m9 c9] 34)).alloc (.cells #[.int .i64 q', .string s', .int .i64 m', .slice A' m8 c8] 34)).setCell (p := ⟨p, 1, none⟩) (.inl rfl) (.int .i64 np1))
  have BA : Blk (((w.alloc (.cells #[.int .i64 q, .string s, .int .i64 m, .slice A m9 c9] 34)).alloc (.cells #[.int .i64 q', .string s', .int .i64 m', .slice A' m8 c8] 34)).setCell ⟨p, 1, none⟩ (.int .i64 np1)) w.heap.size 34 #[.int .i64 q, .string s, .int .i64 m, .slice A m9 c9] := ((Blk.new _ _ _).alloc _).far (p := ⟨p, 1, none⟩) (by have := HL.out; dsimp only; omega) _
  have BB : Blk (((w.alloc (.cells #[.int .i64 q, .string s, .int .i64 m, .slice A m9 c9] 34)).alloc (.cells #[.int .i64 q', .string s', .int .i64 m', .slice A' m8 c8] 34)).setCell ⟨p, 1, none⟩ (.int .i64 np1)) (w.heap.size + 1) 34 #[.int .i64 q', .string s', .int .i64 m', .slice A' m8 c8] := (Blk.new' (by simp) _ _).far (p := ⟨p, 1, none⟩) (by have := HL.out; dsimp only; omega) _
  have M : RM S p pv c np1 σ cur a b w (((w.alloc (.cells #[.int .i64 q, .string s, .int .i64 m, .slice A m9 c9] 34)).alloc (.cells #[.int .i64 q', .string s', .int .i64 m', .slice A' m8 c8] 34)).setCell ⟨p, 1, none⟩ (.int .i64 np1)) (.int .i64 q) (.string s) (.int .i64 m) (.slice A m9 c9) (.int .i64 q') (.string s') (.int .i64 m') (.slice A' m8 c8) :=
    ⟨BA, BB, HA.out.narrow2.kept KG.out (fun b hb e => HT.out.pS (by rw [← e]; exact hb.1)), HB.out.narrow2.kept KG.out (fun b hb e => HT.out.pS (by rw [← e]; exact hb.1)), (HT.out.narrow.up (below_2 (Below.refl _ _) _ _)).count np1, KG.out⟩
  have HM := hid M
  clear BA BB M KG hnp
  subst hn1
  go_enter Try.func37, Try.ntmps37
  go_wp2
  clear a0 a1 q5 q7
  revert HM
  generalize ((w.alloc (.cells #[.int .i64 q, .string s, .int .i64 m, .slice A m9 c9] 34)).alloc (.cells #[.int .i64 q', .string s', .int .i64 m', .slice A' m8 c8] 34)).setCell ⟨p, 1, none⟩ (.int .i64 (np + 1)) = w1
  intro HM
  go_cut [] (fun wx => ∃ v0 v1 v2 v3 u0 u1 u2 u3, Hid (RM S p pv c (np + 1) σ cur (hdT σ a) (hdT σ b) w wx v0 v1 v2 v3 u0 u1 u2 u3))
  case first =>
    have M0 := hid HM.out.drew
    have x0 : (w1.drew).cell? ⟨w.heap.size, 0, none⟩ = some (.int .i64 q) := (M0.out).ba.cell 0; have x1 : (w1.drew).cell? ⟨w.heap.size, 1, none⟩ = some (.string s) := (M0.out).ba.cell 1; have x2 : (w1.drew).cell? ⟨w.heap.size, 2, none⟩ = some (.int .i64 m) := (M0.out).ba.cell 2; have x3 : (w1.drew).cell? ⟨w.heap.size, 3, none⟩ = some (.slice A m9 c9) := (M0.out).ba.cell 3; have y0 : (w1.drew).cell? ⟨w.heap.size + 1, 0, none⟩ = some (.int .i64 q') := (M0.out).bb.cell 0; have y1 : (w1.drew).cell? ⟨w.heap.size + 1, 1, none⟩ = some (.string s') := (M0.out).bb.cell 1; have y2 : (w1.drew).cell? ⟨w.heap.size + 1, 2, none⟩ = some (.int .i64 m') := (M0.out).bb.cell 2; have y3 : (w1.drew).cell? ⟨w.heap.size + 1, 3, none⟩ = some (.slice A' m8 c8) := (M0.out).bb.cell 3; have f0 := (M0.out).ba.frozen 0; have f1 := (M0.out).ba.frozen 1; have f2 := (M0.out).ba.frozen 2; have f3 := (M0.out).ba.frozen 3; have g0 := (M0.out).bb.frozen 0; have g1 := (M0.out).bb.frozen 1; have g2 := (M0.out).bb.frozen 2; have g3 := (M0.out).bb.frozen 3
    go_region_law (first
      | (go_simp; go_at_call 53; (with_reducible refine (ref15_head (fun b => S b ∧ b < w.heap.size) p pv c (np + 1) σ cur a _ _ M0.out.tab HO.out.1 HO.out.2.1 M0.out.ta).mono ?_); rintro e w2 ⟨⟨v', rfl, hv'⟩, b1⟩; obtain ⟨q9, s9, k9, A9, m7, c7, rfl⟩ := hv'.agg; have M2 := hid (M0.out.up b1); have H2 := hid hv'; have x0 : (w2).cell? ⟨w.heap.size, 0, none⟩ = some (.int .i64 q) := (M2.out).ba.cell 0; have x1 : (w2).cell? ⟨w.heap.size, 1, none⟩ = some (.string s) := (M2.out).ba.cell 1; have x2 : (w2).cell? ⟨w.heap.size, 2, none⟩ = some (.int .i64 m) := (M2.out).ba.cell 2; have x3 : (w2).cell? ⟨w.heap.size, 3, none⟩ = some (.slice A m9 c9) := (M2.out).ba.cell 3; have y0 : (w2).cell? ⟨w.heap.size + 1, 0, none⟩ = some (.int .i64 q') := (M2.out).bb.cell 0; have y1 : (w2).cell? ⟨w.heap.size + 1, 1, none⟩ = some (.string s') := (M2.out).bb.cell 1; have y2 : (w2).cell? ⟨w.heap.size + 1, 2, none⟩ = some (.int .i64 m') := (M2.out).bb.cell 2; have y3 : (w2).cell? ⟨w.heap.size + 1, 3, none⟩ = some (.slice A' m8 c8) := (M2.out).bb.cell 3; have f0 := (M2.out).ba.frozen 0; have f1 := (M2.out).ba.frozen 1; have f2 := (M2.out).ba.frozen 2; have f3 := (M2.out).ba.frozen 3; have g0 := (M2.out).bb.frozen 0; have g1 := (M2.out).bb.frozen 1; have g2 := (M2.out).bb.frozen 2; have g3 := (M2.out).bb.frozen 3; (try have H4 := hid (H2.out.up b1)); clear hv' b1)
      | (go_simp; go_at_call 53; (with_reducible refine (ref15_head (fun b => S b ∧ b < w.heap.size) p pv c (np + 1) σ cur b _ _ M0.out.tab HO.out.1 HO.out.2.2.1 M0.out.tb).mono ?_); rintro e w2 ⟨⟨v', rfl, hv'⟩, b1⟩; obtain ⟨q9, s9, k9, A9, m7, c7, rfl⟩ := hv'.agg; have M2 := hid (M0.out.up b1); have H2 := hid hv'; have x0 : (w2).cell? ⟨w.heap.size, 0, none⟩ = some (.int .i64 q) := (M2.out).ba.cell 0; have x1 : (w2).cell? ⟨w.heap.size, 1, none⟩ = some (.string s) := (M2.out).ba.cell 1; have x2 : (w2).cell? ⟨w.heap.size, 2, none⟩ = some (.int .i64 m) := (M2.out).ba.cell 2; have x3 : (w2).cell? ⟨w.heap.size, 3, none⟩ = some (.slice A m9 c9) := (M2.out).ba.cell 3; have y0 : (w2).cell? ⟨w.heap.size + 1, 0, none⟩ = some (.int .i64 q') := (M2.out).bb.cell 0; have y1 : (w2).cell? ⟨w.heap.size + 1, 1, none⟩ = some (.string s') := (M2.out).bb.cell 1; have y2 : (w2).cell? ⟨w.heap.size + 1, 2, none⟩ = some (.int .i64 m') := (M2.out).bb.cell 2; have y3 : (w2).cell? ⟨w.heap.size + 1, 3, none⟩ = some (.slice A' m8 c8) := (M2.out).bb.cell 3; have f0 := (M2.out).ba.frozen 0; have f1 := (M2.out).ba.frozen 1; have f2 := (M2.out).ba.frozen 2; have f3 := (M2.out).ba.frozen 3; have g0 := (M2.out).bb.frozen 0; have g1 := (M2.out).bb.frozen 1; have g2 := (M2.out).bb.frozen 2; have g3 := (M2.out).bb.frozen 3; (try have H4 := hid (H2.out.up b1)); clear hv' b1)
      | (go_simp; go_at_call 53; (with_reducible refine (ref15_head (fun b => S b ∧ b < w.heap.size) p pv c (np + 1) σ cur a _ _ M2.out.tab HO.out.1 HO.out.2.1 M2.out.ta).mono ?_); rintro e w3 ⟨⟨v', rfl, hv'⟩, b1⟩; obtain ⟨q9, s9, k9, A9, m7, c7, rfl⟩ := hv'.agg; have M3 := hid (M2.out.up b1); have H3 := hid hv'; have x0 : (w3).cell? ⟨w.heap.size, 0, none⟩ = some (.int .i64 q) := (M3.out).ba.cell 0; have x1 : (w3).cell? ⟨w.heap.size, 1, none⟩ = some (.string s) := (M3.out).ba.cell 1; have x2 : (w3).cell? ⟨w.heap.size, 2, none⟩ = some (.int .i64 m) := (M3.out).ba.cell 2; have x3 : (w3).cell? ⟨w.heap.size, 3, none⟩ = some (.slice A m9 c9) := (M3.out).ba.cell 3; have y0 : (w3).cell? ⟨w.heap.size + 1, 0, none⟩ = some (.int .i64 q') := (M3.out).bb.cell 0; have y1 : (w3).cell? ⟨w.heap.size + 1, 1, none⟩ = some (.string s') := (M3.out).bb.cell 1; have y2 : (w3).cell? ⟨w.heap.size + 1, 2, none⟩ = some (.int .i64 m') := (M3.out).bb.cell 2; have y3 : (w3).cell? ⟨w.heap.size + 1, 3, none⟩ = some (.slice A' m8 c8) := (M3.out).bb.cell 3; have f0 := (M3.out).ba.frozen 0; have f1 := (M3.out).ba.frozen 1; have f2 := (M3.out).ba.frozen 2; have f3 := (M3.out).ba.frozen 3; have g0 := (M3.out).bb.frozen 0; have g1 := (M3.out).bb.frozen 1; have g2 := (M3.out).bb.frozen 2; have g3 := (M3.out).bb.frozen 3; (try have H4 := hid (H2.out.up b1)); clear hv' b1)
      | (go_simp; go_at_call 53; (with_reducible refine (ref15_head (fun b => S b ∧ b < w.heap.size) p pv c (np + 1) σ cur b _ _ M2.out.tab HO.out.1 HO.out.2.2.1 M2.out.tb).mono ?_); rintro e w3 ⟨⟨v', rfl, hv'⟩, b1⟩; obtain ⟨q9, s9, k9, A9, m7, c7, rfl⟩ := hv'.agg; have M3 := hid (M2.out.up b1); have H3 := hid hv'; have x0 : (w3).cell? ⟨w.heap.size, 0, none⟩ = some (.int .i64 q) := (M3.out).ba.cell 0; have x1 : (w3).cell? ⟨w.heap.size, 1, none⟩ = some (.string s) := (M3.out).ba.cell 1; have x2 : (w3).cell? ⟨w.heap.size, 2, none⟩ = some (.int .i64 m) := (M3.out).ba.cell 2; have x3 : (w3).cell? ⟨w.heap.size, 3, none⟩ = some (.slice A m9 c9) := (M3.out).ba.cell 3; have y0 : (w3).cell? ⟨w.heap.size + 1, 0, none⟩ = some (.int .i64 q') := (M3.out).bb.cell 0; have y1 : (w3).cell? ⟨w.heap.size + 1, 1, none⟩ = some (.string s') := (M3.out).bb.cell 1; have y2 : (w3).cell? ⟨w.heap.size + 1, 2, none⟩ = some (.int .i64 m') := (M3.out).bb.cell 2; have y3 : (w3).cell? ⟨w.heap.size + 1, 3, none⟩ = some (.slice A' m8 c8) := (M3.out).bb.cell 3; have f0 := (M3.out).ba.frozen 0; have f1 := (M3.out).ba.frozen 1; have f2 := (M3.out).ba.frozen 2; have f3 := (M3.out).ba.frozen 3; have g0 := (M3.out).bb.frozen 0; have g1 := (M3.out).bb.frozen 1; have g2 := (M3.out).bb.frozen 2; have g3 := (M3.out).bb.frozen 3; (try have H4 := hid (H2.out.up b1)); clear hv' b1))
    all_goals
      go_wp2_with fail
      go_meet
      first
        | exact ⟨_, _, _, _, _, _, _, _, hid (M3.out.done HL.out.1 HL.out.2.1 H4.out H3.out)⟩
        | exact ⟨_, _, _, _, _, _, _, _, hid (M3.out.done HL.out.1 HL.out.2.1 H3.out H4.out)⟩
  case rest =>
    clear HM
    obtain ⟨v0, v1, v2, v3, u0, u1, u2, u3, HM⟩ := hcut
    have hgA := HO.out.1.hd_good HO.out.2.1
    have hgB := HO.out.1.hd_good HO.out.2.2.1
    have heA := (HO.out.1.hd_ HO.out.2.1).end_
    have heB := (HO.out.1.hd_ HO.out.2.2.1).end_
    generalize hdT σ a = a1 at HM hgA heA HR
    generalize hdT σ b = b1 at HM hgB heB HR
    obtain ⟨q1, s1, n1, us⟩ := a1
    obtain ⟨q2, s2, n2, vs⟩ := b1
    obtain ⟨A1, c1, e1, i1, i2, i3, i4, _⟩ := HM.out.ta.parts
    obtain ⟨A2, c2, e2, j1, j2, j3, j4, _⟩ := HM.out.tb.parts
    simp only [Value.agg.injEq, Array.mk.injEq, List.cons.injEq, and_true] at e1 e2
    obtain ⟨rfl, rfl, rfl, rfl⟩ := e1
    obtain ⟨rfl, rfl, rfl, rfl⟩ := e2
    have HK := hid (And.intro hgA (And.intro hgB (And.intro (And.intro i1 (And.intro i2 i4)) (And.intro j1 (And.intro j2 j4)))))
    have HS := hid (And.intro HT.out.pS HT.out.vS)
    have HS2 := hid (fun b (hb : wc.heap.size ≤ b) => HN.out b (Nat.le_trans HM.out.kp.size hb))
    clear hgA hgB heA heB i1 i2 i3 i4 j1 j2 j3 j4
    have x0 : wc.cell? ⟨w.heap.size, 0, none⟩ = some (.int .i64 q1) := HM.out.ba.cell 0
    have x1 : wc.cell? ⟨w.heap.size, 1, none⟩ = some (.string s1) := HM.out.ba.cell 1
    have x2 : wc.cell? ⟨w.heap.size, 2, none⟩ = some (.int .i64 n1) := HM.out.ba.cell 2
    have x3 : wc.cell? ⟨w.heap.size, 3, none⟩ = some (.slice A1 us.length c1) := HM.out.ba.cell 3
    have y0 : wc.cell? ⟨w.heap.size + 1, 0, none⟩ = some (.int .i64 q2) := HM.out.bb.cell 0
    have y1 : wc.cell? ⟨w.heap.size + 1, 1, none⟩ = some (.string s2) := HM.out.bb.cell 1
    have y2 : wc.cell? ⟨w.heap.size + 1, 2, none⟩ = some (.int .i64 n2) := HM.out.bb.cell 2
    have y3 : wc.cell? ⟨w.heap.size + 1, 3, none⟩ = some (.slice A2 vs.length c2) := HM.out.bb.cell 3
    by_cases ha2 : q1 = 2
    · subst ha2
      by_cases hb2 : q2 = 2
      · by_cases hn : n1 = n2
        · subst hb2 hn
          have hR := hid (HR.out.trans stepF_same)
          go_wp2
          go_ret
          rw [hR.out]
          exact HM.out.ret HS.out.1 HS.out.2 l Hn1.out 0
        · have hR := hid ((HR.out.trans (stepF_va (fun h => hn h.2))).trans (bindF_R σ n1 _ l).symm)
          have hn2 : (n1 == n2) = false := by simpa using hn
          have hz2 : (q2 == 2) = true := by simpa using hb2
          clear hn hb2
          have hrng := var_range HK.out.1 rfl
          simp only [Ty.num] at hrng
          have Hrng := hid hrng
          obtain ⟨K, hK⟩ := HO.out.1.wr_ HK.out.2.1
          have C := hid (ref15_met S p pv c (np + 1) σ cur n1 HO.out.1 K (.mk q2 s2 n2 vs) _ _ wc 0 (by omega) hK HK.out.2.1 (HM.out.tb.mono (fun _ hk _ => hk.1)) (HM.out.wide HS.out.1 HS.out.2))
          have hc := bindF_cases (σ := σ) (n := n1) (b := .mk q2 s2 n2 vs) (l := l)
          generalize metT n1 (wrT σ (.mk q2 s2 n2 vs)) 0 = r at C hc
          clear hrng hK
          rcases hc with ⟨hr0, hc⟩ | ⟨hr0, hc⟩
          rotate_left
          · have hR2 := hid (hR.out.trans hc)
            have hrn : (r.2 != 0) = true := by simpa using hr0
            clear hc hr0
            go_wp2_with (go_at_call 39; go_must (refine C.out.mono ?_); rintro e w6 ⟨rfl, b1⟩)
            go_ret
            rw [hR2.out]
            exact (HM.out.up b1).ret HS.out.1 HS.out.2 l Hn1.out _
          have hR2 := hid (hR.out.trans hc)
          have hrn : (r.2 != 0) = false := by simpa using hr0
          clear hc hr0
          obtain ⟨i, hi1⟩ : ∃ i : Nat, n1 = (i : Int) + 1 := ⟨(n1 - 1).toNat, by have := Hrng.out.1; omega⟩
          subst hi1
          have hi : i < σ.length := by have := Hrng.out.2; omega
          have hi' : (i : Int) < σ.length := by omega
          have hi0 : (0 : Int) ≤ (i : Int) := by omega
          have hfew := HT.out.few
          have q5 : IntKind.i64.wrap ((i : Int) + 1 - 1) = i := by rw [show (i : Int) + 1 - 1 = i from by omega]; exact IntWalk.i64_in _ (by omega)
          have q6 : IntKind.i64.wrap (i : Int) = i := IntWalk.i64_in _ (by omega)
          go_wp2_with (go_at_call 39; go_must (refine C.out.mono ?_); rintro e w6 ⟨rfl, b1⟩; go_must (have M6 := hid (HM.out.up b1); clear x0 x1 x2 x3 y0 y1 y2 y3))
          have M7 := hid M6.out.drew
          have p0 : w6.drew.cell? ⟨p, 0, none⟩ = some (.slice (some ⟨pv, 0, none⟩) σ.length c) := M7.out.tab.blk.cell 0
          have n0 : w6.drew.cell? ⟨w.heap.size, 2, none⟩ = some (.int .i64 ((i : Int) + 1)) := M7.out.ba.cell 2
          have z0 : w6.drew.cell? ⟨w.heap.size + 1, 0, none⟩ = some (.int .i64 q2) := M7.out.bb.cell 0
          have z1 : w6.drew.cell? ⟨w.heap.size + 1, 1, none⟩ = some (.string s2) := M7.out.bb.cell 1
          have z2 : w6.drew.cell? ⟨w.heap.size + 1, 2, none⟩ = some (.int .i64 n2) := M7.out.bb.cell 2
          have z3 : w6.drew.cell? ⟨w.heap.size + 1, 3, none⟩ = some (.slice A2 (vs).length c2) := M7.out.bb.cell 3
          obtain ⟨k9, s9, n9, A9, m9', c9', t0, t1, t2, t3, _, _⟩ := M6.out.tab.bound (Below.refl _ _) hi
          have l0 := M6.out.tab.row.frozen (i * 4)
          have l1 := M6.out.tab.row.frozen (i * 4 + 1)
          have l2 := M6.out.tab.row.frozen (i * 4 + 2)
          have l3 := M6.out.tab.row.frozen (i * 4 + 3)
          have p0'' : (World.drew ((((w6.setCell ⟨pv, i * 4, none⟩ (.int .i64 q2)).setCell ⟨pv, i * 4 + 1, none⟩ (.string s2)).setCell ⟨pv, i * 4 + 2, none⟩ (.int .i64 n2)).setCell ⟨pv, i * 4 + 3, none⟩ (.slice A2 (vs).length c2))).cell? ⟨p, 0, none⟩ = _ := (World.cell?_of_block (w := w6) (w' := World.drew ((((w6.setCell ⟨pv, i * 4, none⟩ (.int .i64 q2)).setCell ⟨pv, i * 4 + 1, none⟩ (.string s2)).setCell ⟨pv, i * 4 + 2, none⟩ (.int .i64 n2)).setCell ⟨pv, i * 4 + 3, none⟩ (.slice A2 (vs).length c2))) (a := ⟨p, 0, none⟩) (set4o_other (by have := HL.out; dsimp only; omega))).trans p0
          have n0'' : (World.drew ((((w6.setCell ⟨pv, i * 4, none⟩ (.int .i64 q2)).setCell ⟨pv, i * 4 + 1, none⟩ (.string s2)).setCell ⟨pv, i * 4 + 2, none⟩ (.int .i64 n2)).setCell ⟨pv, i * 4 + 3, none⟩ (.slice A2 (vs).length c2))).cell? ⟨w.heap.size, 2, none⟩ = _ := (World.cell?_of_block (w := w6) (w' := World.drew ((((w6.setCell ⟨pv, i * 4, none⟩ (.int .i64 q2)).setCell ⟨pv, i * 4 + 1, none⟩ (.string s2)).setCell ⟨pv, i * 4 + 2, none⟩ (.int .i64 n2)).setCell ⟨pv, i * 4 + 3, none⟩ (.slice A2 (vs).length c2))) (a := ⟨w.heap.size, 2, none⟩) (set4o_other (by have := HL.out; dsimp only; omega))).trans n0
          have z0'' : (World.drew ((((w6.setCell ⟨pv, i * 4, none⟩ (.int .i64 q2)).setCell ⟨pv, i * 4 + 1, none⟩ (.string s2)).setCell ⟨pv, i * 4 + 2, none⟩ (.int .i64 n2)).setCell ⟨pv, i * 4 + 3, none⟩ (.slice A2 (vs).length c2))).cell? ⟨w.heap.size + 1, 0, none⟩ = _ := (World.cell?_of_block (w := w6) (w' := World.drew ((((w6.setCell ⟨pv, i * 4, none⟩ (.int .i64 q2)).setCell ⟨pv, i * 4 + 1, none⟩ (.string s2)).setCell ⟨pv, i * 4 + 2, none⟩ (.int .i64 n2)).setCell ⟨pv, i * 4 + 3, none⟩ (.slice A2 (vs).length c2))) (a := ⟨w.heap.size + 1, 0, none⟩) (set4o_other (by have := HL.out; dsimp only; omega))).trans z0
          have z1'' : (World.drew ((((w6.setCell ⟨pv, i * 4, none⟩ (.int .i64 q2)).setCell ⟨pv, i * 4 + 1, none⟩ (.string s2)).setCell ⟨pv, i * 4 + 2, none⟩ (.int .i64 n2)).setCell ⟨pv, i * 4 + 3, none⟩ (.slice A2 (vs).length c2))).cell? ⟨w.heap.size + 1, 1, none⟩ = _ := (World.cell?_of_block (w := w6) (w' := World.drew ((((w6.setCell ⟨pv, i * 4, none⟩ (.int .i64 q2)).setCell ⟨pv, i * 4 + 1, none⟩ (.string s2)).setCell ⟨pv, i * 4 + 2, none⟩ (.int .i64 n2)).setCell ⟨pv, i * 4 + 3, none⟩ (.slice A2 (vs).length c2))) (a := ⟨w.heap.size + 1, 1, none⟩) (set4o_other (by have := HL.out; dsimp only; omega))).trans z1
          have z2'' : (World.drew ((((w6.setCell ⟨pv, i * 4, none⟩ (.int .i64 q2)).setCell ⟨pv, i * 4 + 1, none⟩ (.string s2)).setCell ⟨pv, i * 4 + 2, none⟩ (.int .i64 n2)).setCell ⟨pv, i * 4 + 3, none⟩ (.slice A2 (vs).length c2))).cell? ⟨w.heap.size + 1, 2, none⟩ = _ := (World.cell?_of_block (w := w6) (w' := World.drew ((((w6.setCell ⟨pv, i * 4, none⟩ (.int .i64 q2)).setCell ⟨pv, i * 4 + 1, none⟩ (.string s2)).setCell ⟨pv, i * 4 + 2, none⟩ (.int .i64 n2)).setCell ⟨pv, i * 4 + 3, none⟩ (.slice A2 (vs).length c2))) (a := ⟨w.heap.size + 1, 2, none⟩) (set4o_other (by have := HL.out; dsimp only; omega))).trans z2
          have z3'' : (World.drew ((((w6.setCell ⟨pv, i * 4, none⟩ (.int .i64 q2)).setCell ⟨pv, i * 4 + 1, none⟩ (.string s2)).setCell ⟨pv, i * 4 + 2, none⟩ (.int .i64 n2)).setCell ⟨pv, i * 4 + 3, none⟩ (.slice A2 (vs).length c2))).cell? ⟨w.heap.size + 1, 3, none⟩ = _ := (World.cell?_of_block (w := w6) (w' := World.drew ((((w6.setCell ⟨pv, i * 4, none⟩ (.int .i64 q2)).setCell ⟨pv, i * 4 + 1, none⟩ (.string s2)).setCell ⟨pv, i * 4 + 2, none⟩ (.int .i64 n2)).setCell ⟨pv, i * 4 + 3, none⟩ (.slice A2 (vs).length c2))) (a := ⟨w.heap.size + 1, 3, none⟩) (set4o_other (by have := HL.out; dsimp only; omega))).trans z3
          go_region_held3 (fun w' => w'.cell? ⟨p, 0, none⟩ = some (.slice (some ⟨pv, 0, none⟩) σ.length c) ∧ w'.cell? ⟨w.heap.size, 2, none⟩ = some (.int .i64 ((i : Int) + 1)) ∧ w'.cell? ⟨w.heap.size + 1, 0, none⟩ = some (.int .i64 q2) ∧ w'.cell? ⟨w.heap.size + 1, 1, none⟩ = some (.string s2) ∧ w'.cell? ⟨w.heap.size + 1, 2, none⟩ = some (.int .i64 n2) ∧ w'.cell? ⟨w.heap.size + 1, 3, none⟩ = some (.slice A2 (vs).length c2)) (first | with_reducible exact ⟨p0, n0, z0, z1, z2, z3⟩ | with_reducible exact ⟨p0'', n0'', z0'', z1'', z2'', z3''⟩) (fail)
          go_wp2
          go_ret
          rw [hR2.out]
          have hkd := good_kd HK.out.2.1
          exact ⟨rfl, ⟨_, _, (M6.out.wide HS.out.1 HS.out.2).put hi (by simp only [Ty.kd] at hkd; omega) (M6.out.tb.mono (fun _ hk _ => hk.1)) (set4o_blk M6.out.tab.row _ _ _ _ _).drew (fun b _ hne => set4o_other hne), fun _ => Hn1.out⟩, ((M6.out.kp.mono (T := fun b => b = pv ∨ b = p) (fun _ _ e => .inr e)).set4q (.inl (.inl rfl))).drew⟩
      · have hR := hid ((HR.out.trans (stepF_va (fun h => hb2 h.1))).trans (bindF_R σ n1 _ l).symm)
        have hz2 : (q2 == 2) = false := by simpa using hb2
        clear hb2
        have hrng := var_range HK.out.1 rfl
        simp only [Ty.num] at hrng
        have Hrng := hid hrng
        obtain ⟨K, hK⟩ := HO.out.1.wr_ HK.out.2.1
        have C := hid (ref15_met S p pv c (np + 1) σ cur n1 HO.out.1 K (.mk q2 s2 n2 vs) _ _ wc 0 (by omega) hK HK.out.2.1 (HM.out.tb.mono (fun _ hk _ => hk.1)) (HM.out.wide HS.out.1 HS.out.2))
        have hc := bindF_cases (σ := σ) (n := n1) (b := .mk q2 s2 n2 vs) (l := l)
        generalize metT n1 (wrT σ (.mk q2 s2 n2 vs)) 0 = r at C hc
        clear hrng hK
        rcases hc with ⟨hr0, hc⟩ | ⟨hr0, hc⟩
        rotate_left
        · have hR2 := hid (hR.out.trans hc)
          have hrn : (r.2 != 0) = true := by simpa using hr0
          clear hc hr0
          go_wp2_with (go_at_call 39; go_must (refine C.out.mono ?_); rintro e w6 ⟨rfl, b1⟩)
          go_ret
          rw [hR2.out]
          exact (HM.out.up b1).ret HS.out.1 HS.out.2 l Hn1.out _
        have hR2 := hid (hR.out.trans hc)
        have hrn : (r.2 != 0) = false := by simpa using hr0
        clear hc hr0
        obtain ⟨i, hi1⟩ : ∃ i : Nat, n1 = (i : Int) + 1 := ⟨(n1 - 1).toNat, by have := Hrng.out.1; omega⟩
        subst hi1
        have hi : i < σ.length := by have := Hrng.out.2; omega
        have hi' : (i : Int) < σ.length := by omega
        have hi0 : (0 : Int) ≤ (i : Int) := by omega
        have hfew := HT.out.few
        have q5 : IntKind.i64.wrap ((i : Int) + 1 - 1) = i := by rw [show (i : Int) + 1 - 1 = i from by omega]; exact IntWalk.i64_in _ (by omega)
        have q6 : IntKind.i64.wrap (i : Int) = i := IntWalk.i64_in _ (by omega)
        go_wp2_with (go_at_call 39; go_must (refine C.out.mono ?_); rintro e w6 ⟨rfl, b1⟩; go_must (have M6 := hid (HM.out.up b1); clear x0 x1 x2 x3 y0 y1 y2 y3))
        have M7 := hid M6.out.drew
        have p0 : w6.drew.cell? ⟨p, 0, none⟩ = some (.slice (some ⟨pv, 0, none⟩) σ.length c) := M7.out.tab.blk.cell 0
        have n0 : w6.drew.cell? ⟨w.heap.size, 2, none⟩ = some (.int .i64 ((i : Int) + 1)) := M7.out.ba.cell 2
        have z0 : w6.drew.cell? ⟨w.heap.size + 1, 0, none⟩ = some (.int .i64 q2) := M7.out.bb.cell 0
        have z1 : w6.drew.cell? ⟨w.heap.size + 1, 1, none⟩ = some (.string s2) := M7.out.bb.cell 1
        have z2 : w6.drew.cell? ⟨w.heap.size + 1, 2, none⟩ = some (.int .i64 n2) := M7.out.bb.cell 2
        have z3 : w6.drew.cell? ⟨w.heap.size + 1, 3, none⟩ = some (.slice A2 (vs).length c2) := M7.out.bb.cell 3
        obtain ⟨k9, s9, n9, A9, m9', c9', t0, t1, t2, t3, _, _⟩ := M6.out.tab.bound (Below.refl _ _) hi
        have l0 := M6.out.tab.row.frozen (i * 4)
        have l1 := M6.out.tab.row.frozen (i * 4 + 1)
        have l2 := M6.out.tab.row.frozen (i * 4 + 2)
        have l3 := M6.out.tab.row.frozen (i * 4 + 3)
        have p0'' : (World.drew ((((w6.setCell ⟨pv, i * 4, none⟩ (.int .i64 q2)).setCell ⟨pv, i * 4 + 1, none⟩ (.string s2)).setCell ⟨pv, i * 4 + 2, none⟩ (.int .i64 n2)).setCell ⟨pv, i * 4 + 3, none⟩ (.slice A2 (vs).length c2))).cell? ⟨p, 0, none⟩ = _ := (World.cell?_of_block (w := w6) (w' := World.drew ((((w6.setCell ⟨pv, i * 4, none⟩ (.int .i64 q2)).setCell ⟨pv, i * 4 + 1, none⟩ (.string s2)).setCell ⟨pv, i * 4 + 2, none⟩ (.int .i64 n2)).setCell ⟨pv, i * 4 + 3, none⟩ (.slice A2 (vs).length c2))) (a := ⟨p, 0, none⟩) (set4o_other (by have := HL.out; dsimp only; omega))).trans p0
        have n0'' : (World.drew ((((w6.setCell ⟨pv, i * 4, none⟩ (.int .i64 q2)).setCell ⟨pv, i * 4 + 1, none⟩ (.string s2)).setCell ⟨pv, i * 4 + 2, none⟩ (.int .i64 n2)).setCell ⟨pv, i * 4 + 3, none⟩ (.slice A2 (vs).length c2))).cell? ⟨w.heap.size, 2, none⟩ = _ := (World.cell?_of_block (w := w6) (w' := World.drew ((((w6.setCell ⟨pv, i * 4, none⟩ (.int .i64 q2)).setCell ⟨pv, i * 4 + 1, none⟩ (.string s2)).setCell ⟨pv, i * 4 + 2, none⟩ (.int .i64 n2)).setCell ⟨pv, i * 4 + 3, none⟩ (.slice A2 (vs).length c2))) (a := ⟨w.heap.size, 2, none⟩) (set4o_other (by have := HL.out; dsimp only; omega))).trans n0
        have z0'' : (World.drew ((((w6.setCell ⟨pv, i * 4, none⟩ (.int .i64 q2)).setCell ⟨pv, i * 4 + 1, none⟩ (.string s2)).setCell ⟨pv, i * 4 + 2, none⟩ (.int .i64 n2)).setCell ⟨pv, i * 4 + 3, none⟩ (.slice A2 (vs).length c2))).cell? ⟨w.heap.size + 1, 0, none⟩ = _ := (World.cell?_of_block (w := w6) (w' := World.drew ((((w6.setCell ⟨pv, i * 4, none⟩ (.int .i64 q2)).setCell ⟨pv, i * 4 + 1, none⟩ (.string s2)).setCell ⟨pv, i * 4 + 2, none⟩ (.int .i64 n2)).setCell ⟨pv, i * 4 + 3, none⟩ (.slice A2 (vs).length c2))) (a := ⟨w.heap.size + 1, 0, none⟩) (set4o_other (by have := HL.out; dsimp only; omega))).trans z0
        have z1'' : (World.drew ((((w6.setCell ⟨pv, i * 4, none⟩ (.int .i64 q2)).setCell ⟨pv, i * 4 + 1, none⟩ (.string s2)).setCell ⟨pv, i * 4 + 2, none⟩ (.int .i64 n2)).setCell ⟨pv, i * 4 + 3, none⟩ (.slice A2 (vs).length c2))).cell? ⟨w.heap.size + 1, 1, none⟩ = _ := (World.cell?_of_block (w := w6) (w' := World.drew ((((w6.setCell ⟨pv, i * 4, none⟩ (.int .i64 q2)).setCell ⟨pv, i * 4 + 1, none⟩ (.string s2)).setCell ⟨pv, i * 4 + 2, none⟩ (.int .i64 n2)).setCell ⟨pv, i * 4 + 3, none⟩ (.slice A2 (vs).length c2))) (a := ⟨w.heap.size + 1, 1, none⟩) (set4o_other (by have := HL.out; dsimp only; omega))).trans z1
        have z2'' : (World.drew ((((w6.setCell ⟨pv, i * 4, none⟩ (.int .i64 q2)).setCell ⟨pv, i * 4 + 1, none⟩ (.string s2)).setCell ⟨pv, i * 4 + 2, none⟩ (.int .i64 n2)).setCell ⟨pv, i * 4 + 3, none⟩ (.slice A2 (vs).length c2))).cell? ⟨w.heap.size + 1, 2, none⟩ = _ := (World.cell?_of_block (w := w6) (w' := World.drew ((((w6.setCell ⟨pv, i * 4, none⟩ (.int .i64 q2)).setCell ⟨pv, i * 4 + 1, none⟩ (.string s2)).setCell ⟨pv, i * 4 + 2, none⟩ (.int .i64 n2)).setCell ⟨pv, i * 4 + 3, none⟩ (.slice A2 (vs).length c2))) (a := ⟨w.heap.size + 1, 2, none⟩) (set4o_other (by have := HL.out; dsimp only; omega))).trans z2
        have z3'' : (World.drew ((((w6.setCell ⟨pv, i * 4, none⟩ (.int .i64 q2)).setCell ⟨pv, i * 4 + 1, none⟩ (.string s2)).setCell ⟨pv, i * 4 + 2, none⟩ (.int .i64 n2)).setCell ⟨pv, i * 4 + 3, none⟩ (.slice A2 (vs).length c2))).cell? ⟨w.heap.size + 1, 3, none⟩ = _ := (World.cell?_of_block (w := w6) (w' := World.drew ((((w6.setCell ⟨pv, i * 4, none⟩ (.int .i64 q2)).setCell ⟨pv, i * 4 + 1, none⟩ (.string s2)).setCell ⟨pv, i * 4 + 2, none⟩ (.int .i64 n2)).setCell ⟨pv, i * 4 + 3, none⟩ (.slice A2 (vs).length c2))) (a := ⟨w.heap.size + 1, 3, none⟩) (set4o_other (by have := HL.out; dsimp only; omega))).trans z3
        go_region_held3 (fun w' => w'.cell? ⟨p, 0, none⟩ = some (.slice (some ⟨pv, 0, none⟩) σ.length c) ∧ w'.cell? ⟨w.heap.size, 2, none⟩ = some (.int .i64 ((i : Int) + 1)) ∧ w'.cell? ⟨w.heap.size + 1, 0, none⟩ = some (.int .i64 q2) ∧ w'.cell? ⟨w.heap.size + 1, 1, none⟩ = some (.string s2) ∧ w'.cell? ⟨w.heap.size + 1, 2, none⟩ = some (.int .i64 n2) ∧ w'.cell? ⟨w.heap.size + 1, 3, none⟩ = some (.slice A2 (vs).length c2)) (first | with_reducible exact ⟨p0, n0, z0, z1, z2, z3⟩ | with_reducible exact ⟨p0'', n0'', z0'', z1'', z2'', z3''⟩) (fail)
        go_wp2
        go_ret
        rw [hR2.out]
        have hkd := good_kd HK.out.2.1
        exact ⟨rfl, ⟨_, _, (M6.out.wide HS.out.1 HS.out.2).put hi (by simp only [Ty.kd] at hkd; omega) (M6.out.tb.mono (fun _ hk _ => hk.1)) (set4o_blk M6.out.tab.row _ _ _ _ _).drew (fun b _ hne => set4o_other hne), fun _ => Hn1.out⟩, ((M6.out.kp.mono (T := fun b => b = pv ∨ b = p) (fun _ _ e => .inr e)).set4q (.inl (.inl rfl))).drew⟩
    have hn1 : (q1 == 2) = false := by simpa using ha2
    have hn1' : (q1 != 2) = true := by simpa using ha2
    by_cases hb2 : q2 = 2
    · subst hb2
      have hR := hid ((HR.out.trans (stepF_vb ha2)).trans (bindF_R σ n2 _ l).symm)
      have f0 := HM.out.ba.frozen 0
      have f1 := HM.out.ba.frozen 1
      have f2 := HM.out.ba.frozen 2
      have f3 := HM.out.ba.frozen 3
      have g0 := HM.out.bb.frozen 0
      have g1 := HM.out.bb.frozen 1
      have g2 := HM.out.bb.frozen 2
      have g3 := HM.out.bb.frozen 3
      have M5 := hid (HM.out.done HL.out.1 HL.out.2.1 (T1 := fun _ => True) (T2 := fun _ => True) (HM.out.tb.mono (fun _ hk _ => ⟨hk, trivial⟩)) (HM.out.ta.mono (fun _ hk _ => ⟨hk, trivial⟩)))
      go_upto_region 9 with fail
      clear x0 x1 x2 x3 y0 y1 y2 y3 f0 f1 f2 f3 g0 g1 g2 g3
      revert M5
      generalize ((((((((wc.setCell ⟨w.heap.size, 0, none⟩ (.int .i64 2)).setCell ⟨w.heap.size, 1, none⟩ (.string s2)).setCell ⟨w.heap.size, 2, none⟩ (.int .i64 n2)).setCell ⟨w.heap.size, 3, none⟩ (.slice A2 vs.length c2)).setCell ⟨w.heap.size + 1, 0, none⟩ (.int .i64 q1)).setCell ⟨w.heap.size + 1, 1, none⟩ (.string s1)).setCell ⟨w.heap.size + 1, 2, none⟩ (.int .i64 n1)).setCell ⟨w.heap.size + 1, 3, none⟩ (.slice A1 us.length c1)) = w5
      intro M5
      have x0 : w5.cell? ⟨w.heap.size, 0, none⟩ = some (.int .i64 2) := M5.out.ba.cell 0
      have x1 : w5.cell? ⟨w.heap.size, 1, none⟩ = some (.string s2) := M5.out.ba.cell 1
      have x2 : w5.cell? ⟨w.heap.size, 2, none⟩ = some (.int .i64 n2) := M5.out.ba.cell 2
      have x3 : w5.cell? ⟨w.heap.size, 3, none⟩ = some (.slice A2 vs.length c2) := M5.out.ba.cell 3
      have y0 : w5.cell? ⟨w.heap.size + 1, 0, none⟩ = some (.int .i64 q1) := M5.out.bb.cell 0
      have y1 : w5.cell? ⟨w.heap.size + 1, 1, none⟩ = some (.string s1) := M5.out.bb.cell 1
      have y2 : w5.cell? ⟨w.heap.size + 1, 2, none⟩ = some (.int .i64 n1) := M5.out.bb.cell 2
      have y3 : w5.cell? ⟨w.heap.size + 1, 3, none⟩ = some (.slice A1 us.length c1) := M5.out.bb.cell 3
      have hrng := var_range HK.out.2.1 rfl
      simp only [Ty.num] at hrng
      have Hrng := hid hrng
      obtain ⟨K, hK⟩ := HO.out.1.wr_ HK.out.1
      have C := hid (ref15_met S p pv c (np + 1) σ cur n2 HO.out.1 K (.mk q1 s1 n1 us) _ _ w5 0 (by omega) hK HK.out.1 (M5.out.tb.mono (fun _ hk _ => hk.1)) (M5.out.wide HS.out.1 HS.out.2))
      have hc := bindF_cases (σ := σ) (n := n2) (b := .mk q1 s1 n1 us) (l := l)
      generalize metT n2 (wrT σ (.mk q1 s1 n1 us)) 0 = r at C hc
      clear hrng hK
      rcases hc with ⟨hr0, hc⟩ | ⟨hr0, hc⟩
      rotate_left
      · have hR2 := hid (hR.out.trans hc)
        have hrn : (r.2 != 0) = true := by simpa using hr0
        clear hc hr0
        go_wp2_with (go_at_call 39; go_must (refine C.out.mono ?_); rintro e w6 ⟨rfl, b1⟩)
        go_ret
        rw [hR2.out]
        exact (M5.out.up b1).ret HS.out.1 HS.out.2 l Hn1.out _
      have hR2 := hid (hR.out.trans hc)
      have hrn : (r.2 != 0) = false := by simpa using hr0
      clear hc hr0
      obtain ⟨i, hi1⟩ : ∃ i : Nat, n2 = (i : Int) + 1 := ⟨(n2 - 1).toNat, by have := Hrng.out.1; omega⟩
      subst hi1
      have hi : i < σ.length := by have := Hrng.out.2; omega
      have hi' : (i : Int) < σ.length := by omega
      have hi0 : (0 : Int) ≤ (i : Int) := by omega
      have hfew := HT.out.few
      have q5 : IntKind.i64.wrap ((i : Int) + 1 - 1) = i := by rw [show (i : Int) + 1 - 1 = i from by omega]; exact IntWalk.i64_in _ (by omega)
      have q6 : IntKind.i64.wrap (i : Int) = i := IntWalk.i64_in _ (by omega)
      go_wp2_with (go_at_call 39; go_must (refine C.out.mono ?_); rintro e w6 ⟨rfl, b1⟩; go_must (have M6 := hid (M5.out.up b1); clear x0 x1 x2 x3 y0 y1 y2 y3))
      have M7 := hid M6.out.drew
      have p0 : w6.drew.cell? ⟨p, 0, none⟩ = some (.slice (some ⟨pv, 0, none⟩) σ.length c) := M7.out.tab.blk.cell 0
      have n0 : w6.drew.cell? ⟨w.heap.size, 2, none⟩ = some (.int .i64 ((i : Int) + 1)) := M7.out.ba.cell 2
      have z0 : w6.drew.cell? ⟨w.heap.size + 1, 0, none⟩ = some (.int .i64 q1) := M7.out.bb.cell 0
      have z1 : w6.drew.cell? ⟨w.heap.size + 1, 1, none⟩ = some (.string s1) := M7.out.bb.cell 1
      have z2 : w6.drew.cell? ⟨w.heap.size + 1, 2, none⟩ = some (.int .i64 n1) := M7.out.bb.cell 2
      have z3 : w6.drew.cell? ⟨w.heap.size + 1, 3, none⟩ = some (.slice A1 (us).length c1) := M7.out.bb.cell 3
      obtain ⟨k9, s9, n9, A9, m9', c9', t0, t1, t2, t3, _, _⟩ := M6.out.tab.bound (Below.refl _ _) hi
      have l0 := M6.out.tab.row.frozen (i * 4)
      have l1 := M6.out.tab.row.frozen (i * 4 + 1)
      have l2 := M6.out.tab.row.frozen (i * 4 + 2)
      have l3 := M6.out.tab.row.frozen (i * 4 + 3)
      have p0'' : (World.drew ((((w6.setCell ⟨pv, i * 4, none⟩ (.int .i64 q1)).setCell ⟨pv, i * 4 + 1, none⟩ (.string s1)).setCell ⟨pv, i * 4 + 2, none⟩ (.int .i64 n1)).setCell ⟨pv, i * 4 + 3, none⟩ (.slice A1 (us).length c1))).cell? ⟨p, 0, none⟩ = _ := (World.cell?_of_block (w := w6) (w' := World.drew ((((w6.setCell ⟨pv, i * 4, none⟩ (.int .i64 q1)).setCell ⟨pv, i * 4 + 1, none⟩ (.string s1)).setCell ⟨pv, i * 4 + 2, none⟩ (.int .i64 n1)).setCell ⟨pv, i * 4 + 3, none⟩ (.slice A1 (us).length c1))) (a := ⟨p, 0, none⟩) (set4o_other (by have := HL.out; dsimp only; omega))).trans p0
      have n0'' : (World.drew ((((w6.setCell ⟨pv, i * 4, none⟩ (.int .i64 q1)).setCell ⟨pv, i * 4 + 1, none⟩ (.string s1)).setCell ⟨pv, i * 4 + 2, none⟩ (.int .i64 n1)).setCell ⟨pv, i * 4 + 3, none⟩ (.slice A1 (us).length c1))).cell? ⟨w.heap.size, 2, none⟩ = _ := (World.cell?_of_block (w := w6) (w' := World.drew ((((w6.setCell ⟨pv, i * 4, none⟩ (.int .i64 q1)).setCell ⟨pv, i * 4 + 1, none⟩ (.string s1)).setCell ⟨pv, i * 4 + 2, none⟩ (.int .i64 n1)).setCell ⟨pv, i * 4 + 3, none⟩ (.slice A1 (us).length c1))) (a := ⟨w.heap.size, 2, none⟩) (set4o_other (by have := HL.out; dsimp only; omega))).trans n0
      have z0'' : (World.drew ((((w6.setCell ⟨pv, i * 4, none⟩ (.int .i64 q1)).setCell ⟨pv, i * 4 + 1, none⟩ (.string s1)).setCell ⟨pv, i * 4 + 2, none⟩ (.int .i64 n1)).setCell ⟨pv, i * 4 + 3, none⟩ (.slice A1 (us).length c1))).cell? ⟨w.heap.size + 1, 0, none⟩ = _ := (World.cell?_of_block (w := w6) (w' := World.drew ((((w6.setCell ⟨pv, i * 4, none⟩ (.int .i64 q1)).setCell ⟨pv, i * 4 + 1, none⟩ (.string s1)).setCell ⟨pv, i * 4 + 2, none⟩ (.int .i64 n1)).setCell ⟨pv, i * 4 + 3, none⟩ (.slice A1 (us).length c1))) (a := ⟨w.heap.size + 1, 0, none⟩) (set4o_other (by have := HL.out; dsimp only; omega))).trans z0
      have z1'' : (World.drew ((((w6.setCell ⟨pv, i * 4, none⟩ (.int .i64 q1)).setCell ⟨pv, i * 4 + 1, none⟩ (.string s1)).setCell ⟨pv, i * 4 + 2, none⟩ (.int .i64 n1)).setCell ⟨pv, i * 4 + 3, none⟩ (.slice A1 (us).length c1))).cell? ⟨w.heap.size + 1, 1, none⟩ = _ := (World.cell?_of_block (w := w6) (w' := World.drew ((((w6.setCell ⟨pv, i * 4, none⟩ (.int .i64 q1)).setCell ⟨pv, i * 4 + 1, none⟩ (.string s1)).setCell ⟨pv, i * 4 + 2, none⟩ (.int .i64 n1)).setCell ⟨pv, i * 4 + 3, none⟩ (.slice A1 (us).length c1))) (a := ⟨w.heap.size + 1, 1, none⟩) (set4o_other (by have := HL.out; dsimp only; omega))).trans z1
      have z2'' : (World.drew ((((w6.setCell ⟨pv, i * 4, none⟩ (.int .i64 q1)).setCell ⟨pv, i * 4 + 1, none⟩ (.string s1)).setCell ⟨pv, i * 4 + 2, none⟩ (.int .i64 n1)).setCell ⟨pv, i * 4 + 3, none⟩ (.slice A1 (us).length c1))).cell? ⟨w.heap.size + 1, 2, none⟩ = _ := (World.cell?_of_block (w := w6) (w' := World.drew ((((w6.setCell ⟨pv, i * 4, none⟩ (.int .i64 q1)).setCell ⟨pv, i * 4 + 1, none⟩ (.string s1)).setCell ⟨pv, i * 4 + 2, none⟩ (.int .i64 n1)).setCell ⟨pv, i * 4 + 3, none⟩ (.slice A1 (us).length c1))) (a := ⟨w.heap.size + 1, 2, none⟩) (set4o_other (by have := HL.out; dsimp only; omega))).trans z2
      have z3'' : (World.drew ((((w6.setCell ⟨pv, i * 4, none⟩ (.int .i64 q1)).setCell ⟨pv, i * 4 + 1, none⟩ (.string s1)).setCell ⟨pv, i * 4 + 2, none⟩ (.int .i64 n1)).setCell ⟨pv, i * 4 + 3, none⟩ (.slice A1 (us).length c1))).cell? ⟨w.heap.size + 1, 3, none⟩ = _ := (World.cell?_of_block (w := w6) (w' := World.drew ((((w6.setCell ⟨pv, i * 4, none⟩ (.int .i64 q1)).setCell ⟨pv, i * 4 + 1, none⟩ (.string s1)).setCell ⟨pv, i * 4 + 2, none⟩ (.int .i64 n1)).setCell ⟨pv, i * 4 + 3, none⟩ (.slice A1 (us).length c1))) (a := ⟨w.heap.size + 1, 3, none⟩) (set4o_other (by have := HL.out; dsimp only; omega))).trans z3
      go_region_held3 (fun w' => w'.cell? ⟨p, 0, none⟩ = some (.slice (some ⟨pv, 0, none⟩) σ.length c) ∧ w'.cell? ⟨w.heap.size, 2, none⟩ = some (.int .i64 ((i : Int) + 1)) ∧ w'.cell? ⟨w.heap.size + 1, 0, none⟩ = some (.int .i64 q1) ∧ w'.cell? ⟨w.heap.size + 1, 1, none⟩ = some (.string s1) ∧ w'.cell? ⟨w.heap.size + 1, 2, none⟩ = some (.int .i64 n1) ∧ w'.cell? ⟨w.heap.size + 1, 3, none⟩ = some (.slice A1 (us).length c1)) (first | with_reducible exact ⟨p0, n0, z0, z1, z2, z3⟩ | with_reducible exact ⟨p0'', n0'', z0'', z1'', z2'', z3''⟩) (fail)
      go_wp2
      go_ret
      rw [hR2.out]
      have hkd := good_kd HK.out.1
      exact ⟨rfl, ⟨_, _, (M6.out.wide HS.out.1 HS.out.2).put hi (by simp only [Ty.kd] at hkd; omega) (M6.out.tb.mono (fun _ hk _ => hk.1)) (set4o_blk M6.out.tab.row _ _ _ _ _).drew (fun b _ hne => set4o_other hne), fun _ => Hn1.out⟩, ((M6.out.kp.mono (T := fun b => b = pv ∨ b = p) (fun _ _ e => .inr e)).set4q (.inl (.inl rfl))).drew⟩
    have hz2 : (q2 == 2) = false := by simpa using hb2
    by_cases h1 : q1 = q2
    case neg =>
      have hR := hid (HR.out.trans (stepF_no ha2 hb2 (.inl h1)))
      have g1 : (q1 != q2) = true := by simpa using h1
      go_wp2
      go_ret
      rw [hR.out]
      exact HM.out.ret HS.out.1 HS.out.2 l Hn1.out 150
    subst h1
    by_cases h2 : s1 = s2
    case neg =>
      have hR := hid (HR.out.trans (stepF_no ha2 hb2 (.inr (.inl h2))))
      have g1 := str_ne (decide_eq_false h2)
      go_wp2
      go_ret
      rw [hR.out]
      exact HM.out.ret HS.out.1 HS.out.2 l Hn1.out 150
    subst h2
    by_cases h3 : us.length = vs.length
    case neg =>
      have hR := hid (HR.out.trans (stepF_no ha2 hb2 (.inr (.inr h3))))
      have g1 : (((us.length : Nat) : Int) != (vs.length : Nat)) = true := by simp; omega
      go_wp2
      go_ret
      rw [hR.out]
      exact HM.out.ret HS.out.1 HS.out.2 l Hn1.out 150
    have hR := hid (HR.out.trans (stepF_go ha2 h3))
    have H3 := hid h3
    have hLu : us.length ≤ 9223372036854775807 := by have h1 := HK.out.2.2.1.1; have h2 := HK.out.2.2.1.2.1; unfold maxLen at h2; omega
    have hLv : vs.length ≤ 9223372036854775807 := by omega
    have g1 : (((us.length : Nat) : Int) != (vs.length : Nat)) = false := by simp; omega
    have g2 : (!us.length == vs.length) = false := by simp; omega
    clear h3
    go_wp2
    clear x0 x1 x2 x3 y0 y1 y2 y3
    go_loopg [9] us.length (fun g x wr => ∃ (i li : Nat) (σi : Sg) (ci : Array Value) (ni : Int), i + g = us.length ∧ x = .int .i64 i ∧ Hid (Ok σi ∧ σi.length = σ.length ∧ li ≤ l) ∧ Hid (pairL (pairF k) σ us vs l = pairL (pairF k) σi (us.drop i) (vs.drop i) li) ∧ Hid (Rb S wr p pv c ni σi ci) ∧ Hid (ni = 65536 - (li : Int)) ∧ Hid (Kept (fun b => b = pv ∨ b = p) wc wr))
    case atStart => exact ⟨0, l, σ, cur, np + 1, by omega, rfl, hid ⟨HO.out.1, rfl, Nat.le_refl _⟩, hid rfl, hid (HM.out.wide HS.out.1 HS.out.2), Hn1, hid (Kept.refl _ _)⟩
    case round =>
      obtain ⟨i, li, σi, ci, ni, hi, rfl, hO, hP, hTi, hL, hK⟩ := hrel
      have Hi := hid hi
      have KW := hid (HM.out.kp.then hK.out (U := fun b => b = pv ∨ b = p) (fun _ _ e => .inr e) (fun _ _ e => e))
      have BA := hid (HM.out.ba.kept hK.out (by have := HL.out; omega))
      by_cases hlt : i < us.length
      · have hlt' : (i : Int) < us.length := by omega
        have hltv : i < vs.length := by have := H3.out; omega
        have hltv' : (i : Int) < vs.length := by omega
        have hi0 : (0 : Int) ≤ (i : Int) := by omega
        have hiw : IntKind.i64.wrap ((i : Int) + 1) = i + 1 := IntWalk.i64_in _ (by omega)
        have hSk : ∀ b, (S b ∧ b < w.heap.size) → ¬ (b = pv ∨ b = p) := fun b hb e => by rcases e with rfl | rfl; exact HS.out.2 hb.1; exact HS.out.1 hb.1
        obtain ⟨ad, qa, sa, na, Aa, ma, ca, rfl, hSb, hab, x4, x5, x6, x7, hela⟩ := (HK.out.2.2.1.2.2.kept hK.out hSk).elem hlt
        obtain ⟨ad', qb, sb, nb, Ab, mb, cb, rfl, hSb', hab', y4, y5, y6, y7, helb⟩ := (HK.out.2.2.2.2.2.kept hK.out hSk).elem hltv
        have BB := hid (HM.out.bb.kept hK.out (by have := HL.out; omega))
        have x3 : wr.cell? ⟨w.heap.size, 3, none⟩ = some (.slice (some ad) us.length c1) := BA.out.cell 3
        have y3 : wr.cell? ⟨w.heap.size + 1, 3, none⟩ = some (.slice (some ad') vs.length c2) := BB.out.cell 3
        have hga1 := goodL_mem (goodT_iff.1 HK.out.1).2 _ (List.getElem_mem hlt)
        have hgb1 := goodL_mem (goodT_iff.1 HK.out.2.1).2 _ (List.getElem_mem hltv)
        have hpd := pairL_drop (f := pairF k) (σ := σi) (l := li) hlt hltv
        have hfine := pairF_fine k σi us[i] vs[i] li hO.out.1 (by rw [hO.out.2.1]; exact hga1) (by rw [hO.out.2.1]; exact hgb1)
        have C := hid (HI.out σi ci us[i] vs[i] _ _ li ni wr.drew hL.out (by have h1 := HO.out.2.2.2; have h2 := hO.out.2.2; omega) (by have h2 := hO.out.2.2; omega) (hTi.out.up ((Below.refl _ _).drew)) hO.out.1 (by rw [hO.out.2.1]; exact hga1) (by rw [hO.out.2.1]; exact hgb1) ((hela.mono (fun _ hk _ => hk.1)).up ((Below.refl _ _).drew)) ((helb.mono (fun _ hk _ => hk.1)).up ((Below.refl _ _).drew)) (fun b hb => HN.out b (Nat.le_trans KW.out.size hb)))
        have Hpd := hid hpd
        have HF := hid hfine
        have HAD := hid (And.intro hSb (And.intro hab (And.intro hSb' hab')))
        clear hi hpd hfine hga1 hgb1 hSk hela helb hSb hab hSb' hab'
        generalize pairF k σi us[i] vs[i] li = r at C Hpd HF
        clear hltv
        by_cases hr : r.1 = 0
        case neg =>
          have hd : (r.1 != 0) = true := by simpa using hr
          have Hr := hid hr
          clear hr
          go_wp2
          go_region_held3 (fun w' => w'.cell? ⟨w.heap.size, 3, none⟩ = some (.slice (some ad) us.length c1) ∧ w'.cell? ⟨w.heap.size + 1, 3, none⟩ = some (.slice (some ad') vs.length c2) ∧ w'.cell? (ad.add (i * 4)) = some (.int .i64 qa) ∧ w'.cell? ⟨(ad.add (i * 4)).block, (ad.add (i * 4)).off + 1, none⟩ = some (.string sa) ∧ w'.cell? ⟨(ad.add (i * 4)).block, (ad.add (i * 4)).off + 2, none⟩ = some (.int .i64 na) ∧ w'.cell? ⟨(ad.add (i * 4)).block, (ad.add (i * 4)).off + 3, none⟩ = some (.slice Aa ma ca) ∧ w'.cell? (ad'.add (i * 4)) = some (.int .i64 qb) ∧ w'.cell? ⟨(ad'.add (i * 4)).block, (ad'.add (i * 4)).off + 1, none⟩ = some (.string sb) ∧ w'.cell? ⟨(ad'.add (i * 4)).block, (ad'.add (i * 4)).off + 2, none⟩ = some (.int .i64 nb) ∧ w'.cell? ⟨(ad'.add (i * 4)).block, (ad'.add (i * 4)).off + 3, none⟩ = some (.slice Ab mb cb)) (first | with_reducible exact ⟨x3, y3, x4, x5, x6, x7, y4, y5, y6, y7⟩ | with_reducible exact ⟨X3, Y3, X4, X5, X6, X7, Y4, Y5, Y6, Y7⟩ | go_keep)
            (first | (go_at_call 37; go_must (refine C.out.mono ?_); rintro e w4 ⟨rfl, hb1, hb3⟩; go_must (have X3 : w4.cell? ⟨w.heap.size, 3, none⟩ = _ := (BA.out.drew.kept hb3 (by have := HL.out; omega)).cell 3; have Y3 : w4.cell? ⟨w.heap.size + 1, 3, none⟩ = _ := (BB.out.drew.kept hb3 (by have := HL.out; omega)).cell 3; have hA9 : ¬ (ad.block = pv ∨ ad.block = p) := (fun e => by rcases e with e | e; exact HS.out.2 (by rw [← e]; exact HAD.out.1.1); exact HS.out.1 (by rw [← e]; exact HAD.out.1.1)); have hB9 : ¬ (ad'.block = pv ∨ ad'.block = p) := (fun e => by rcases e with e | e; exact HS.out.2 (by rw [← e]; exact HAD.out.2.2.1.1); exact HS.out.1 (by rw [← e]; exact HAD.out.2.2.1.1)); have X4 : w4.cell? (ad.add (i * 4)) = _ := (kept_cell hb3 (a := (ad.add (i * 4))) (by rw [HAD.out.2.1]; exact hA9) (by exact cell_lt x4)).trans x4; have X5 : w4.cell? ⟨(ad.add (i * 4)).block, (ad.add (i * 4)).off + 1, none⟩ = _ := (kept_cell hb3 (a := ⟨(ad.add (i * 4)).block, (ad.add (i * 4)).off + 1, none⟩) (by rw [HAD.out.2.1]; exact hA9) (by exact cell_lt x5)).trans x5; have X6 : w4.cell? ⟨(ad.add (i * 4)).block, (ad.add (i * 4)).off + 2, none⟩ = _ := (kept_cell hb3 (a := ⟨(ad.add (i * 4)).block, (ad.add (i * 4)).off + 2, none⟩) (by rw [HAD.out.2.1]; exact hA9) (by exact cell_lt x6)).trans x6; have X7 : w4.cell? ⟨(ad.add (i * 4)).block, (ad.add (i * 4)).off + 3, none⟩ = _ := (kept_cell hb3 (a := ⟨(ad.add (i * 4)).block, (ad.add (i * 4)).off + 3, none⟩) (by rw [HAD.out.2.1]; exact hA9) (by exact cell_lt x7)).trans x7; have Y4 : w4.cell? (ad'.add (i * 4)) = _ := (kept_cell hb3 (a := (ad'.add (i * 4))) (by rw [HAD.out.2.2.2]; exact hB9) (by exact cell_lt y4)).trans y4; have Y5 : w4.cell? ⟨(ad'.add (i * 4)).block, (ad'.add (i * 4)).off + 1, none⟩ = _ := (kept_cell hb3 (a := ⟨(ad'.add (i * 4)).block, (ad'.add (i * 4)).off + 1, none⟩) (by rw [HAD.out.2.2.2]; exact hB9) (by exact cell_lt y5)).trans y5; have Y6 : w4.cell? ⟨(ad'.add (i * 4)).block, (ad'.add (i * 4)).off + 2, none⟩ = _ := (kept_cell hb3 (a := ⟨(ad'.add (i * 4)).block, (ad'.add (i * 4)).off + 2, none⟩) (by rw [HAD.out.2.2.2]; exact hB9) (by exact cell_lt y6)).trans y6; have Y7 : w4.cell? ⟨(ad'.add (i * 4)).block, (ad'.add (i * 4)).off + 3, none⟩ = _ := (kept_cell hb3 (a := ⟨(ad'.add (i * 4)).block, (ad'.add (i * 4)).off + 3, none⟩) (by rw [HAD.out.2.2.2]; exact hB9) (by exact cell_lt y7)).trans y7; have HB4 := hid (And.intro hb1 (Kept.hop hb3 (Kept.drew (Kept.refl _ wr)))); clear hb1 hb3)))
          go_wp2
          go_ret
          have e9 : R = r := by rw [hR.out, hP.out, Hpd.out, if_neg Hr.out]
          rw [e9]
          exact ⟨rfl, HB4.out.1, HB4.out.2.hop KW.out⟩
        case pos =>
          have hd : (r.1 != 0) = false := by simpa using hr
          have Hr := hid hr
          clear hr
          go_wp2
          go_region_held3 (fun w' => w'.cell? ⟨w.heap.size, 3, none⟩ = some (.slice (some ad) us.length c1) ∧ w'.cell? ⟨w.heap.size + 1, 3, none⟩ = some (.slice (some ad') vs.length c2) ∧ w'.cell? (ad.add (i * 4)) = some (.int .i64 qa) ∧ w'.cell? ⟨(ad.add (i * 4)).block, (ad.add (i * 4)).off + 1, none⟩ = some (.string sa) ∧ w'.cell? ⟨(ad.add (i * 4)).block, (ad.add (i * 4)).off + 2, none⟩ = some (.int .i64 na) ∧ w'.cell? ⟨(ad.add (i * 4)).block, (ad.add (i * 4)).off + 3, none⟩ = some (.slice Aa ma ca) ∧ w'.cell? (ad'.add (i * 4)) = some (.int .i64 qb) ∧ w'.cell? ⟨(ad'.add (i * 4)).block, (ad'.add (i * 4)).off + 1, none⟩ = some (.string sb) ∧ w'.cell? ⟨(ad'.add (i * 4)).block, (ad'.add (i * 4)).off + 2, none⟩ = some (.int .i64 nb) ∧ w'.cell? ⟨(ad'.add (i * 4)).block, (ad'.add (i * 4)).off + 3, none⟩ = some (.slice Ab mb cb)) (first | with_reducible exact ⟨x3, y3, x4, x5, x6, x7, y4, y5, y6, y7⟩ | with_reducible exact ⟨X3, Y3, X4, X5, X6, X7, Y4, Y5, Y6, Y7⟩ | go_keep)
            (first | (go_at_call 37; go_must (refine C.out.mono ?_); rintro e w4 ⟨rfl, hb1, hb3⟩; go_must (have X3 : w4.cell? ⟨w.heap.size, 3, none⟩ = _ := (BA.out.drew.kept hb3 (by have := HL.out; omega)).cell 3; have Y3 : w4.cell? ⟨w.heap.size + 1, 3, none⟩ = _ := (BB.out.drew.kept hb3 (by have := HL.out; omega)).cell 3; have hA9 : ¬ (ad.block = pv ∨ ad.block = p) := (fun e => by rcases e with e | e; exact HS.out.2 (by rw [← e]; exact HAD.out.1.1); exact HS.out.1 (by rw [← e]; exact HAD.out.1.1)); have hB9 : ¬ (ad'.block = pv ∨ ad'.block = p) := (fun e => by rcases e with e | e; exact HS.out.2 (by rw [← e]; exact HAD.out.2.2.1.1); exact HS.out.1 (by rw [← e]; exact HAD.out.2.2.1.1)); have X4 : w4.cell? (ad.add (i * 4)) = _ := (kept_cell hb3 (a := (ad.add (i * 4))) (by rw [HAD.out.2.1]; exact hA9) (by exact cell_lt x4)).trans x4; have X5 : w4.cell? ⟨(ad.add (i * 4)).block, (ad.add (i * 4)).off + 1, none⟩ = _ := (kept_cell hb3 (a := ⟨(ad.add (i * 4)).block, (ad.add (i * 4)).off + 1, none⟩) (by rw [HAD.out.2.1]; exact hA9) (by exact cell_lt x5)).trans x5; have X6 : w4.cell? ⟨(ad.add (i * 4)).block, (ad.add (i * 4)).off + 2, none⟩ = _ := (kept_cell hb3 (a := ⟨(ad.add (i * 4)).block, (ad.add (i * 4)).off + 2, none⟩) (by rw [HAD.out.2.1]; exact hA9) (by exact cell_lt x6)).trans x6; have X7 : w4.cell? ⟨(ad.add (i * 4)).block, (ad.add (i * 4)).off + 3, none⟩ = _ := (kept_cell hb3 (a := ⟨(ad.add (i * 4)).block, (ad.add (i * 4)).off + 3, none⟩) (by rw [HAD.out.2.1]; exact hA9) (by exact cell_lt x7)).trans x7; have Y4 : w4.cell? (ad'.add (i * 4)) = _ := (kept_cell hb3 (a := (ad'.add (i * 4))) (by rw [HAD.out.2.2.2]; exact hB9) (by exact cell_lt y4)).trans y4; have Y5 : w4.cell? ⟨(ad'.add (i * 4)).block, (ad'.add (i * 4)).off + 1, none⟩ = _ := (kept_cell hb3 (a := ⟨(ad'.add (i * 4)).block, (ad'.add (i * 4)).off + 1, none⟩) (by rw [HAD.out.2.2.2]; exact hB9) (by exact cell_lt y5)).trans y5; have Y6 : w4.cell? ⟨(ad'.add (i * 4)).block, (ad'.add (i * 4)).off + 2, none⟩ = _ := (kept_cell hb3 (a := ⟨(ad'.add (i * 4)).block, (ad'.add (i * 4)).off + 2, none⟩) (by rw [HAD.out.2.2.2]; exact hB9) (by exact cell_lt y6)).trans y6; have Y7 : w4.cell? ⟨(ad'.add (i * 4)).block, (ad'.add (i * 4)).off + 3, none⟩ = _ := (kept_cell hb3 (a := ⟨(ad'.add (i * 4)).block, (ad'.add (i * 4)).off + 3, none⟩) (by rw [HAD.out.2.2.2]; exact hB9) (by exact cell_lt y7)).trans y7; have HB4 := hid (And.intro hb1 (Kept.hop hb3 (Kept.drew (Kept.refl _ wr)))); clear hb1 hb3)))
          go_wp2
          obtain ⟨cn, nn, hTn, hnn⟩ := HB4.out.1
          have hgk := Hi.out
          go_roundg (gk - 1)
          case rel => exact ⟨i + 1, r.2.2, r.2.1, cn, nn, by omega, rfl, hid ⟨HF.out.ok, HF.out.len.trans hO.out.2.1, Nat.le_trans HF.out.left hO.out.2.2⟩, hid (by rw [hP.out, Hpd.out, if_pos Hr.out]), hid hTn, hid (hnn Hr.out), hid (HB4.out.2.hop hK.out)⟩
          case measure => omega
      · obtain rfl : i = us.length := by omega
        have x3 : wr.cell? ⟨w.heap.size, 3, none⟩ = some (.slice A1 us.length c1) := BA.out.cell 3
        clear hi
        go_wp2
        go_ret
        have e9 : R = (0, σi, li) := by rw [hR.out, hP.out, List.drop_length, pairL]; simp
        rw [e9]
        exact ⟨rfl, ⟨ci, ni, hTi.out, fun _ => hL.out⟩, KW.out⟩
theorem ref15_pair (S : Nat → Prop) (p pv c : Nat) : ∀ k, RPairC S p pv c k
  | 0 => fun σ cur a b va vb l np w _ hl => by omega
  | k + 1 => pair_node S p pv c k (ref15_pair S p pv c k)
end Go.Proofs.Ytnlifgcnmhakiaa
