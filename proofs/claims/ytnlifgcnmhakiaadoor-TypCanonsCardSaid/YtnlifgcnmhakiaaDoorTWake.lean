/-
  THE WALK OF athanorlaw15.wakes.
-/
import Derived.Test.YtnlifgcnmhakiaaDoorTWakeP
import Derived.Test.YtnlifgcnmhakiaaDoorTFresh
import Derived.Test.YtnlifgcnmhakiaaDoorTSameG
namespace Go.Proofs.YtnlifgcnmhakiaaDoor
open Go.ChangeShapes Go.WideShapes Go.ChangeAt Go.RowKit

theorem Blk.row2 {w : World} {g : Nat} {S : Nat → Prop} {t u : Ty} {v0 v1 v2 v3 u0 u1 u2 u3 : Value} (h : Blk w g 24 #[v0, v1, v2, v3, u0, u1, u2, u3]) (hS : S g) (hv : TAt w S t (.agg #[v0, v1, v2, v3])) (hu : TAt w S u (.agg #[u0, u1, u2, u3])) : TRow w S [t, u] (some ⟨g, 0, none⟩) 0 := by
  rw [TRow, TRow, TRow]
  refine ⟨⟨_, v0, v1, v2, v3, rfl, hS, h.cell 0, h.cell 1, h.cell 2, h.cell 3, hv⟩, ⟨_, u0, u1, u2, u3, rfl, hS, h.cell 4, h.cell 5, h.cell 6, h.cell 7, hu⟩, trivial⟩
/-- What a builder of types tells. -/
def MadeP (S : Nat → Prop) (t : Ty) (w : World) (e : Ending) (w' : World) : Prop := (∃ v, e = .returned v ∧ TAt w' S t v) ∧ Below w.heap.size w w'
set_option maxHeartbeats 4000000 in
set_option maxRecDepth 100000 in
theorem law15_fun (a b : Ty) (va vb : Value) (S : Nat → Prop) (w : World) (ha : TAt w S a va) (hb : TAt w S b vb) (hS : ∀ b, w.heap.size ≤ b → S b) : Calls Tryd.prog 20 #[va, vb] w (MadeP S (funT a b) w) := by
  have HA := hid ha
  have HB := hid hb
  obtain ⟨q, s, m, A, m9, c9, rfl⟩ := ha.agg
  obtain ⟨q', s', m', A', m8, c8, rfl⟩ := hb.agg
  have HS := hid hS
  clear ha hb hS
  go_enter Tryd.func20, Tryd.ntmps20
  go_wp2
  refine ret_type rfl (by rfl) ((Blk.new' (by simp) _ _).alloc _) rfl ⟨⟨_, rfl, TAt.make (us := [a, b]) rfl (by simp) (by unfold maxLen; simp) (by simp) (Blk.row2 (Blk.new' (by simp) _ _) (HS.out _ (by first | omega | (simp; done) | (simp; omega))) (HA.out.up (by go_grown : Below w.heap.size w _)) (HB.out.up (by go_grown : Below w.heap.size w _))) rfl rfl⟩, (by go_grown : Below w.heap.size w _)⟩
set_option maxHeartbeats 4000000 in
set_option maxRecDepth 100000 in
theorem law15_list (a : Ty) (va : Value) (S : Nat → Prop) (w : World) (ha : TAt w S a va) (hS : ∀ b, w.heap.size ≤ b → S b) : Calls Tryd.prog 21 #[va] w (MadeP S (listT a) w) := by
  have HA := hid ha
  obtain ⟨q, s, m, A, m9, c9, rfl⟩ := ha.agg
  have HS := hid hS
  clear ha hS
  go_enter Tryd.func21, Tryd.ntmps21
  go_wp2
  refine ret_type rfl (by rfl) ((Blk.new' (by simp) _ _).alloc _) rfl ⟨⟨_, rfl, TAt.make (us := [a]) rfl (by simp) (by unfold maxLen; simp) (by simp) (Blk.row1 (Blk.new' (by simp) _ _) (HS.out _ (by first | omega | (simp; done) | (simp; omega))) (HA.out.up (by go_grown : Below w.heap.size w _))) rfl rfl⟩, (by go_grown : Below w.heap.size w _)⟩
theorem at_V1 (w : World) (S : Nat → Prop) : TAt w S V1 (.agg #[.int .i64 2, .string ⟨#[]⟩, .int .i64 1, .slice none 0 0]) := TAt.make rfl (Nat.le_refl _) (Nat.zero_le _) (fun _ => ⟨rfl, rfl⟩) (by rw [TRow]; trivial) rfl rfl
theorem at_V2 (w : World) (S : Nat → Prop) : TAt w S V2 (.agg #[.int .i64 2, .string ⟨#[]⟩, .int .i64 2, .slice none 0 0]) := TAt.make rfl (Nat.le_refl _) (Nat.zero_le _) (fun _ => ⟨rfl, rfl⟩) (by rw [TRow]; trivial) rfl rfl
theorem at_Int (w : World) (S : Nat → Prop) : TAt w S IntT (.agg #[.int .i64 1, .string ⟨#[]⟩, .int .i64 0, .slice none 0 0]) := TAt.make rfl (Nat.le_refl _) (Nat.zero_le _) (fun _ => ⟨rfl, rfl⟩) (by rw [TRow]; trivial) rfl rfl
theorem fresh1 (p B : Nat) (v : Value) (w : World) (h : Fr w p B 0 v) (hB : B ≤ w.heap.size) : Calls Tryd.prog 19 #[.pointer (some ⟨p, 0, none⟩)] w fun e w' =>
    e = .returned (.agg #[.int .i64 2, .string ⟨#[]⟩, .int .i64 1, .slice none 0 0]) ∧ (∃ v', Fr w' p B 1 v' ∧ (∀ g, v'.ownBlock = some g → v.ownBlock = some g ∨ w.heap.size ≤ g)) ∧ Kept (fun b => b = p ∨ v.ownBlock = some b) w w' := (typ_Fresh p B 0 v w h (by omega) hB).mono fun _ _ h => h
theorem fresh2 (p B : Nat) (v : Value) (w : World) (h : Fr w p B 1 v) (hB : B ≤ w.heap.size) : Calls Tryd.prog 19 #[.pointer (some ⟨p, 0, none⟩)] w fun e w' =>
    e = .returned (.agg #[.int .i64 2, .string ⟨#[]⟩, .int .i64 2, .slice none 0 0]) ∧ (∃ v', Fr w' p B 2 v' ∧ (∀ g, v'.ownBlock = some g → v.ownBlock = some g ∨ w.heap.size ≤ g)) ∧ Kept (fun b => b = p ∨ v.ownBlock = some b) w w' := (typ_Fresh p B 1 v w h (by omega) hB).mono fun _ _ h => h
/-- What stands within wakes. -/
structure WkM (F : Nat → Prop) (p pv c : Nat) (σ : Sg) (cur : Array Value) (n : Nat) (w wx : World) (g : Nat) : Prop where
  tab : Tb F wx p pv c σ cur
  xa : Blk wx g 24 #[.int .i64 2, .string ⟨#[]⟩, .int .i64 1, .slice none 0 0]
  xb : Blk wx (g + 1) 24 #[.int .i64 2, .string ⟨#[]⟩, .int .i64 2, .slice none 0 0]
  new_ : ∀ b, wx.heap.size ≤ b → F b
  bw : Below n w wx
  nw : n ≤ wx.heap.size
  gv : g ≠ pv ∧ g + 1 ≠ pv
  pn : n ≤ pv
theorem WkM.up {F : Nat → Prop} {p pv c : Nat} {σ : Sg} {cur : Array Value} {n : Nat} {w wx wy : World} {g : Nat} (h : WkM F p pv c σ cur n w wx g) (hb : Below wx.heap.size wx wy) : WkM F p pv c σ cur n w wy g :=
  ⟨h.tab.up hb, h.xa.below hb h.xa.lt, h.xb.below hb h.xb.lt, fun b k => h.new_ b (Nat.le_trans hb.size k), h.bw.trans (hb.mono h.nw), Nat.le_trans h.nw hb.size, h.gv, h.pn⟩
theorem WkM.turn {F : Nat → Prop} {p pv c : Nat} {σ σ' : Sg} {cur cur' : Array Value} {n : Nat} {w wx wy : World} {g : Nat} (h : WkM F p pv c σ cur n w wx g) (ht : Tb F wy p pv c σ' cur') (hk : Kept (fun b => b = pv) wx wy) : WkM F p pv c σ' cur' n w wy g :=
  ⟨ht, h.xa.kept (S := fun b => b = pv) hk h.gv.1, h.xb.kept (S := fun b => b = pv) hk h.gv.2, fun b k => h.new_ b (Nat.le_trans hk.size k), h.bw.trans (hk.below h.nw (fun b e => by have := h.pn; omega)), Nat.le_trans h.nw hk.size, h.gv, h.pn⟩
set_option maxHeartbeats 8000000 in
set_option maxRecDepth 100000 in
theorem law15_wakes (w : World) : Calls Tryd.prog 6 #[] w fun e w' => e = .returned (.bool true) ∧ Below w.heap.size w w' := by
  have hok0 := Ok.none_ 2
  have HOK := hid (show Ok s0 from hok0)
  clear hok0
  go_enter Tryd.func6, Tryd.ntmps6
  go_wp2_with (first
    | (go_at_call 18; go_must (refine (typ_New _).mono ?_); rintro e w1 ⟨rfl, rfl⟩)
    | (go_at_call 19; (with_reducible refine (fresh1 w.heap.size w.heap.size _ (w.alloc _) (Fr.new w _) (by simp)).mono ?_); rintro e w1 ⟨rfl, ⟨v1, F1, hn1⟩, K1⟩; go_must (have H1 := hid (And.intro F1 (And.intro hn1 (K1.below (n := w.heap.size) (by simp) (fun b hb => by rcases hb with rfl | hb; omega; cases hb)))); clear F1 hn1 K1))
    | (go_at_call 19; (with_reducible refine (fresh2 w.heap.size w.heap.size v1 w1 H1.out.1 (by have := H1.out.2.2.size; simp at this; omega)).mono ?_); rintro e w2 ⟨rfl, ⟨v2, F2, hn2⟩, K2⟩; go_must (have H2 := hid (And.intro F2 (And.intro hn2 (K2.below (n := w.heap.size) (by have := H1.out.2.2.size; simp at this; omega) (fun b hb => by rcases hb with rfl | hb; omega; exact (H1.out.1.row.lt b hb).1)))); clear F2 hn2 K2)))
  have hw2 : Below w.heap.size w w2 := (((Below.refl w.heap.size w).alloc (Nat.le_refl _) _).trans H1.out.2.2).trans H2.out.2.2
  have hw2s : w.heap.size < w2.heap.size := H2.out.1.blk.lt
  obtain ⟨F, pv, c, cur, hB, T0, hF, hg⟩ : ∃ (F : Nat → Prop) (pv c : Nat) (cur : Array Value), w.heap.size ≤ pv ∧ Tb F w2 w.heap.size pv c s0 cur ∧ (∀ b, w2.heap.size ≤ b → F b) ∧ pv < w2.heap.size := by
    obtain ⟨pv, c, cur, hv, hB, T⟩ := H2.out.1.table (by omega) (by omega) (fun b => b ≠ w.heap.size ∧ v2.ownBlock ≠ some b) (fun e => e.1 rfl) (fun g hg e => e.2 hg)
    exact ⟨_, pv, c, cur, hB, T, fun b hb => ⟨by omega, fun e => by have := H2.out.1.row.lt b e; omega⟩, T.row.lt⟩
  have M := hid (WkM.mk (g := w2.heap.size) ((T0.up (below_2 (Below.refl _ _) (.cells #[.int .i64 2, .string ⟨#[]⟩, .int .i64 1, .slice none 0 0] 24) (.cells #[.int .i64 2, .string ⟨#[]⟩, .int .i64 2, .slice none 0 0] 24)))) ((Blk.new w2 24 #[.int .i64 2, .string ⟨#[]⟩, .int .i64 1, .slice none 0 0]).alloc _) (Blk.new' (by simp) _ _) (fun b hb => hF b (by simp at hb; omega)) ((hw2.alloc (by omega) _).alloc (by simp; omega) _) (by simp; omega) (by omega) hB)
  clear H1 H2 hw2 T0 hF hg hB
  revert M
  generalize ((w2.alloc (.cells #[.int .i64 2, .string ⟨#[]⟩, .int .i64 1, .slice none 0 0] 24)).alloc (.cells #[.int .i64 2, .string ⟨#[]⟩, .int .i64 2, .slice none 0 0] 24)) = w3
  intro M
  have Hw2 := hid hw2s
  clear hw2s
  go_cut [4] (fun s4 wx => s4 = .int .i64 0 ∧ ∃ cur, Hid (WkM F w.heap.size pv c s2 cur w.heap.size w wx w2.heap.size))
  case first =>
    have M9 := hid (M.out.up ((Below.refl _ _).drew))
    clear M
    have M := M9
    clear M9
    have x0 : (w3.drew).cell? ⟨w2.heap.size, 0, none⟩ = some (.int .i64 2) := (M.out).xa.cell 0; have x1 : (w3.drew).cell? ⟨w2.heap.size, 1, none⟩ = some (.string ⟨#[]⟩) := (M.out).xa.cell 1; have x2 : (w3.drew).cell? ⟨w2.heap.size, 2, none⟩ = some (.int .i64 1) := (M.out).xa.cell 2; have x3 : (w3.drew).cell? ⟨w2.heap.size, 3, none⟩ = some (.slice none 0 0) := (M.out).xa.cell 3; have y0 : (w3.drew).cell? ⟨w2.heap.size + 1, 0, none⟩ = some (.int .i64 2) := (M.out).xb.cell 0; have y1 : (w3.drew).cell? ⟨w2.heap.size + 1, 1, none⟩ = some (.string ⟨#[]⟩) := (M.out).xb.cell 1; have y2 : (w3.drew).cell? ⟨w2.heap.size + 1, 2, none⟩ = some (.int .i64 2) := (M.out).xb.cell 2; have y3 : (w3.drew).cell? ⟨w2.heap.size + 1, 3, none⟩ = some (.slice none 0 0) := (M.out).xb.cell 3
    go_region_held3 (fun w' => w'.cell? ⟨w2.heap.size, 0, none⟩ = some (.int .i64 2) ∧ w'.cell? ⟨w2.heap.size, 1, none⟩ = some (.string ⟨#[]⟩) ∧ w'.cell? ⟨w2.heap.size, 2, none⟩ = some (.int .i64 1) ∧ w'.cell? ⟨w2.heap.size, 3, none⟩ = some (.slice none 0 0) ∧ w'.cell? ⟨w2.heap.size + 1, 0, none⟩ = some (.int .i64 2) ∧ w'.cell? ⟨w2.heap.size + 1, 1, none⟩ = some (.string ⟨#[]⟩) ∧ w'.cell? ⟨w2.heap.size + 1, 2, none⟩ = some (.int .i64 2) ∧ w'.cell? ⟨w2.heap.size + 1, 3, none⟩ = some (.slice none 0 0)) (first | with_reducible exact ⟨x0, x1, x2, x3, y0, y1, y2, y3⟩ | assumption | go_keep)
      (first
        | (go_at_call 20; (with_reducible refine (law15_fun V1 IntT _ _ F _ (at_V1 _ _) (at_Int _ _) M.out.new_).mono ?_); rintro e u1 ⟨⟨v, rfl, hv⟩, b1⟩; obtain ⟨q9, s9, k9, A9, m9, c9, rfl⟩ := hv.agg; have M9 := hid (M.out.up b1); clear M; have M := M9; clear M9; (try (have h9 := hid (TL.out.up b1); clear TL; have TL := h9; clear h9)); (try (have h9 := hid (T1.out.up b1); clear T1; have T1 := h9; clear h9)); (try (have h9 := hid (T2.out.up b1); clear T2; have T2 := h9; clear h9)); have x0 : (u1).cell? ⟨w2.heap.size, 0, none⟩ = some (.int .i64 2) := (M.out).xa.cell 0; have x1 : (u1).cell? ⟨w2.heap.size, 1, none⟩ = some (.string ⟨#[]⟩) := (M.out).xa.cell 1; have x2 : (u1).cell? ⟨w2.heap.size, 2, none⟩ = some (.int .i64 1) := (M.out).xa.cell 2; have x3 : (u1).cell? ⟨w2.heap.size, 3, none⟩ = some (.slice none 0 0) := (M.out).xa.cell 3; have y0 : (u1).cell? ⟨w2.heap.size + 1, 0, none⟩ = some (.int .i64 2) := (M.out).xb.cell 0; have y1 : (u1).cell? ⟨w2.heap.size + 1, 1, none⟩ = some (.string ⟨#[]⟩) := (M.out).xb.cell 1; have y2 : (u1).cell? ⟨w2.heap.size + 1, 2, none⟩ = some (.int .i64 2) := (M.out).xb.cell 2; have y3 : (u1).cell? ⟨w2.heap.size + 1, 3, none⟩ = some (.slice none 0 0) := (M.out).xb.cell 3; clear b1; have T1 := hid hv; clear hv)
        | (go_at_call 21; (with_reducible refine (law15_list V2 _ F _ (at_V2 _ _) M.out.new_).mono ?_); rintro e u2 ⟨⟨v, rfl, hv⟩, b1⟩; obtain ⟨q8, s8, k8, A8, m8, c8, rfl⟩ := hv.agg; have M9 := hid (M.out.up b1); clear M; have M := M9; clear M9; (try (have h9 := hid (TL.out.up b1); clear TL; have TL := h9; clear h9)); (try (have h9 := hid (T1.out.up b1); clear T1; have T1 := h9; clear h9)); (try (have h9 := hid (T2.out.up b1); clear T2; have T2 := h9; clear h9)); have x0 : (u2).cell? ⟨w2.heap.size, 0, none⟩ = some (.int .i64 2) := (M.out).xa.cell 0; have x1 : (u2).cell? ⟨w2.heap.size, 1, none⟩ = some (.string ⟨#[]⟩) := (M.out).xa.cell 1; have x2 : (u2).cell? ⟨w2.heap.size, 2, none⟩ = some (.int .i64 1) := (M.out).xa.cell 2; have x3 : (u2).cell? ⟨w2.heap.size, 3, none⟩ = some (.slice none 0 0) := (M.out).xa.cell 3; have y0 : (u2).cell? ⟨w2.heap.size + 1, 0, none⟩ = some (.int .i64 2) := (M.out).xb.cell 0; have y1 : (u2).cell? ⟨w2.heap.size + 1, 1, none⟩ = some (.string ⟨#[]⟩) := (M.out).xb.cell 1; have y2 : (u2).cell? ⟨w2.heap.size + 1, 2, none⟩ = some (.int .i64 2) := (M.out).xb.cell 2; have y3 : (u2).cell? ⟨w2.heap.size + 1, 3, none⟩ = some (.slice none 0 0) := (M.out).xb.cell 3; clear b1; have TL := hid hv; clear hv)
        | (go_at_call 20; (with_reducible refine (law15_fun (listT V2) V2 _ _ F _ TL.out (at_V2 _ _) M.out.new_).mono ?_); rintro e u3 ⟨⟨v, rfl, hv⟩, b1⟩; obtain ⟨q7, s7, k7, A7, m7, c7, rfl⟩ := hv.agg; have M9 := hid (M.out.up b1); clear M; have M := M9; clear M9; (try (have h9 := hid (TL.out.up b1); clear TL; have TL := h9; clear h9)); (try (have h9 := hid (T1.out.up b1); clear T1; have T1 := h9; clear h9)); (try (have h9 := hid (T2.out.up b1); clear T2; have T2 := h9; clear h9)); have x0 : (u3).cell? ⟨w2.heap.size, 0, none⟩ = some (.int .i64 2) := (M.out).xa.cell 0; have x1 : (u3).cell? ⟨w2.heap.size, 1, none⟩ = some (.string ⟨#[]⟩) := (M.out).xa.cell 1; have x2 : (u3).cell? ⟨w2.heap.size, 2, none⟩ = some (.int .i64 1) := (M.out).xa.cell 2; have x3 : (u3).cell? ⟨w2.heap.size, 3, none⟩ = some (.slice none 0 0) := (M.out).xa.cell 3; have y0 : (u3).cell? ⟨w2.heap.size + 1, 0, none⟩ = some (.int .i64 2) := (M.out).xb.cell 0; have y1 : (u3).cell? ⟨w2.heap.size + 1, 1, none⟩ = some (.string ⟨#[]⟩) := (M.out).xb.cell 1; have y2 : (u3).cell? ⟨w2.heap.size + 1, 2, none⟩ = some (.int .i64 2) := (M.out).xb.cell 2; have y3 : (u3).cell? ⟨w2.heap.size + 1, 3, none⟩ = some (.slice none 0 0) := (M.out).xb.cell 3; clear b1; have T2 := hid hv; clear hv)
        | (go_at_call 15; (with_reducible refine (typ_Unify F w.heap.size pv c s0 cur (funT V1 IntT) (funT (listT V2) V2) _ _ _ M.out.tab HOK.out T1.out T2.out M.out.new_).mono ?_); rw [wakes_unify]; rintro e u4 ⟨rfl, ⟨cur2, hb1⟩, hb2⟩; have M9 := hid (M.out.turn hb1 hb2); clear M; have M := M9; clear M9; have x0 : (u4).cell? ⟨w2.heap.size, 0, none⟩ = some (.int .i64 2) := (M.out).xa.cell 0; have x1 : (u4).cell? ⟨w2.heap.size, 1, none⟩ = some (.string ⟨#[]⟩) := (M.out).xa.cell 1; have x2 : (u4).cell? ⟨w2.heap.size, 2, none⟩ = some (.int .i64 1) := (M.out).xa.cell 2; have x3 : (u4).cell? ⟨w2.heap.size, 3, none⟩ = some (.slice none 0 0) := (M.out).xa.cell 3; have y0 : (u4).cell? ⟨w2.heap.size + 1, 0, none⟩ = some (.int .i64 2) := (M.out).xb.cell 0; have y1 : (u4).cell? ⟨w2.heap.size + 1, 1, none⟩ = some (.string ⟨#[]⟩) := (M.out).xb.cell 1; have y2 : (u4).cell? ⟨w2.heap.size + 1, 2, none⟩ = some (.int .i64 2) := (M.out).xb.cell 2; have y3 : (u4).cell? ⟨w2.heap.size + 1, 3, none⟩ = some (.slice none 0 0) := (M.out).xb.cell 3; clear hb1 hb2))
    all_goals
      go_wp2_with fail
      go_meet
      exact ⟨rfl, _, M⟩
  case rest =>
    clear M
    obtain ⟨rfl, cur2, M⟩ := hcut
    have x0 : (wc).cell? ⟨w2.heap.size, 0, none⟩ = some (.int .i64 2) := (M.out).xa.cell 0; have x1 : (wc).cell? ⟨w2.heap.size, 1, none⟩ = some (.string ⟨#[]⟩) := (M.out).xa.cell 1; have x2 : (wc).cell? ⟨w2.heap.size, 2, none⟩ = some (.int .i64 1) := (M.out).xa.cell 2; have x3 : (wc).cell? ⟨w2.heap.size, 3, none⟩ = some (.slice none 0 0) := (M.out).xa.cell 3; have y0 : (wc).cell? ⟨w2.heap.size + 1, 0, none⟩ = some (.int .i64 2) := (M.out).xb.cell 0; have y1 : (wc).cell? ⟨w2.heap.size + 1, 1, none⟩ = some (.string ⟨#[]⟩) := (M.out).xb.cell 1; have y2 : (wc).cell? ⟨w2.heap.size + 1, 2, none⟩ = some (.int .i64 2) := (M.out).xb.cell 2; have y3 : (wc).cell? ⟨w2.heap.size + 1, 3, none⟩ = some (.slice none 0 0) := (M.out).xb.cell 3
    have HOK2 := hid wakes_ok
    go_wp2_with (first
      | (go_at_call 16; go_must (refine (typ_Apply F w.heap.size pv c s2 cur2 V1 _ _ M.out.tab HOK2.out (at_V1 _ _)).mono ?_); rw [wakes_apply]; rintro e u1 ⟨⟨v, rfl, hv⟩, b1⟩; go_must (obtain ⟨q9, s9, k9, A9, m9, c9, rfl⟩ := hv.agg; have M9 := hid (M.out.up b1); clear M; have M := M9; clear M9; (try (have h9 := hid (TL.out.up b1); clear TL; have TL := h9; clear h9)); (try (have h9 := hid (T1.out.up b1); clear T1; have T1 := h9; clear h9)); (try (have h9 := hid (T2.out.up b1); clear T2; have T2 := h9; clear h9)); have x0 : (u1).cell? ⟨w2.heap.size, 0, none⟩ = some (.int .i64 2) := (M.out).xa.cell 0; have x1 : (u1).cell? ⟨w2.heap.size, 1, none⟩ = some (.string ⟨#[]⟩) := (M.out).xa.cell 1; have x2 : (u1).cell? ⟨w2.heap.size, 2, none⟩ = some (.int .i64 1) := (M.out).xa.cell 2; have x3 : (u1).cell? ⟨w2.heap.size, 3, none⟩ = some (.slice none 0 0) := (M.out).xa.cell 3; have y0 : (u1).cell? ⟨w2.heap.size + 1, 0, none⟩ = some (.int .i64 2) := (M.out).xb.cell 0; have y1 : (u1).cell? ⟨w2.heap.size + 1, 1, none⟩ = some (.string ⟨#[]⟩) := (M.out).xb.cell 1; have y2 : (u1).cell? ⟨w2.heap.size + 1, 2, none⟩ = some (.int .i64 2) := (M.out).xb.cell 2; have y3 : (u1).cell? ⟨w2.heap.size + 1, 3, none⟩ = some (.slice none 0 0) := (M.out).xb.cell 3; clear b1; have TR := hid hv; clear hv)))
    obtain ⟨R, hR⟩ : ∃ R, R = unifyF s2 V1 (listT V1) := ⟨_, rfl⟩
    have hR1 : R.1 = 150 := by obtain ⟨σ, h⟩ := wakes_no; rw [hR, h]
    have hR2 : R.2.length = 2 := by rw [hR]; exact (unifyF_fine HOK2.out V1 (listT V1)).2
    obtain ⟨r1, r2⟩ := R
    obtain rfl : r1 = 150 := hR1
    have HR := hid (And.intro hR hR2)
    clear hR hR2
    have XR := hid ((Blk.new u1 24 #[.int .i64 q9, .string s9, .int .i64 k9, .slice A9 m9 c9]).drew)
    have b1 : Below u1.heap.size u1 ((u1.alloc (.cells #[.int .i64 q9, .string s9, .int .i64 k9, .slice A9 m9 c9] 24)).drew) := ((Below.refl _ _).alloc (Nat.le_refl _) _).drew
    have hpv := hid (show u1.heap.size ≠ pv by have := M.out.tab.row.lt; omega)
    have M9 := hid (M.out.up b1)
    clear M
    have M := M9
    clear M9
    have TR9 := hid ((TR.out.up b1).all)
    clear TR
    have TR := TR9
    clear TR9 b1 x0 x1 x2 x3 y0 y1 y2 y3
    have x0 : ((u1.alloc (.cells #[.int .i64 q9, .string s9, .int .i64 k9, .slice A9 m9 c9] 24)).drew).cell? ⟨w2.heap.size, 0, none⟩ = some (.int .i64 2) := M.out.xa.cell 0; have x1 : ((u1.alloc (.cells #[.int .i64 q9, .string s9, .int .i64 k9, .slice A9 m9 c9] 24)).drew).cell? ⟨w2.heap.size, 1, none⟩ = some (.string ⟨#[]⟩) := M.out.xa.cell 1; have x2 : ((u1.alloc (.cells #[.int .i64 q9, .string s9, .int .i64 k9, .slice A9 m9 c9] 24)).drew).cell? ⟨w2.heap.size, 2, none⟩ = some (.int .i64 1) := M.out.xa.cell 2; have x3 : ((u1.alloc (.cells #[.int .i64 q9, .string s9, .int .i64 k9, .slice A9 m9 c9] 24)).drew).cell? ⟨w2.heap.size, 3, none⟩ = some (.slice none 0 0) := M.out.xa.cell 3; have z0 : ((u1.alloc (.cells #[.int .i64 q9, .string s9, .int .i64 k9, .slice A9 m9 c9] 24)).drew).cell? ⟨u1.heap.size, 0, none⟩ = some (.int .i64 q9) := XR.out.cell 0; have z1 : ((u1.alloc (.cells #[.int .i64 q9, .string s9, .int .i64 k9, .slice A9 m9 c9] 24)).drew).cell? ⟨u1.heap.size, 1, none⟩ = some (.string s9) := XR.out.cell 1; have z2 : ((u1.alloc (.cells #[.int .i64 q9, .string s9, .int .i64 k9, .slice A9 m9 c9] 24)).drew).cell? ⟨u1.heap.size, 2, none⟩ = some (.int .i64 k9) := XR.out.cell 2; have z3 : ((u1.alloc (.cells #[.int .i64 q9, .string s9, .int .i64 k9, .slice A9 m9 c9] 24)).drew).cell? ⟨u1.heap.size, 3, none⟩ = some (.slice A9 m9 c9) := XR.out.cell 3
    have hsame : sameT (listT IntT) (listT IntT) = true := (sameT_iff _ _).2 rfl
    have HSame := hid hsame
    clear hsame
    go_region_held3 (fun w' => (w').cell? ⟨w2.heap.size, 0, none⟩ = some (.int .i64 2) ∧ (w').cell? ⟨w2.heap.size, 1, none⟩ = some (.string ⟨#[]⟩) ∧ (w').cell? ⟨w2.heap.size, 2, none⟩ = some (.int .i64 1) ∧ (w').cell? ⟨w2.heap.size, 3, none⟩ = some (.slice none 0 0) ∧ (w').cell? ⟨u1.heap.size, 0, none⟩ = some (.int .i64 q9) ∧ (w').cell? ⟨u1.heap.size, 1, none⟩ = some (.string s9) ∧ (w').cell? ⟨u1.heap.size, 2, none⟩ = some (.int .i64 k9) ∧ (w').cell? ⟨u1.heap.size, 3, none⟩ = some (.slice A9 m9 c9)) (first | with_reducible exact ⟨x0, x1, x2, x3, z0, z1, z2, z3⟩ | assumption | go_keep)
      (first
        | (go_at_call 21; (with_reducible refine (law15_list IntT _ (fun _ => True) _ (at_Int _ _) (fun _ _ => trivial)).mono ?_); rintro e u2 ⟨⟨v, rfl, hv⟩, b1⟩; obtain ⟨q8, s8, k8, A8, m8, c8, rfl⟩ := hv.agg; have M9 := hid (M.out.up b1); clear M; have M := M9; clear M9; have h9 := hid (XR.out.below b1 XR.out.lt); clear XR; have XR := h9; clear h9; (try (have h9 := hid (TR.out.up b1); clear TR; have TR := h9; clear h9)); (try (have h9 := hid (TL.out.up b1); clear TL; have TL := h9; clear h9)); (try (have h9 := hid (TA.out.up b1); clear TA; have TA := h9; clear h9)); have x0 : (u2).cell? ⟨w2.heap.size, 0, none⟩ = some (.int .i64 2) := M.out.xa.cell 0; have x1 : (u2).cell? ⟨w2.heap.size, 1, none⟩ = some (.string ⟨#[]⟩) := M.out.xa.cell 1; have x2 : (u2).cell? ⟨w2.heap.size, 2, none⟩ = some (.int .i64 1) := M.out.xa.cell 2; have x3 : (u2).cell? ⟨w2.heap.size, 3, none⟩ = some (.slice none 0 0) := M.out.xa.cell 3; have z0 : (u2).cell? ⟨u1.heap.size, 0, none⟩ = some (.int .i64 q9) := XR.out.cell 0; have z1 : (u2).cell? ⟨u1.heap.size, 1, none⟩ = some (.string s9) := XR.out.cell 1; have z2 : (u2).cell? ⟨u1.heap.size, 2, none⟩ = some (.int .i64 k9) := XR.out.cell 2; have z3 : (u2).cell? ⟨u1.heap.size, 3, none⟩ = some (.slice A9 m9 c9) := XR.out.cell 3; clear b1; have TL := hid hv; clear hv)
        | (go_at_call 11; (with_reducible refine (typ_same_ (listT IntT) (listT IntT) _ _ (fun _ => True) (fun _ => True) _ TR.out TL.out).mono ?_); unfold SameP; rw [HSame.out]; rintro e u3 ⟨rfl, b1⟩; have M9 := hid (M.out.up b1); clear M; have M := M9; clear M9; have h9 := hid (XR.out.below b1 XR.out.lt); clear XR; have XR := h9; clear h9; (try (have h9 := hid (TR.out.up b1); clear TR; have TR := h9; clear h9)); (try (have h9 := hid (TL.out.up b1); clear TL; have TL := h9; clear h9)); (try (have h9 := hid (TA.out.up b1); clear TA; have TA := h9; clear h9)); have x0 : (u3).cell? ⟨w2.heap.size, 0, none⟩ = some (.int .i64 2) := M.out.xa.cell 0; have x1 : (u3).cell? ⟨w2.heap.size, 1, none⟩ = some (.string ⟨#[]⟩) := M.out.xa.cell 1; have x2 : (u3).cell? ⟨w2.heap.size, 2, none⟩ = some (.int .i64 1) := M.out.xa.cell 2; have x3 : (u3).cell? ⟨w2.heap.size, 3, none⟩ = some (.slice none 0 0) := M.out.xa.cell 3; have z0 : (u3).cell? ⟨u1.heap.size, 0, none⟩ = some (.int .i64 q9) := XR.out.cell 0; have z1 : (u3).cell? ⟨u1.heap.size, 1, none⟩ = some (.string s9) := XR.out.cell 1; have z2 : (u3).cell? ⟨u1.heap.size, 2, none⟩ = some (.int .i64 k9) := XR.out.cell 2; have z3 : (u3).cell? ⟨u1.heap.size, 3, none⟩ = some (.slice A9 m9 c9) := XR.out.cell 3; clear b1)
        | (go_at_call 21; (with_reducible refine (law15_list V1 _ F _ (at_V1 _ _) M.out.new_).mono ?_); rintro e u4 ⟨⟨v, rfl, hv⟩, b1⟩; obtain ⟨q7, s7, k7, A7, m7, c7, rfl⟩ := hv.agg; have M9 := hid (M.out.up b1); clear M; have M := M9; clear M9; have h9 := hid (XR.out.below b1 XR.out.lt); clear XR; have XR := h9; clear h9; (try (have h9 := hid (TR.out.up b1); clear TR; have TR := h9; clear h9)); (try (have h9 := hid (TL.out.up b1); clear TL; have TL := h9; clear h9)); (try (have h9 := hid (TA.out.up b1); clear TA; have TA := h9; clear h9)); have x0 : (u4).cell? ⟨w2.heap.size, 0, none⟩ = some (.int .i64 2) := M.out.xa.cell 0; have x1 : (u4).cell? ⟨w2.heap.size, 1, none⟩ = some (.string ⟨#[]⟩) := M.out.xa.cell 1; have x2 : (u4).cell? ⟨w2.heap.size, 2, none⟩ = some (.int .i64 1) := M.out.xa.cell 2; have x3 : (u4).cell? ⟨w2.heap.size, 3, none⟩ = some (.slice none 0 0) := M.out.xa.cell 3; have z0 : (u4).cell? ⟨u1.heap.size, 0, none⟩ = some (.int .i64 q9) := XR.out.cell 0; have z1 : (u4).cell? ⟨u1.heap.size, 1, none⟩ = some (.string s9) := XR.out.cell 1; have z2 : (u4).cell? ⟨u1.heap.size, 2, none⟩ = some (.int .i64 k9) := XR.out.cell 2; have z3 : (u4).cell? ⟨u1.heap.size, 3, none⟩ = some (.slice A9 m9 c9) := XR.out.cell 3; clear b1; have TA := hid hv; clear hv)
        | (go_at_call 15; (with_reducible refine (typ_Unify F w.heap.size pv c s2 cur2 V1 (listT V1) _ _ _ M.out.tab HOK2.out (at_V1 _ _) TA.out M.out.new_).mono ?_); rw [← HR.out.1]; rintro e u5 ⟨rfl, ⟨cur3, hb1⟩, hb2⟩; have M9 := hid (M.out.turn hb1 hb2); clear M; have M := M9; clear M9; have h9 := hid (XR.out.kept (S := fun b => b = pv) hb2 hpv.out); clear XR; have XR := h9; clear h9; have x0 : (u5).cell? ⟨w2.heap.size, 0, none⟩ = some (.int .i64 2) := M.out.xa.cell 0; have x1 : (u5).cell? ⟨w2.heap.size, 1, none⟩ = some (.string ⟨#[]⟩) := M.out.xa.cell 1; have x2 : (u5).cell? ⟨w2.heap.size, 2, none⟩ = some (.int .i64 1) := M.out.xa.cell 2; have x3 : (u5).cell? ⟨w2.heap.size, 3, none⟩ = some (.slice none 0 0) := M.out.xa.cell 3; have z0 : (u5).cell? ⟨u1.heap.size, 0, none⟩ = some (.int .i64 q9) := XR.out.cell 0; have z1 : (u5).cell? ⟨u1.heap.size, 1, none⟩ = some (.string s9) := XR.out.cell 1; have z2 : (u5).cell? ⟨u1.heap.size, 2, none⟩ = some (.int .i64 k9) := XR.out.cell 2; have z3 : (u5).cell? ⟨u1.heap.size, 3, none⟩ = some (.slice A9 m9 c9) := XR.out.cell 3; clear hb1 hb2)
        | (go_at_call 22; (with_reducible refine (typ_Vars w.heap.size _ _ _ M.out.tab.blk).mono ?_); rw [HR.out.2]; rintro e u6 ⟨rfl, rfl⟩))
    all_goals
      go_wp2
      go_ret
      exact ⟨rfl, M.out.bw⟩
end Go.Proofs.YtnlifgcnmhakiaaDoor
