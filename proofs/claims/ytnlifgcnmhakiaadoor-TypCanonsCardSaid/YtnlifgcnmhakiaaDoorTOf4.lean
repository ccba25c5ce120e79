/-
  THE WALKS OF (*typ.names).of, WHOLE, AND typ.Canon.
-/
import Derived.Test.YtnlifgcnmhakiaaDoorTOf3
namespace Go.Proofs.YtnlifgcnmhakiaaDoor
open Go.ChangeShapes Go.WideShapes Go.ChangeAt Go.RowKit

set_option maxHeartbeats 8000000 in
set_option maxRecDepth 100000 in
theorem of_node (p N : Nat) (ih : OfC p N) : OfC p (N + 1) := by
  intro t ks va v w hN hv hn hb
  obtain ⟨q, s, n, us⟩ := t
  obtain ⟨A, c, rfl, hc, hcm, _, hrow, hq, hk⟩ := hv.parts
  have hnd : nodes (.mk q s n us) = 1 + nodesL us := by rw [nodes]
  rw [hnd] at hb
  have hl := length_nodes us
  have HS := hid (show ∀ t ∈ us, SizeOf.sizeOf t ≤ N from fun t ht => by have := ty_lt (k := q) (n := n) (s := s) ht; omega)
  by_cases h2 : q = 2
  · subst h2
    obtain ⟨A', c', rfl⟩ := hn.slice
    by_cases hs : s.data.toList = []
    · have hse : s.toList.isEmpty = true := by rw [list_of_data, hs]; rfl
      have hkey : keyOf s n = (s, n) := by unfold keyOf; rw [if_pos hs]
      by_cases hp : posK ks (s, n) < ks.length
      · by_cases h26 : posK ks (s, n) < 26
        · exact of_f1 p N ih s n us ks A' A c' c _ w HS hb hrow hn hse hkey rfl hp h26
        · exact of_g1 p N ih s n us ks A' A c' c _ w HS hb hrow hn hse hkey rfl hp h26
      · by_cases h26 : posK ks (s, n) < 26
        · exact of_n1 p N ih s n us ks A' A c' c _ w HS hb hrow hn hse hkey rfl hp h26
        · exact of_m1 p N ih s n us ks A' A c' c _ w HS hb hrow hn hse hkey rfl hp h26
    · have hse : s.toList.isEmpty = false := by rw [list_of_data]; simpa using hs
      have hkey : keyOf s n = (s, 0) := by unfold keyOf; rw [if_neg hs]
      by_cases hp : posK ks (s, 0) < ks.length
      · by_cases h26 : posK ks (s, 0) < 26
        · exact of_f2 p N ih s n us ks A' A c' c _ w HS hb hrow hn hse hkey rfl hp h26
        · exact of_g2 p N ih s n us ks A' A c' c _ w HS hb hrow hn hse hkey rfl hp h26
      · by_cases h26 : posK ks (s, 0) < 26
        · exact of_n2 p N ih s n us ks A' A c' c _ w HS hb hrow hn hse hkey rfl hp h26
        · exact of_m2 p N ih s n us ks A' A c' c _ w HS hb hrow hn hse hkey rfl hp h26
  have H := hid (And.intro hrow (And.intro hn (And.intro hq (And.intro hk ih))))
  have HKB := hid (show ks.length + nodesL us ≤ 1050 by omega)
  have HB := hid hb
  have Hp := hid hn.blk.lt
  have hul : us.length ≤ 1050 := by omega
  have h2b : (q == 2) = false := by simpa using h2
  have hcan : canF ks (.mk q s n us) = ((canFL ks us).1, .mk q s n (canFL ks us).2) := by rw [canF, if_neg h2]
  have HCAN := hid hcan
  have HQ := hid (And.intro hq hk)
  clear hcan h2 hrow hn hq hk ih hb hnd hN hv hl
  go_enter Tryd.func24, Tryd.ntmps24
  go_wp2
  go_loopg [7, 77] us.length (fun g lv x wr => ∃ (i : Nat) (A6 : Option Addr) (c6 : Nat) (xs : List Value) (vb : Value), i + g = us.length ∧ x = .int .i64 i ∧ lv = .slice A6 i c6 ∧ Hid (Bn (w.heap.size + 2) (canFL ks (us.take i)).2 i (.slice A6 i c6) xs vb wr) ∧ Hid (NL wr p (canFL ks (us.take i)).1 vb) ∧ Hid (TT p w (va) wr vb) ∧ Hid (Far vb w.heap.size) ∧ Hid (Blk wr w.heap.size 24 #[.int .i64 (q), .string (s), .int .i64 (n), .slice A us.length c]) ∧ Hid (Blk wr (w.heap.size + 1) 24 #[.int .i64 0, .string ⟨#[]⟩, .int .i64 0, .slice none 0 0]))
  case atStart => exact ⟨0, none, 0, [], va, by omega, rfl, rfl, hid (Bn.start _ _ _), hid (by simpa [canFL] using H.out.2.1.up (by go_grown : Below w.heap.size w _)), hid ((TT.refl _ _ _).after (by go_grown : Below w.heap.size w _)), hid (Far.of H.out.2.1 (Nat.le_refl _)), hid ((Blk.new _ _ _).alloc _), hid (Blk.new' (by simp) _ _)⟩
  case round =>
    obtain ⟨i, A6, c6, xs, vb, hi, rfl, rfl, hB, hN, hT, hF, hX, hO⟩ := hrel
    have Hi := hid hi
    by_cases hlt : i < us.length
    · have hlt' : (i : Int) < us.length := by omega
      obtain ⟨ad, q', s', n', A3, m', c3, hA, hSb, hab, y0, y1, y2, y3, hel⟩ := (tt_type H.out.1 H.out.2.1 hT.out).elem hlt
      subst hA
      have Q := hid (And.intro hel (And.intro (List.getElem_mem hlt) (canFL_take (ks := ks) hlt)))
      have hbd : (canFL ks (us.take i)).1.length + nodes us[i] ≤ 1050 := by have h1 := canFL_len (us.take i) ks; have h3 := nodesL_split hlt; have h4 := HKB.out; omega
      have HBD := hid hbd
      clear hi hSb hab hel hbd
      go_wp2_with (first
        | (go_at_call 24; go_must (refine (H.out.2.2.2.2 us[i] _ vb _ _ (HS.out _ Q.out.2.1) (Q.out.1.up (by go_grown : Below wr.heap.size wr _)) (hN.out.up (by go_grown : Below wr.heap.size wr _)) HBD.out).mono ?_); rintro e w1 ⟨vr, vb1, rfl, hv, hn1, ht1⟩; go_must (obtain ⟨q9, s9, n9, A9, m9, c9, rfl⟩ := hv.agg; have J := hid (And.intro (hv.mono (T := fun b => wr.heap.size ≤ b ∧ vb1.ownBlock ≠ some b) (fun b hb _ => ⟨by have := hb.1; simp at this; omega, hb.2⟩)) (And.intro hn1 (ht1.pre (by go_grown : Below wr.heap.size wr _)))); clear hv hn1 ht1))
        | (at_builtin; go_must (refine wpList_appT (by rfl) _ _ (by rfl) (w.heap.size + 2) (by rfl) (n := i) (World.ownsRow.alloc (hB.out.row1 (by have := Hp.out; omega) J.out.2.2) _) (by rfl) (by rfl) (cells_lit _ (by simp) _ _ _ _ _) (by simp [Value.oneCell']) (by omega) (by have h1 := J.out.2.2.kept.size; have h2 := hO.out.lt; simp; omega) ?_); intro v' w2 hr2 hg2 hn2; go_must (obtain ⟨A7, c7, rfl, _⟩ := row_slice hr2; have M := hid (hB.out.step Hp.out hX.out hO.out hT.out hF.out J.out.2.2 J.out.1 J.out.2.1 hr2 hg2 hn2); clear hr2 hg2 hn2)))
      have hgk := Hi.out
      go_roundg (gk - 1)
      case rel => exact ⟨i + 1, A7, c7, _, vb1, by omega, rfl, rfl, hid (by rw [Q.out.2.2]; exact M.out.1), hid (by rw [Q.out.2.2]; exact M.out.2.1), hid M.out.2.2.1, hid M.out.2.2.2.1, hid M.out.2.2.2.2.1, hid M.out.2.2.2.2.2⟩
      case measure => omega
    · obtain rfl : i = us.length := by omega
      clear hi
      have X1 := hid (hX.out.set_ 3 (.slice A6 us.length c6))
      have x0 : (wr.setCell ⟨w.heap.size, 3, none⟩ (.slice A6 us.length c6)).cell? ⟨w.heap.size, 0, none⟩ = some (.int .i64 (q)) := X1.out.cell 0
      have x1 : (wr.setCell ⟨w.heap.size, 3, none⟩ (.slice A6 us.length c6)).cell? ⟨w.heap.size, 1, none⟩ = some (.string (s)) := X1.out.cell 1
      have x2 : (wr.setCell ⟨w.heap.size, 3, none⟩ (.slice A6 us.length c6)).cell? ⟨w.heap.size, 2, none⟩ = some (.int .i64 (n)) := X1.out.cell 2
      have x3 : (wr.setCell ⟨w.heap.size, 3, none⟩ (.slice A6 us.length c6)).cell? ⟨w.heap.size, 3, none⟩ = some (.slice A6 us.length c6) := X1.out.cell 3
      have y3 : wr.cell? ⟨w.heap.size, 3, none⟩ = some (.slice A us.length c) := hX.out.cell 3
      have f3 := hX.out.frozen 3
      have OUT : Hid (Blk (wr.setCell ⟨w.heap.size, 3, none⟩ (.slice A6 us.length c6)) (w.heap.size + 1) 24 #[.int .i64 0, .string ⟨#[]⟩, .int .i64 0, .slice none 0 0]) := hid (hO.out.far (p := ⟨w.heap.size, 3, none⟩) (by dsimp only; omega) _); have o0 : (wr.setCell ⟨w.heap.size, 3, none⟩ (.slice A6 us.length c6)).cell? ⟨w.heap.size + 1, 0, none⟩ = some (.int .i64 0) := OUT.out.cell 0; have o1 : (wr.setCell ⟨w.heap.size, 3, none⟩ (.slice A6 us.length c6)).cell? ⟨w.heap.size + 1, 1, none⟩ = some (.string ⟨#[]⟩) := OUT.out.cell 1; have o2 : (wr.setCell ⟨w.heap.size, 3, none⟩ (.slice A6 us.length c6)).cell? ⟨w.heap.size + 1, 2, none⟩ = some (.int .i64 0) := OUT.out.cell 2; have o3 : (wr.setCell ⟨w.heap.size, 3, none⟩ (.slice A6 us.length c6)).cell? ⟨w.heap.size + 1, 3, none⟩ = some (.slice none 0 0) := OUT.out.cell 3; have g0 := OUT.out.frozen 0; have g1 := OUT.out.frozen 1; have g2 := OUT.out.frozen 2; have g3 := OUT.out.frozen 3
      go_wp2
      have hB9 := hB.out
      have hN9 := hN.out
      rw [List.take_length] at hB9 hN9
      refine ret_type rfl (by rfl) (set4_blk OUT.out) rfl ⟨_, vb, rfl, ?_⟩
      rw [HCAN.out]
      exact hB9.end_ hN9 hT.out hF.out rfl Hp.out ((((((Kept.refl _ wr).setCell (p := ⟨w.heap.size, 3, none⟩) (.inl (.inl rfl)) _).setCell (p := ⟨w.heap.size + 1, 0, none⟩) (.inl (.inr rfl)) _).setCell (p := ⟨w.heap.size + 1, 1, none⟩) (.inl (.inr rfl)) _).setCell (p := ⟨w.heap.size + 1, 2, none⟩) (.inl (.inr rfl)) _).setCell (p := ⟨w.heap.size + 1, 3, none⟩) (.inl (.inr rfl)) _) HQ.out.1 HQ.out.2
theorem typ_of (p : Nat) : ∀ N, OfC p N := by
  intro N
  induction N with
  | zero => intro t ks va v w hN; cases t; simp at hN
  | succ N ih => exact of_node p N ih
theorem al1' (X : World) (o : Obj) : Below X.heap.size X (X.alloc o) := (Below.refl _ _).alloc (Nat.le_refl _) _
theorem ca_b1 {w w1 : World} {t1 t2 : TypeId} {c1 c2 : Array Value} (hb : Below ((w.alloc (.cells c1 t1)).alloc (.cells c2 t2)).heap.size ((w.alloc (.cells c1 t1)).alloc (.cells c2 t2)) w1) : Blk w1 w.heap.size t1 c1 := ((Blk.new w t1 c1).alloc _).below hb (by simp; omega)
theorem ca_b2 {w w1 : World} {t1 t2 : TypeId} {c1 c2 : Array Value} (hb : Below ((w.alloc (.cells c1 t1)).alloc (.cells c2 t2)).heap.size ((w.alloc (.cells c1 t1)).alloc (.cells c2 t2)) w1) : Blk w1 (w.heap.size + 1) t2 c2 := (Blk.new' (w := w.alloc (.cells c1 t1)) (by simp) t2 c2).below hb (by simp)
theorem ca_b3 {w w1 : World} {o1 o2 : Obj} (hb : Below ((w.alloc o1).alloc o2).heap.size ((w.alloc o1).alloc o2) w1) : Below w.heap.size w w1 := below_hop hb (((Below.refl w.heap.size w).alloc (Nat.le_refl _) o1).alloc (by simp) o2)
theorem ca_lo2 {w1 w2 : World} {o : Obj} (hk : Kept (fun b => b = w1.heap.size ∨ (Value.slice none 0 0).ownBlock = some b) (w1.alloc o) w2) : Below w1.heap.size w1 w2 :=
  (al1' w1 o).trans (hk.below (by simp) (fun b hb => hb.elim (fun e => by omega) (fun e => by simp [Value.ownBlock] at e)))
theorem ca_ne {b n : Nat} (h : b < n) : ¬ (b = n ∨ (Value.slice none 0 0).ownBlock = some b) := fun e => e.elim (fun e => by omega) (fun e => by simp [Value.ownBlock] at e)
/-- What Canon tells: above 1024 nodes the zero type, and 3. -/
def canonF (t : Ty) : Ty × Int := if nodes t ≤ 1024 then ((canF [] t).2, 0) else (zeroT, 3)
def CanonP (t : Ty) (w : World) (e : Ending) (w' : World) : Prop := (∃ v, e = .returned (.tuple #[v, .int .i64 (canonF t).2]) ∧ TAt w' (fun b => w.heap.size ≤ b) (canonF t).1 v) ∧ Below w.heap.size w w'
set_option maxHeartbeats 4000000 in
set_option maxRecDepth 100000 in
theorem typ_Canon (t : Ty) (v : Value) (S : Nat → Prop) (w : World) (hS : ∀ b, S b → b < w.heap.size) (hv : TAt w S t v) : Calls Tryd.prog 7 #[v] w (CanonP t w) := by
  have HV := hid hv
  obtain ⟨q, s, k, A, m, c, rfl⟩ := hv.agg
  have HS := hid hS
  clear hv hS
  obtain ⟨n, hn⟩ : ∃ n, n = sizeT t := ⟨_, rfl⟩
  have HNN := hid hn
  clear hn
  by_cases h9 : n ≤ 1024
  · have HNO := hid (show nodes t ≤ 1024 by have := HNN.out; unfold sizeT at this; omega)
    go_enter Tryd.func7, Tryd.ntmps7
    go_wp2_with (first
      | (go_at_call 23; go_must (refine (typ_Size t _ S _ (HV.out.up (by go_grown : Below w.heap.size w _))).mono ?_); rw [← HNN.out]; rintro e w1 ⟨rfl, b1⟩; go_must (have BT := hid (ca_b1 b1); have BR := hid (ca_b2 b1); have bw := hid (ca_b3 b1); have x0 := fun o => (BT.out.alloc o).four.1; have x1 := fun o => (BT.out.alloc o).four.2.1; have x2 := fun o => (BT.out.alloc o).four.2.2.1; have x3 := fun o => (BT.out.alloc o).four.2.2.2.1; have hsz := bw.out.size; clear b1))
      | (go_at_call 24; go_must (refine (typ_of w1.heap.size _ t [] (.slice none 0 0) _ _ (Nat.le_refl _) ((HV.out.up (below_hop (al1' w1 _) bw.out)).mono (fun b hb _ => by have := HS.out b hb; omega)) ⟨Blk.new _ _ _, World.ownsRow_nil _ _ _ _⟩ (by have := HNO.out; simp; omega)).mono ?_); rintro e w2 ⟨vr, va', rfl, hv, hn, ht⟩; go_must (obtain ⟨q9, s9, n9, A9, m9, c9, rfl⟩ := hv.agg; have BR2 := (BR.out.alloc _).kept ht.kept (fun e => ca_ne (by have := BR.out.lt; omega) e); have OUT : Hid (Blk (w2) (w.heap.size + 1) 24 #[.int .i64 0, .string ⟨#[]⟩, .int .i64 0, .slice none 0 0]) := hid (BR2); have o0 : (w2).cell? ⟨w.heap.size + 1, 0, none⟩ = some (.int .i64 0) := OUT.out.cell 0; have o1 : (w2).cell? ⟨w.heap.size + 1, 1, none⟩ = some (.string ⟨#[]⟩) := OUT.out.cell 1; have o2 : (w2).cell? ⟨w.heap.size + 1, 2, none⟩ = some (.int .i64 0) := OUT.out.cell 2; have o3 : (w2).cell? ⟨w.heap.size + 1, 3, none⟩ = some (.slice none 0 0) := OUT.out.cell 3; have g0 := OUT.out.frozen 0; have g1 := OUT.out.frozen 1; have g2 := OUT.out.frozen 2; have g3 := OUT.out.frozen 3; have HK := hid (And.intro hv (And.intro ht.kept bw.out)); clear hv hn ht BR2)))
    have e1 : canonF t = ((canF [] t).2, 0) := by unfold canonF; rw [if_pos HNO.out]
    have hk := HK.out
    have hsz := hk.2.2.size
    have hb2 : Below w.heap.size w w2 := hk.2.2.trans ((ca_lo2 hk.2.1).mono hsz)
    refine ret_type2 rfl (by rfl) (by rfl) (set4_blk OUT.out) rfl ⟨⟨_, by rw [e1]; rfl, ?_⟩, set4_below hb2 (by omega)⟩
    rw [e1]
    exact hk.1.keep (fun b hb hl => ⟨set4_other (by have := hb.1; simp at this; have := BR.out.lt; omega), by have := hb.1; simp at this; omega⟩)
  · have HNO := hid (show ¬ nodes t ≤ 1024 by have := HNN.out; unfold sizeT at this; omega)
    go_enter Tryd.func7, Tryd.ntmps7
    go_wp2_with (go_at_call 23; go_must (refine (typ_Size t _ S _ (HV.out.up (by go_grown : Below w.heap.size w _))).mono ?_); rw [← HNN.out]; rintro e w1 ⟨rfl, b1⟩; go_must (have BR := ca_b2 b1; have bw := hid (ca_b3 b1); have OUT : Hid (Blk (w1) (w.heap.size + 1) 24 #[.int .i64 0, .string ⟨#[]⟩, .int .i64 0, .slice none 0 0]) := hid (BR); have o0 : (w1).cell? ⟨w.heap.size + 1, 0, none⟩ = some (.int .i64 0) := OUT.out.cell 0; have o1 : (w1).cell? ⟨w.heap.size + 1, 1, none⟩ = some (.string ⟨#[]⟩) := OUT.out.cell 1; have o2 : (w1).cell? ⟨w.heap.size + 1, 2, none⟩ = some (.int .i64 0) := OUT.out.cell 2; have o3 : (w1).cell? ⟨w.heap.size + 1, 3, none⟩ = some (.slice none 0 0) := OUT.out.cell 3; have g0 := OUT.out.frozen 0; have g1 := OUT.out.frozen 1; have g2 := OUT.out.frozen 2; have g3 := OUT.out.frozen 3; clear b1 BR))
    have e1 : canonF t = (zeroT, 3) := by unfold canonF; rw [if_neg HNO.out]
    exact ret_type2 rfl (by rfl) (by rfl) (set4_blk OUT.out) rfl ⟨⟨_, by rw [e1]; rfl, by rw [e1]; exact zero_at _ _⟩, set4_below bw.out (by omega)⟩
end Go.Proofs.YtnlifgcnmhakiaaDoor
