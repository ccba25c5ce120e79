/-
  THE WALKS OF (*athanorref15.names).canon AND athanorref15.Canon.
-/
import Derived.Test.YtnlifgcnmhakiaaDoorTRCanL
import Derived.Test.YtnlifgcnmhakiaaDoorTOf4
namespace Go.Proofs.YtnlifgcnmhakiaaDoor
open Go.ChangeShapes Go.WideShapes Go.ChangeAt Go.RowKit

theorem ref_get (p : Nat) (es : List (ByteArray × Int)) (s : ByteArray) (n : Int) (A : Option Addr) (m c : Nat) (v1 v2 v3 v4 : Value) (w : World) (hl : es.length ≤ 1050) (h : RNs w p es v1 v2 v3 v4) :
    Calls Tryd.prog 41 #[.pointer (some ⟨p, 0, none⟩), .agg #[.int .i64 2, .string s, .int .i64 n, .slice A m c]] w (GetP p es (keyOf s n) v1 v2 v3 v4 w) := by
  by_cases hs : s.data.toList = []
  · exact get_a p es s n A m c v1 v2 v3 v4 w hl h hs
  · exact get_b p es s n A m c v1 v2 v3 v4 w hl h hs
theorem cn_fin {P Q1 Q2 Q3 : Prop} (h : P ∧ Q1 ∧ Q3) (h2 : Q2) : P ∧ Q1 ∧ Q2 ∧ Q3 := ⟨h.1, h.2.1, h2, h.2.2⟩
def RNK (wr : World) (p : Nat) (es1 : List (ByteArray × Int)) (b1 b2 b3 b4 : Value) (K : List (ByteArray × Int)) : Prop := RNs wr p es1 b1 b2 b3 b4 ∧ keysOf es1 = K
theorem RNs.setN {w : World} {p n : Nat} {es : List (ByteArray × Int)} {v1 v2 v3 v4 : Value} (h : RNs w p es v1 v2 v3 v4) (hF : FarO (own4 v1 v2 v3 v4) n) (hp : p < n) (j : Nat) (x : Value) : RNs (w.setCell ⟨n, j, none⟩ x) p es v1 v2 v3 v4 :=
  h.keep (fun b _ hs => Below.heap_setCell _ ⟨n, j, none⟩ _ b (by dsimp only; rcases hs with hs | hs; omega; have := hF b hs; omega))
theorem RT.one {p n j : Nat} {w w1 : World} {O O1 : Nat → Prop} (h : RT p w O w1 O1) (hn : w.heap.size ≤ n) (x : Value) : RT p w O (w1.setCell ⟨n, j, none⟩ x) O1 :=
  h.own ((Kept.refl (fun b => b = n) w1).setCell (p := ⟨n, j, none⟩) (.inl rfl) x) (fun g e => by omega)
set_option maxHeartbeats 8000000 in
set_option maxRecDepth 100000 in
theorem cn_other (p N : Nat) (ih : CnoC p N) (q : Int) (s : ByteArray) (n : Int) (us : List Ty) (es : List (ByteArray × Int)) (v1 v2 v3 v4 : Value) (A : Option Addr) (c : Nat) (w : World) (HS : Hid (∀ t ∈ us, SizeOf.sizeOf t ≤ N)) (hb : es.length + (1 + nodesL us) ≤ 1050) (hrow : TRow w (fun b => b < p) us A 0) (hn : RNs w p es v1 v2 v3 v4)
    (h2 : q ≠ 2) (hq : (Lit.int .i64 q).wf = true) (hk : (Lit.int .i64 n).wf = true) :
    Calls Tryd.prog 27 #[.pointer (some ⟨p, 0, none⟩), .agg #[.int .i64 q, .string s, .int .i64 n, .slice A us.length c]] w (CnoP p (.mk q s n us) es v1 v2 v3 v4 w) := by
  have hl := length_nodes us
  have H := hid (And.intro hrow (And.intro hn (And.intro hq (And.intro hk ih))))
  have HKB := hid (show (keysOf es).length + nodesL us ≤ 1050 by rw [keysOf_length]; omega)
  have Hp := hid hn.blk.lt
  have hul : us.length ≤ 1050 := by omega
  have h2b : (q == 2) = false := by simpa using h2
  have hcan : canF (keysOf es) (.mk q s n us) = ((canFL (keysOf es) us).1, .mk q s n (canFL (keysOf es) us).2) := by rw [canF, if_neg h2]
  have HCAN := hid hcan
  have HQ := hid (And.intro hq hk)
  clear hcan h2 hrow hn hq hk ih hb hl
  go_enter Tryd.func27, Tryd.ntmps27
  go_wp2
  go_loopg [5, 6] us.length (fun g lv x wr => ∃ (i : Nat) (A6 : Option Addr) (c6 : Nat) (xs : List Value) (es1 : List (ByteArray × Int)) (b1 b2 b3 b4 : Value), i + g = us.length ∧ x = .int .i64 i ∧ lv = .slice A6 i c6 ∧ Hid (RBn (w.heap.size + 2) (canFL (keysOf es) (us.take i)).2 i (.slice A6 i c6) xs (own4 b1 b2 b3 b4) wr) ∧ Hid (RNK wr p es1 b1 b2 b3 b4 (canFL (keysOf es) (us.take i)).1) ∧ Hid (RT p w (own4 v1 v2 v3 v4) wr (own4 b1 b2 b3 b4)) ∧ Hid (FarO (own4 b1 b2 b3 b4) w.heap.size) ∧ Hid (Blk wr w.heap.size 24 #[.int .i64 (q), .string (s), .int .i64 (n), .slice A us.length c]) ∧ Hid (Blk wr (w.heap.size + 1) 24 #[.int .i64 0, .string ⟨#[]⟩, .int .i64 0, .slice none 0 0]))
  case atStart => exact ⟨0, none, 0, [], es, v1, v2, v3, v4, by omega, rfl, rfl, hid (RBn.start _ _ _), hid ⟨H.out.2.1.up (by go_grown : Below w.heap.size w _), by simp [canFL]⟩, hid ((RT.refl _ _ _).after (by go_grown : Below w.heap.size w _)), hid (FarO.of H.out.2.1 (Nat.le_refl _)), hid ((Blk.new _ _ _).alloc _), hid (Blk.new' (by simp) _ _)⟩
  case round =>
    obtain ⟨i, A6, c6, xs, es1, b1, b2, b3, b4, hi, rfl, rfl, hB, hN, hT, hF, hX, hO⟩ := hrel
    have Hi := hid hi
    have x3 : wr.cell? ⟨w.heap.size, 3, none⟩ = some (.slice A us.length c) := hX.out.cell 3
    by_cases hlt : i < us.length
    · have hlt' : (i : Int) < us.length := by omega
      obtain ⟨ad, q', s', n', A3, m', c3, hA, hSb, hab, y0, y1, y2, y3, hel⟩ := (rt_type H.out.1 H.out.2.1 hT.out).elem hlt
      subst hA
      have Q := hid (And.intro hel (And.intro (List.getElem_mem hlt) (canFL_take (ks := (keysOf es)) hlt)))
      have hbd : es1.length + nodes us[i] ≤ 1050 := by have h1 := canFL_len (us.take i) (keysOf es); have h3 := nodesL_split hlt; have h4 := HKB.out; rw [← keysOf_length es1, hN.out.2]; omega
      have HBD := hid hbd
      clear hi hSb hab hel hbd
      go_wp2_with (first
        | (go_at_call 27; go_must (refine (H.out.2.2.2.2 us[i] es1 b1 b2 b3 b4 _ _ (HS.out _ Q.out.2.1) Q.out.1 hN.out.1 HBD.out).mono ?_); rintro e w1 ⟨vr, es2, a1, a2, a3, a4, rfl, hv, hn1, hk1, ht1⟩; go_must (obtain ⟨q9, s9, n9, A9, m9, c9, rfl⟩ := hv.agg; rw [hN.out.2] at hv hk1; have J := hid (And.intro hv (And.intro hn1 (And.intro hk1 ht1))); clear hv hn1 hk1 ht1))
        | (at_builtin; go_must (refine wpList_appT (by rfl) _ _ (by rfl) (w.heap.size + 2) (by rfl) (n := i) (World.ownsRow.alloc (hB.out.row1 (by have := Hp.out; omega) J.out.2.2.2) _) (by rfl) (by rfl) (cells_lit _ (by simp) _ _ _ _ _) (by simp [Value.oneCell']) (by omega) (by have h1 := J.out.2.2.2.kept.size; have h2 := hO.out.lt; simp; omega) ?_); intro v' w2 hr2 hg2 hn2; go_must (obtain ⟨A7, c7, rfl, _⟩ := row_slice hr2; have M := hid (hB.out.step Hp.out hX.out hO.out hT.out hF.out J.out.2.2.2 J.out.1 J.out.2.1 hr2 hg2 hn2); clear hr2 hg2 hn2)))
      have hgk := Hi.out
      go_roundg (gk - 1)
      case rel => exact ⟨i + 1, A7, c7, _, es2, a1, a2, a3, a4, by omega, by go_num, rfl, hid (by rw [Q.out.2.2]; exact M.out.1), hid ⟨M.out.2.1, by rw [Q.out.2.2]; exact J.out.2.2.1⟩, hid M.out.2.2.1, hid M.out.2.2.2.1, hid M.out.2.2.2.2.1, hid M.out.2.2.2.2.2⟩
      case measure => omega
    · obtain rfl : i = us.length := by omega
      clear hi
      have X1 := hid (hX.out.set_ 3 (.slice A6 us.length c6))
      have x0 : (wr.setCell ⟨w.heap.size, 3, none⟩ (.slice A6 us.length c6)).cell? ⟨w.heap.size, 0, none⟩ = some (.int .i64 (q)) := X1.out.cell 0
      have x1 : (wr.setCell ⟨w.heap.size, 3, none⟩ (.slice A6 us.length c6)).cell? ⟨w.heap.size, 1, none⟩ = some (.string (s)) := X1.out.cell 1
      have x2 : (wr.setCell ⟨w.heap.size, 3, none⟩ (.slice A6 us.length c6)).cell? ⟨w.heap.size, 2, none⟩ = some (.int .i64 (n)) := X1.out.cell 2
      have x4 : (wr.setCell ⟨w.heap.size, 3, none⟩ (.slice A6 us.length c6)).cell? ⟨w.heap.size, 3, none⟩ = some (.slice A6 us.length c6) := X1.out.cell 3
      have f3 := hX.out.frozen 3
      have OUT : Hid (Blk (wr.setCell ⟨w.heap.size, 3, none⟩ (.slice A6 us.length c6)) (w.heap.size + 1) 24 #[.int .i64 0, .string ⟨#[]⟩, .int .i64 0, .slice none 0 0]) := hid (hO.out.far (p := ⟨w.heap.size, 3, none⟩) (by dsimp only; omega) _); have o0 : (wr.setCell ⟨w.heap.size, 3, none⟩ (.slice A6 us.length c6)).cell? ⟨w.heap.size + 1, 0, none⟩ = some (.int .i64 0) := OUT.out.cell 0; have o1 : (wr.setCell ⟨w.heap.size, 3, none⟩ (.slice A6 us.length c6)).cell? ⟨w.heap.size + 1, 1, none⟩ = some (.string ⟨#[]⟩) := OUT.out.cell 1; have o2 : (wr.setCell ⟨w.heap.size, 3, none⟩ (.slice A6 us.length c6)).cell? ⟨w.heap.size + 1, 2, none⟩ = some (.int .i64 0) := OUT.out.cell 2; have o3 : (wr.setCell ⟨w.heap.size, 3, none⟩ (.slice A6 us.length c6)).cell? ⟨w.heap.size + 1, 3, none⟩ = some (.slice none 0 0) := OUT.out.cell 3; have g0 := OUT.out.frozen 0; have g1 := OUT.out.frozen 1; have g2 := OUT.out.frozen 2; have g3 := OUT.out.frozen 3
      go_wp2
      have hB9 := hB.out
      have hN9 := hN.out
      rw [List.take_length] at hB9 hN9
      refine ret_type rfl (by rfl) (set4_blk OUT.out) rfl ⟨_, es1, b1, b2, b3, b4, rfl, ?_⟩
      rw [HCAN.out]
      exact cn_fin (hB9.end_ hN9.1 hT.out hF.out rfl Hp.out ((((((Kept.refl _ wr).setCell (p := ⟨w.heap.size, 3, none⟩) (.inl (.inl rfl)) _).setCell (p := ⟨w.heap.size + 1, 0, none⟩) (.inl (.inr rfl)) _).setCell (p := ⟨w.heap.size + 1, 1, none⟩) (.inl (.inr rfl)) _).setCell (p := ⟨w.heap.size + 1, 2, none⟩) (.inl (.inr rfl)) _).setCell (p := ⟨w.heap.size + 1, 3, none⟩) (.inl (.inr rfl)) _) HQ.out.1 HQ.out.2) hN9.2
set_option maxHeartbeats 8000000 in
set_option maxRecDepth 100000 in
theorem cn_var (p N : Nat) (ih : CnoC p N) (s : ByteArray) (n : Int) (us : List Ty) (es : List (ByteArray × Int)) (v1 v2 v3 v4 : Value) (A : Option Addr) (c : Nat) (w : World) (HS : Hid (∀ t ∈ us, SizeOf.sizeOf t ≤ N)) (hb : es.length + (1 + nodesL us) ≤ 1050) (hrow : TRow w (fun b => b < p) us A 0) (hn : RNs w p es v1 v2 v3 v4) :
    Calls Tryd.prog 27 #[.pointer (some ⟨p, 0, none⟩), .agg #[.int .i64 2, .string s, .int .i64 n, .slice A us.length c]] w (CnoP p (.mk 2 s n us) es v1 v2 v3 v4 w) := by
  have hl := length_nodes us
  have H := hid (And.intro hrow (And.intro hn (And.intro True.intro (And.intro True.intro ih))))
  have hK := (addK_length (keysOf es) (keyOf s n)).2
  rw [keysOf_length] at hK
  have HKB := hid (show (addK (keysOf es) (keyOf s n)).length + nodesL us ≤ 1050 by omega)
  have HES := hid (show es.length ≤ 1050 by omega)
  have Hp := hid hn.blk.lt
  have hul : us.length ≤ 1050 := by omega
  obtain ⟨nm, hnm⟩ : ∃ nm, nm = nameB (posK (keysOf es) (keyOf s n)) := ⟨_, rfl⟩
  have hcan : canF (keysOf es) (.mk 2 s n us) = ((canFL (addK (keysOf es) (keyOf s n)) us).1, .mk 2 nm 0 (canFL (addK (keysOf es) (keyOf s n)) us).2) := by rw [canF, if_pos rfl, hnm]
  have HCAN := hid hcan
  have HNM := hid hnm
  have hq9 : (Lit.int .i64 2).wf = true ∧ (Lit.int .i64 0).wf = true := ⟨by decide, by decide⟩
  have HQ := hid hq9
  obtain ⟨K, hKK⟩ : ∃ K, K = addK (keysOf es) (keyOf s n) := ⟨_, rfl⟩
  rw [← hKK] at HKB HCAN
  have HKK := hid hKK
  clear hcan hrow hn ih hb hl hK hnm hq9 hKK
  go_enter Tryd.func27, Tryd.ntmps27
  go_wp2_with (go_at_call 41; go_must (refine (ref_get p es s n _ _ _ v1 v2 v3 v4 _ HES.out (H.out.2.1.up (by go_grown : Below w.heap.size w _))).mono ?_); rintro e w1 ⟨rfl, es1, u1, u2, u3, u4, hn1, hk1, hkp, hnew⟩; go_must (rw [← HNM.out]; rw [← HKK.out] at hk1; have BT := hid (((Blk.new w 24 #[.int .i64 2, .string s, .int .i64 n, .slice A us.length c]).alloc (.cells #[.int .i64 0, .string ⟨#[]⟩, .int .i64 0, .slice none 0 0] 24)).kept hkp (fun e => e.elim (fun e => by have := Hp.out; omega) (fun e => by have := H.out.2.1.lt _ e; omega))); have BR := hid ((Blk.new' (w := w.alloc (.cells #[.int .i64 2, .string s, .int .i64 n, .slice A us.length c] 24)) (g := w.heap.size + 1) (by simp) 24 #[.int .i64 0, .string ⟨#[]⟩, .int .i64 0, .slice none 0 0]).kept hkp (fun e => e.elim (fun e => by have := Hp.out; omega) (fun e => by have := H.out.2.1.lt _ e; omega))); have J1 := hid (And.intro hn1 (And.intro hk1 (RT.pre (RT.mk hkp hnew) (by go_grown : Below w.heap.size w _)))); have HF := hid ((FarO.of H.out.2.1 (Nat.le_refl _) : FarO (own4 v1 v2 v3 v4) w.heap.size).tt (RT.mk hkp hnew) (by simp)); clear hn1 hk1 hkp hnew; have x1 := BT.out.cell 1; have x2 := BT.out.cell 2; have f1 := BT.out.frozen 1; have f2 := BT.out.frozen 2))
  go_loopg [5, 6] us.length (fun g lv x wr => ∃ (i : Nat) (A6 : Option Addr) (c6 : Nat) (xs : List Value) (es1 : List (ByteArray × Int)) (b1 b2 b3 b4 : Value), i + g = us.length ∧ x = .int .i64 i ∧ lv = .slice A6 i c6 ∧ Hid (RBn (w.heap.size + 2) (canFL (K) (us.take i)).2 i (.slice A6 i c6) xs (own4 b1 b2 b3 b4) wr) ∧ Hid (RNK wr p es1 b1 b2 b3 b4 (canFL (K) (us.take i)).1) ∧ Hid (RT p w (own4 v1 v2 v3 v4) wr (own4 b1 b2 b3 b4)) ∧ Hid (FarO (own4 b1 b2 b3 b4) w.heap.size) ∧ Hid (Blk wr w.heap.size 24 #[.int .i64 (2), .string (nm), .int .i64 (0), .slice A us.length c]) ∧ Hid (Blk wr (w.heap.size + 1) 24 #[.int .i64 0, .string ⟨#[]⟩, .int .i64 0, .slice none 0 0]))
  case atStart => exact ⟨0, none, 0, [], es1, u1, u2, u3, u4, by omega, rfl, rfl, hid (RBn.start _ _ _), hid ⟨(J1.out.1.setN HF.out Hp.out _ _).setN HF.out Hp.out _ _, by simpa [canFL] using J1.out.2.1⟩, hid ((J1.out.2.2.one (Nat.le_refl _) _).one (Nat.le_refl _) _), HF, hid ((BT.out.set_ 1 _).set_ 2 _), hid ((BR.out.far (by dsimp only; omega) _).far (by dsimp only; omega) _)⟩
  case round =>
    obtain ⟨i, A6, c6, xs, es1, b1, b2, b3, b4, hi, rfl, rfl, hB, hN, hT, hF, hX, hO⟩ := hrel
    have Hi := hid hi
    have x3 : wr.cell? ⟨w.heap.size, 3, none⟩ = some (.slice A us.length c) := hX.out.cell 3
    by_cases hlt : i < us.length
    · have hlt' : (i : Int) < us.length := by omega
      obtain ⟨ad, q', s', n', A3, m', c3, hA, hSb, hab, y0, y1, y2, y3, hel⟩ := (rt_type H.out.1 H.out.2.1 hT.out).elem hlt
      subst hA
      have Q := hid (And.intro hel (And.intro (List.getElem_mem hlt) (canFL_take (ks := (K)) hlt)))
      have hbd : es1.length + nodes us[i] ≤ 1050 := by have h1 := canFL_len (us.take i) (K); have h3 := nodesL_split hlt; have h4 := HKB.out; rw [← keysOf_length es1, hN.out.2]; omega
      have HBD := hid hbd
      clear hi hSb hab hel hbd
      go_wp2_with (first
        | (go_at_call 27; go_must (refine (H.out.2.2.2.2 us[i] es1 b1 b2 b3 b4 _ _ (HS.out _ Q.out.2.1) Q.out.1 hN.out.1 HBD.out).mono ?_); rintro e w1 ⟨vr, es2, a1, a2, a3, a4, rfl, hv, hn1, hk1, ht1⟩; go_must (obtain ⟨q9, s9, n9, A9, m9, c9, rfl⟩ := hv.agg; rw [hN.out.2] at hv hk1; have J := hid (And.intro hv (And.intro hn1 (And.intro hk1 ht1))); clear hv hn1 hk1 ht1))
        | (at_builtin; go_must (refine wpList_appT (by rfl) _ _ (by rfl) (w.heap.size + 2) (by rfl) (n := i) (World.ownsRow.alloc (hB.out.row1 (by have := Hp.out; omega) J.out.2.2.2) _) (by rfl) (by rfl) (cells_lit _ (by simp) _ _ _ _ _) (by simp [Value.oneCell']) (by omega) (by have h1 := J.out.2.2.2.kept.size; have h2 := hO.out.lt; simp; omega) ?_); intro v' w2 hr2 hg2 hn2; go_must (obtain ⟨A7, c7, rfl, _⟩ := row_slice hr2; have M := hid (hB.out.step Hp.out hX.out hO.out hT.out hF.out J.out.2.2.2 J.out.1 J.out.2.1 hr2 hg2 hn2); clear hr2 hg2 hn2)))
      have hgk := Hi.out
      go_roundg (gk - 1)
      case rel => exact ⟨i + 1, A7, c7, _, es2, a1, a2, a3, a4, by omega, by go_num, rfl, hid (by rw [Q.out.2.2]; exact M.out.1), hid ⟨M.out.2.1, by rw [Q.out.2.2]; exact J.out.2.2.1⟩, hid M.out.2.2.1, hid M.out.2.2.2.1, hid M.out.2.2.2.2.1, hid M.out.2.2.2.2.2⟩
      case measure => omega
    · obtain rfl : i = us.length := by omega
      clear hi
      have X1 := hid (hX.out.set_ 3 (.slice A6 us.length c6))
      have x0 : (wr.setCell ⟨w.heap.size, 3, none⟩ (.slice A6 us.length c6)).cell? ⟨w.heap.size, 0, none⟩ = some (.int .i64 (2)) := X1.out.cell 0
      have x1 : (wr.setCell ⟨w.heap.size, 3, none⟩ (.slice A6 us.length c6)).cell? ⟨w.heap.size, 1, none⟩ = some (.string (nm)) := X1.out.cell 1
      have x2 : (wr.setCell ⟨w.heap.size, 3, none⟩ (.slice A6 us.length c6)).cell? ⟨w.heap.size, 2, none⟩ = some (.int .i64 (0)) := X1.out.cell 2
      have x4 : (wr.setCell ⟨w.heap.size, 3, none⟩ (.slice A6 us.length c6)).cell? ⟨w.heap.size, 3, none⟩ = some (.slice A6 us.length c6) := X1.out.cell 3
      have f3 := hX.out.frozen 3
      have OUT : Hid (Blk (wr.setCell ⟨w.heap.size, 3, none⟩ (.slice A6 us.length c6)) (w.heap.size + 1) 24 #[.int .i64 0, .string ⟨#[]⟩, .int .i64 0, .slice none 0 0]) := hid (hO.out.far (p := ⟨w.heap.size, 3, none⟩) (by dsimp only; omega) _); have o0 : (wr.setCell ⟨w.heap.size, 3, none⟩ (.slice A6 us.length c6)).cell? ⟨w.heap.size + 1, 0, none⟩ = some (.int .i64 0) := OUT.out.cell 0; have o1 : (wr.setCell ⟨w.heap.size, 3, none⟩ (.slice A6 us.length c6)).cell? ⟨w.heap.size + 1, 1, none⟩ = some (.string ⟨#[]⟩) := OUT.out.cell 1; have o2 : (wr.setCell ⟨w.heap.size, 3, none⟩ (.slice A6 us.length c6)).cell? ⟨w.heap.size + 1, 2, none⟩ = some (.int .i64 0) := OUT.out.cell 2; have o3 : (wr.setCell ⟨w.heap.size, 3, none⟩ (.slice A6 us.length c6)).cell? ⟨w.heap.size + 1, 3, none⟩ = some (.slice none 0 0) := OUT.out.cell 3; have g0 := OUT.out.frozen 0; have g1 := OUT.out.frozen 1; have g2 := OUT.out.frozen 2; have g3 := OUT.out.frozen 3
      go_wp2
      have hB9 := hB.out
      have hN9 := hN.out
      rw [List.take_length] at hB9 hN9
      refine ret_type rfl (by rfl) (set4_blk OUT.out) rfl ⟨_, es1, b1, b2, b3, b4, rfl, ?_⟩
      rw [HCAN.out]
      exact cn_fin (hB9.end_ hN9.1 hT.out hF.out rfl Hp.out ((((((Kept.refl _ wr).setCell (p := ⟨w.heap.size, 3, none⟩) (.inl (.inl rfl)) _).setCell (p := ⟨w.heap.size + 1, 0, none⟩) (.inl (.inr rfl)) _).setCell (p := ⟨w.heap.size + 1, 1, none⟩) (.inl (.inr rfl)) _).setCell (p := ⟨w.heap.size + 1, 2, none⟩) (.inl (.inr rfl)) _).setCell (p := ⟨w.heap.size + 1, 3, none⟩) (.inl (.inr rfl)) _) HQ.out.1 HQ.out.2) hN9.2
theorem ref_canon (p : Nat) : ∀ N, CnoC p N := by
  intro N
  induction N with
  | zero => intro t es v1 v2 v3 v4 v w hN; cases t; simp at hN
  | succ N ih =>
    intro t es v1 v2 v3 v4 v w hN hv hn hb
    obtain ⟨q, s, n, us⟩ := t
    obtain ⟨A, c, rfl, hc, hcm, _, hrow, hq, hk⟩ := hv.parts
    have hnd : nodes (.mk q s n us) = 1 + nodesL us := by rw [nodes]
    rw [hnd] at hb
    have HS := hid (show ∀ t ∈ us, SizeOf.sizeOf t ≤ N from fun t ht => by have := ty_lt (k := q) (n := n) (s := s) ht; omega)
    by_cases h2 : q = 2
    · subst h2
      exact cn_var p N ih s n us es v1 v2 v3 v4 A c w HS hb hrow hn
    · exact cn_other p N ih q s n us es v1 v2 v3 v4 A c w HS hb hrow hn h2 hq hk
end Go.Proofs.YtnlifgcnmhakiaaDoor
