/-
  THE WALK OF (*typ.names).of.
-/
import Derived.Test.YtnlifgcnmhakiaaDoorTOfL
import Derived.Laws.Runes
import Derived.Deep.RegionLaw
namespace Go.Proofs.YtnlifgcnmhakiaaDoor
open Go.ChangeShapes Go.WideShapes Go.ChangeAt Go.RowKit

theorem list_of_data (s : ByteArray) : s.toList = s.data.toList := by rw [ByteArray.toList_eq]
theorem of_b1 {w w1 : World} {t1 t2 t3 : TypeId} {c1 c2 c3 : Array Value} (hb : Below (((w.alloc (.cells c1 t1)).alloc (.cells c2 t2)).alloc (.cells c3 t3)).heap.size (((w.alloc (.cells c1 t1)).alloc (.cells c2 t2)).alloc (.cells c3 t3)) w1) : Blk w1 w.heap.size t1 c1 := (((Blk.new w t1 c1).alloc _).alloc _).below hb (by simp; omega)
theorem of_b2 {w w1 : World} {t1 t2 t3 : TypeId} {c1 c2 c3 : Array Value} (hb : Below (((w.alloc (.cells c1 t1)).alloc (.cells c2 t2)).alloc (.cells c3 t3)).heap.size (((w.alloc (.cells c1 t1)).alloc (.cells c2 t2)).alloc (.cells c3 t3)) w1) : Blk w1 (w.heap.size + 1) t2 c2 := ((Blk.new' (w := w.alloc (.cells c1 t1)) (by simp) t2 c2).alloc _).below hb (by simp)
theorem of_b3 {w w1 : World} {t1 t2 t3 : TypeId} {c1 c2 c3 : Array Value} (hb : Below (((w.alloc (.cells c1 t1)).alloc (.cells c2 t2)).alloc (.cells c3 t3)).heap.size (((w.alloc (.cells c1 t1)).alloc (.cells c2 t2)).alloc (.cells c3 t3)) w1) : Blk w1 (w.heap.size + 1 + 1) t3 c3 := (Blk.new' (w := (w.alloc (.cells c1 t1)).alloc (.cells c2 t2)) (by simp) t3 c3).below hb (by simp)
theorem of_b4 {w w1 : World} {o1 o2 o3 : Obj} (hb : Below (((w.alloc o1).alloc o2).alloc o3).heap.size (((w.alloc o1).alloc o2).alloc o3) w1) : Below w.heap.size w w1 := below_hop hb ((((Below.refl w.heap.size w).alloc (Nat.le_refl _) o1).alloc (by simp) o2).alloc (by simp; omega) o3)
def letB (i : Nat) : ByteArray := ⟨#[(97 + i % 26).toUInt8]⟩
theorem letB_size (i : Nat) : (letB i).size = 1 := rfl
theorem utf_name (i : Nat) : Utf8.encode (97 + (i : Int) % 26) = letB i := by
  have h := of_decide_eq_true (of_range (n := 26) (p := fun i => decide (Utf8.encode (97 + (i : Int)) = ⟨#[(97 + i).toUInt8]⟩)) (by kernel_rfl) (Nat.mod_lt i (by omega : 26 > 0)))
  rw [show (97 + (i : Int) % 26) = 97 + ((i % 26 : Nat) : Int) by omega, h]
  rfl
theorem name_lo {i : Nat} (h : i < 26) : letB i = nameB i := by unfold letB nameB; rw [if_pos h]
theorem name_hi {i : Nat} (h : ¬ i < 26) : letB i ++ smallB (i / 26) = nameB i := by unfold letB nameB; rw [if_neg h]
theorem str_ItoaI (i : Int) (m : Nat) (hm : m < 100) (hi : i = m) (w : World) : Calls Tryd.prog 38 #[.int .i64 i] w fun e w' => e = .returned (.string (smallB m)) ∧ w = w' := by subst hi; exact str_Itoa m hm w
set_option maxHeartbeats 8000000 in
set_option maxRecDepth 100000 in
theorem of_f1 (p N : Nat) (ih : OfC p N) (s : ByteArray) (n : Int) (us : List Ty) (ks : List (ByteArray × Int)) (A' A : Option Addr) (c' c pp : Nat) (w : World) (HS : Hid (∀ t ∈ us, SizeOf.sizeOf t ≤ N)) (hb : ks.length + (1 + nodesL us) ≤ 1050) (hrow : TRow w (fun b => b < p) us A 0) (hn : NL w p ks (.slice A' ks.length c'))
    (hse : s.toList.isEmpty = true) (hkey : keyOf s n = (s, n)) (hpp : pp = posK ks (s, n)) (hf : pp < ks.length) (hlo : pp < 26) :
    Calls Tryd.prog 24 #[.pointer (some ⟨p, 0, none⟩), .agg #[.int .i64 2, .string s, .int .i64 n, .slice A us.length c]] w (OfP p (.mk 2 s n us) ks (.slice A' ks.length c') w) := by
  have hl := length_nodes us
  have hul : us.length ≤ 1050 := by omega
  have hkl : ks.length ≤ 1050 := by omega
  have H := hid (And.intro hrow (And.intro hn (And.intro True.intro (And.intro True.intro ih))))
  have HB := hid hb
  have Hp := hid hn.blk.lt
  have HKR := hid hn.krow
  have yp : ∀ o1 o2 o3, (((w.alloc o1).alloc o2).alloc o3).cell? ⟨p, 0, none⟩ = some (.slice A' ks.length c') := fun o1 o2 o3 => (((hn.blk.alloc o1).alloc o2).alloc o3).cell 0
  have HF := hid (Far.of hn (Nat.le_refl _))
  have hcan : canF ks (.mk 2 s n us) = ((canFL (addK ks (s, n)) us).1, .mk 2 (nameB pp) 0 (canFL (addK ks (s, n)) us).2) := by rw [canF, if_pos rfl, hkey, hpp]
  have hle := posK_le ks (s, n)
  have hple : pp ≤ 1050 := by omega
  have hp1 : (pp : Int) < 1100 := by omega
  have hq9 : (Lit.int .i64 2).wf = true ∧ (Lit.int .i64 0).wf = true := ⟨by decide, by decide⟩
  have HQ := hid hq9
  clear hrow hn ih hl hkey hq9
  have hpi : posI ks (s, n) = (pp : Int) := by unfold posI; rw [if_pos (by rw [← hpp]; exact hf), hpp]
  have HPI := hid hpi
  have hp0 : ¬ (pp : Int) < 0 := by omega
  have hk9 : addK ks (s, n) = ks := by unfold addK; rw [if_pos (by rw [← hpp]; exact hf)]
  rw [hk9] at hcan
  have HKB := hid (show ks.length + nodesL us ≤ 1050 by omega)
  clear hpi hk9 hle hpp hb hf
  have h26 : pp < 26 := hlo
  have h26' : (pp : Int) < 26 := by omega
  have hcan2 : canF ks (.mk 2 s n us) = ((canFL ks us).1, .mk 2 (Utf8.encode (97 + (pp : Int) % 26)) 0 (canFL ks us).2) := by rw [hcan, utf_name, name_lo h26]
  have HCAN := hid hcan2
  clear hcan hcan2 hple
  go_enter Tryd.func24, Tryd.ntmps24
  go_wp2_with (go_at_call 36; go_must (refine (of_index ks (s, n) A' c' _ _ (by omega) (HKR.out.up (by go_grown : Below w.heap.size w _)) (Blk.new' (by simp) _ _)).mono ?_); rintro e w1 ⟨he9, b1⟩; go_must (rw [HPI.out] at he9; subst he9; have BT := hid (of_b1 b1); have x1 := (BT.out.four).2.1; have x2 := (BT.out.four).2.2.1; have x3 := (BT.out.four).2.2.2.1; have f1 := BT.out.frozen 1; have f2 := BT.out.frozen 2; have BR := hid (of_b2 b1); have BV := hid (of_b3 b1); have b9 := of_b4 b1; have W9 := hid (And.intro (H.out.2.1.up b9) ((TT.refl p w (.slice A' ks.length c')).after b9)); clear b1 b9))
  go_loopg [7, 77] us.length (fun g lv x wr => ∃ (i : Nat) (A6 : Option Addr) (c6 : Nat) (xs : List Value) (vb : Value), i + g = us.length ∧ x = .int .i64 i ∧ lv = .slice A6 i c6 ∧ Hid (Bn (w.heap.size + 2) (canFL ks (us.take i)).2 i (.slice A6 i c6) xs vb wr) ∧ Hid (NL wr p (canFL ks (us.take i)).1 vb) ∧ Hid (TT p w (.slice A' ks.length c') wr vb) ∧ Hid (Far vb w.heap.size) ∧ Hid (Blk wr w.heap.size 24 #[.int .i64 (2), .string (Utf8.encode (97 + (pp : Int) % 26)), .int .i64 (0), .slice A us.length c]) ∧ Hid (Blk wr (w.heap.size + 1) 24 #[.int .i64 0, .string ⟨#[]⟩, .int .i64 0, .slice none 0 0]))
  case atStart => exact ⟨0, none, 0, [], _, by omega, rfl, rfl, hid (Bn.start _ _ _), hid (by simpa [canFL] using W9.out.1.two HF.out Hp.out _ _), hid ((W9.out.2.one (Nat.le_refl _) _).one (Nat.le_refl _) _), HF, hid ((BT.out.set_ 1 _).set_ 2 _), hid ((BR.out.far (by dsimp only; omega) _).far (by dsimp only; omega) _)⟩
  case round =>
    obtain ⟨i, A6, c6, xs, vb, hi, rfl, rfl, hB, hN, hT, hF, hX, hO⟩ := hrel
    have Hi := hid hi
    by_cases hlt : i < us.length
    · have hlt' : (i : Int) < us.length := by omega
      obtain ⟨ad, q', s', n', A3, m', c3, hA, hSb, hab, y0, y1, y2, y3, hel⟩ := (tt_type H.out.1 H.out.2.1 hT.out).elem hlt
      subst hA
      have Q := hid (And.intro hel (And.intro (List.getElem_mem hlt) (canFL_take (ks := ks) hlt)))
      have hbd : (canFL ks (us.take i)).1.length + nodes us[i] ≤ 1050 := by have h1 := canFL_len (us.take i) ks; have h3 := nodesL_split hlt; have h4 := HKB.out; omega
      have HBD := hid hbd
      clear hi hSb hab hel hbd
      go_wp2_with (first
        | (go_at_call 24; go_must (refine (H.out.2.2.2.2 us[i] _ vb _ _ (HS.out _ Q.out.2.1) (Q.out.1.up (by go_grown : Below wr.heap.size wr _)) (hN.out.up (by go_grown : Below wr.heap.size wr _)) HBD.out).mono ?_); rintro e w1 ⟨vr, vb1, rfl, hv, hn1, ht1⟩; go_must (obtain ⟨q9, s9, n9, A9, m9, c9, rfl⟩ := hv.agg; have J := hid (And.intro (hv.mono (T := fun b => wr.heap.size ≤ b ∧ vb1.ownBlock ≠ some b) (fun b hb _ => ⟨by have := hb.1; simp at this; omega, hb.2⟩)) (And.intro hn1 (ht1.pre (by go_grown : Below wr.heap.size wr _)))); clear hv hn1 ht1))
        | (at_builtin; go_must (refine wpList_appT (by rfl) _ _ (by rfl) (w.heap.size + 2) (by rfl) (n := i) (World.ownsRow.alloc (hB.out.row1 (by have := Hp.out; omega) J.out.2.2) _) (by rfl) (by rfl) (cells_lit _ (by simp) _ _ _ _ _) (by simp [Value.oneCell']) (by omega) (by have h1 := J.out.2.2.kept.size; have h2 := hO.out.lt; simp; omega) ?_); intro v' w2 hr2 hg2 hn2; go_must (obtain ⟨A7, c7, rfl, _⟩ := row_slice hr2; have M := hid (hB.out.step Hp.out hX.out hO.out hT.out hF.out J.out.2.2 J.out.1 J.out.2.1 hr2 hg2 hn2); clear hr2 hg2 hn2)))
      have hgk := Hi.out
      go_roundg (gk - 1)
      case rel => exact ⟨i + 1, A7, c7, _, vb1, by omega, rfl, rfl, hid (by rw [Q.out.2.2]; exact M.out.1), hid (by rw [Q.out.2.2]; exact M.out.2.1), hid M.out.2.2.1, hid M.out.2.2.2.1, hid M.out.2.2.2.2.1, hid M.out.2.2.2.2.2⟩
      case measure => omega
    · obtain rfl : i = us.length := by omega
      clear hi
      have X1 := hid (hX.out.set_ 3 (.slice A6 us.length c6))
      have x0 : (wr.setCell ⟨w.heap.size, 3, none⟩ (.slice A6 us.length c6)).cell? ⟨w.heap.size, 0, none⟩ = some (.int .i64 (2)) := X1.out.cell 0
      have x1 : (wr.setCell ⟨w.heap.size, 3, none⟩ (.slice A6 us.length c6)).cell? ⟨w.heap.size, 1, none⟩ = some (.string (Utf8.encode (97 + (pp : Int) % 26))) := X1.out.cell 1
      have x2 : (wr.setCell ⟨w.heap.size, 3, none⟩ (.slice A6 us.length c6)).cell? ⟨w.heap.size, 2, none⟩ = some (.int .i64 (0)) := X1.out.cell 2
      have x3 : (wr.setCell ⟨w.heap.size, 3, none⟩ (.slice A6 us.length c6)).cell? ⟨w.heap.size, 3, none⟩ = some (.slice A6 us.length c6) := X1.out.cell 3
      have y3 : wr.cell? ⟨w.heap.size, 3, none⟩ = some (.slice A us.length c) := hX.out.cell 3
      have f3 := hX.out.frozen 3
      have OUT : Hid (Blk (wr.setCell ⟨w.heap.size, 3, none⟩ (.slice A6 us.length c6)) (w.heap.size + 1) 24 #[.int .i64 0, .string ⟨#[]⟩, .int .i64 0, .slice none 0 0]) := hid (hO.out.far (p := ⟨w.heap.size, 3, none⟩) (by dsimp only; omega) _); have o0 : (wr.setCell ⟨w.heap.size, 3, none⟩ (.slice A6 us.length c6)).cell? ⟨w.heap.size + 1, 0, none⟩ = some (.int .i64 0) := OUT.out.cell 0; have o1 : (wr.setCell ⟨w.heap.size, 3, none⟩ (.slice A6 us.length c6)).cell? ⟨w.heap.size + 1, 1, none⟩ = some (.string ⟨#[]⟩) := OUT.out.cell 1; have o2 : (wr.setCell ⟨w.heap.size, 3, none⟩ (.slice A6 us.length c6)).cell? ⟨w.heap.size + 1, 2, none⟩ = some (.int .i64 0) := OUT.out.cell 2; have o3 : (wr.setCell ⟨w.heap.size, 3, none⟩ (.slice A6 us.length c6)).cell? ⟨w.heap.size + 1, 3, none⟩ = some (.slice none 0 0) := OUT.out.cell 3; have g0 := OUT.out.frozen 0; have g1 := OUT.out.frozen 1; have g2 := OUT.out.frozen 2; have g3 := OUT.out.frozen 3
      go_wp2
      have hB9 := hB.out
      have hN9 := hN.out
      rw [List.take_length] at hB9 hN9
      refine ret_type rfl (by rfl) (set4_blk OUT.out) rfl ⟨_, vb, rfl, ?_⟩
      rw [HCAN.out]
      exact hB9.end_ hN9 hT.out hF.out rfl Hp.out ((((((Kept.refl _ wr).setCell (p := ⟨w.heap.size, 3, none⟩) (.inl (.inl rfl)) _).setCell (p := ⟨w.heap.size + 1, 0, none⟩) (.inl (.inr rfl)) _).setCell (p := ⟨w.heap.size + 1, 1, none⟩) (.inl (.inr rfl)) _).setCell (p := ⟨w.heap.size + 1, 2, none⟩) (.inl (.inr rfl)) _).setCell (p := ⟨w.heap.size + 1, 3, none⟩) (.inl (.inr rfl)) _) HQ.out.1 HQ.out.2
set_option maxHeartbeats 8000000 in
set_option maxRecDepth 100000 in
theorem of_f2 (p N : Nat) (ih : OfC p N) (s : ByteArray) (n : Int) (us : List Ty) (ks : List (ByteArray × Int)) (A' A : Option Addr) (c' c pp : Nat) (w : World) (HS : Hid (∀ t ∈ us, SizeOf.sizeOf t ≤ N)) (hb : ks.length + (1 + nodesL us) ≤ 1050) (hrow : TRow w (fun b => b < p) us A 0) (hn : NL w p ks (.slice A' ks.length c'))
    (hse : s.toList.isEmpty = false) (hkey : keyOf s n = (s, 0)) (hpp : pp = posK ks (s, 0)) (hf : pp < ks.length) (hlo : pp < 26) :
    Calls Tryd.prog 24 #[.pointer (some ⟨p, 0, none⟩), .agg #[.int .i64 2, .string s, .int .i64 n, .slice A us.length c]] w (OfP p (.mk 2 s n us) ks (.slice A' ks.length c') w) := by
  have hl := length_nodes us
  have hul : us.length ≤ 1050 := by omega
  have hkl : ks.length ≤ 1050 := by omega
  have H := hid (And.intro hrow (And.intro hn (And.intro True.intro (And.intro True.intro ih))))
  have HB := hid hb
  have Hp := hid hn.blk.lt
  have HKR := hid hn.krow
  have yp : ∀ o1 o2 o3, (((w.alloc o1).alloc o2).alloc o3).cell? ⟨p, 0, none⟩ = some (.slice A' ks.length c') := fun o1 o2 o3 => (((hn.blk.alloc o1).alloc o2).alloc o3).cell 0
  have HF := hid (Far.of hn (Nat.le_refl _))
  have hcan : canF ks (.mk 2 s n us) = ((canFL (addK ks (s, 0)) us).1, .mk 2 (nameB pp) 0 (canFL (addK ks (s, 0)) us).2) := by rw [canF, if_pos rfl, hkey, hpp]
  have hle := posK_le ks (s, 0)
  have hple : pp ≤ 1050 := by omega
  have hp1 : (pp : Int) < 1100 := by omega
  have hq9 : (Lit.int .i64 2).wf = true ∧ (Lit.int .i64 0).wf = true := ⟨by decide, by decide⟩
  have HQ := hid hq9
  clear hrow hn ih hl hkey hq9
  have hpi : posI ks (s, 0) = (pp : Int) := by unfold posI; rw [if_pos (by rw [← hpp]; exact hf), hpp]
  have HPI := hid hpi
  have hp0 : ¬ (pp : Int) < 0 := by omega
  have hk9 : addK ks (s, 0) = ks := by unfold addK; rw [if_pos (by rw [← hpp]; exact hf)]
  rw [hk9] at hcan
  have HKB := hid (show ks.length + nodesL us ≤ 1050 by omega)
  clear hpi hk9 hle hpp hb hf
  have h26 : pp < 26 := hlo
  have h26' : (pp : Int) < 26 := by omega
  have hcan2 : canF ks (.mk 2 s n us) = ((canFL ks us).1, .mk 2 (Utf8.encode (97 + (pp : Int) % 26)) 0 (canFL ks us).2) := by rw [hcan, utf_name, name_lo h26]
  have HCAN := hid hcan2
  clear hcan hcan2 hple
  go_enter Tryd.func24, Tryd.ntmps24
  go_wp2_with (go_at_call 36; go_must (refine (of_index ks (s, 0) A' c' _ _ (by omega) (HKR.out.up (by go_grown : Below w.heap.size w _)) (Blk.new' (by simp) _ _)).mono ?_); rintro e w1 ⟨he9, b1⟩; go_must (rw [HPI.out] at he9; subst he9; have BT := hid (of_b1 b1); have x1 := (BT.out.four).2.1; have x2 := (BT.out.four).2.2.1; have x3 := (BT.out.four).2.2.2.1; have f1 := BT.out.frozen 1; have f2 := BT.out.frozen 2; have BR := hid (of_b2 b1); have BV := hid (of_b3 b1); have b9 := of_b4 b1; have W9 := hid (And.intro (H.out.2.1.up b9) ((TT.refl p w (.slice A' ks.length c')).after b9)); clear b1 b9))
  go_loopg [7, 77] us.length (fun g lv x wr => ∃ (i : Nat) (A6 : Option Addr) (c6 : Nat) (xs : List Value) (vb : Value), i + g = us.length ∧ x = .int .i64 i ∧ lv = .slice A6 i c6 ∧ Hid (Bn (w.heap.size + 2) (canFL ks (us.take i)).2 i (.slice A6 i c6) xs vb wr) ∧ Hid (NL wr p (canFL ks (us.take i)).1 vb) ∧ Hid (TT p w (.slice A' ks.length c') wr vb) ∧ Hid (Far vb w.heap.size) ∧ Hid (Blk wr w.heap.size 24 #[.int .i64 (2), .string (Utf8.encode (97 + (pp : Int) % 26)), .int .i64 (0), .slice A us.length c]) ∧ Hid (Blk wr (w.heap.size + 1) 24 #[.int .i64 0, .string ⟨#[]⟩, .int .i64 0, .slice none 0 0]))
  case atStart => exact ⟨0, none, 0, [], _, by omega, rfl, rfl, hid (Bn.start _ _ _), hid (by simpa [canFL] using W9.out.1.two HF.out Hp.out _ _), hid ((W9.out.2.one (Nat.le_refl _) _).one (Nat.le_refl _) _), HF, hid ((BT.out.set_ 1 _).set_ 2 _), hid ((BR.out.far (by dsimp only; omega) _).far (by dsimp only; omega) _)⟩
  case round =>
    obtain ⟨i, A6, c6, xs, vb, hi, rfl, rfl, hB, hN, hT, hF, hX, hO⟩ := hrel
    have Hi := hid hi
    by_cases hlt : i < us.length
    · have hlt' : (i : Int) < us.length := by omega
      obtain ⟨ad, q', s', n', A3, m', c3, hA, hSb, hab, y0, y1, y2, y3, hel⟩ := (tt_type H.out.1 H.out.2.1 hT.out).elem hlt
      subst hA
      have Q := hid (And.intro hel (And.intro (List.getElem_mem hlt) (canFL_take (ks := ks) hlt)))
      have hbd : (canFL ks (us.take i)).1.length + nodes us[i] ≤ 1050 := by have h1 := canFL_len (us.take i) ks; have h3 := nodesL_split hlt; have h4 := HKB.out; omega
      have HBD := hid hbd
      clear hi hSb hab hel hbd
      go_wp2_with (first
        | (go_at_call 24; go_must (refine (H.out.2.2.2.2 us[i] _ vb _ _ (HS.out _ Q.out.2.1) (Q.out.1.up (by go_grown : Below wr.heap.size wr _)) (hN.out.up (by go_grown : Below wr.heap.size wr _)) HBD.out).mono ?_); rintro e w1 ⟨vr, vb1, rfl, hv, hn1, ht1⟩; go_must (obtain ⟨q9, s9, n9, A9, m9, c9, rfl⟩ := hv.agg; have J := hid (And.intro (hv.mono (T := fun b => wr.heap.size ≤ b ∧ vb1.ownBlock ≠ some b) (fun b hb _ => ⟨by have := hb.1; simp at this; omega, hb.2⟩)) (And.intro hn1 (ht1.pre (by go_grown : Below wr.heap.size wr _)))); clear hv hn1 ht1))
        | (at_builtin; go_must (refine wpList_appT (by rfl) _ _ (by rfl) (w.heap.size + 2) (by rfl) (n := i) (World.ownsRow.alloc (hB.out.row1 (by have := Hp.out; omega) J.out.2.2) _) (by rfl) (by rfl) (cells_lit _ (by simp) _ _ _ _ _) (by simp [Value.oneCell']) (by omega) (by have h1 := J.out.2.2.kept.size; have h2 := hO.out.lt; simp; omega) ?_); intro v' w2 hr2 hg2 hn2; go_must (obtain ⟨A7, c7, rfl, _⟩ := row_slice hr2; have M := hid (hB.out.step Hp.out hX.out hO.out hT.out hF.out J.out.2.2 J.out.1 J.out.2.1 hr2 hg2 hn2); clear hr2 hg2 hn2)))
      have hgk := Hi.out
      go_roundg (gk - 1)
      case rel => exact ⟨i + 1, A7, c7, _, vb1, by omega, rfl, rfl, hid (by rw [Q.out.2.2]; exact M.out.1), hid (by rw [Q.out.2.2]; exact M.out.2.1), hid M.out.2.2.1, hid M.out.2.2.2.1, hid M.out.2.2.2.2.1, hid M.out.2.2.2.2.2⟩
      case measure => omega
    · obtain rfl : i = us.length := by omega
      clear hi
      have X1 := hid (hX.out.set_ 3 (.slice A6 us.length c6))
      have x0 : (wr.setCell ⟨w.heap.size, 3, none⟩ (.slice A6 us.length c6)).cell? ⟨w.heap.size, 0, none⟩ = some (.int .i64 (2)) := X1.out.cell 0
      have x1 : (wr.setCell ⟨w.heap.size, 3, none⟩ (.slice A6 us.length c6)).cell? ⟨w.heap.size, 1, none⟩ = some (.string (Utf8.encode (97 + (pp : Int) % 26))) := X1.out.cell 1
      have x2 : (wr.setCell ⟨w.heap.size, 3, none⟩ (.slice A6 us.length c6)).cell? ⟨w.heap.size, 2, none⟩ = some (.int .i64 (0)) := X1.out.cell 2
      have x3 : (wr.setCell ⟨w.heap.size, 3, none⟩ (.slice A6 us.length c6)).cell? ⟨w.heap.size, 3, none⟩ = some (.slice A6 us.length c6) := X1.out.cell 3
      have y3 : wr.cell? ⟨w.heap.size, 3, none⟩ = some (.slice A us.length c) := hX.out.cell 3
      have f3 := hX.out.frozen 3
      have OUT : Hid (Blk (wr.setCell ⟨w.heap.size, 3, none⟩ (.slice A6 us.length c6)) (w.heap.size + 1) 24 #[.int .i64 0, .string ⟨#[]⟩, .int .i64 0, .slice none 0 0]) := hid (hO.out.far (p := ⟨w.heap.size, 3, none⟩) (by dsimp only; omega) _); have o0 : (wr.setCell ⟨w.heap.size, 3, none⟩ (.slice A6 us.length c6)).cell? ⟨w.heap.size + 1, 0, none⟩ = some (.int .i64 0) := OUT.out.cell 0; have o1 : (wr.setCell ⟨w.heap.size, 3, none⟩ (.slice A6 us.length c6)).cell? ⟨w.heap.size + 1, 1, none⟩ = some (.string ⟨#[]⟩) := OUT.out.cell 1; have o2 : (wr.setCell ⟨w.heap.size, 3, none⟩ (.slice A6 us.length c6)).cell? ⟨w.heap.size + 1, 2, none⟩ = some (.int .i64 0) := OUT.out.cell 2; have o3 : (wr.setCell ⟨w.heap.size, 3, none⟩ (.slice A6 us.length c6)).cell? ⟨w.heap.size + 1, 3, none⟩ = some (.slice none 0 0) := OUT.out.cell 3; have g0 := OUT.out.frozen 0; have g1 := OUT.out.frozen 1; have g2 := OUT.out.frozen 2; have g3 := OUT.out.frozen 3
      go_wp2
      have hB9 := hB.out
      have hN9 := hN.out
      rw [List.take_length] at hB9 hN9
      refine ret_type rfl (by rfl) (set4_blk OUT.out) rfl ⟨_, vb, rfl, ?_⟩
      rw [HCAN.out]
      exact hB9.end_ hN9 hT.out hF.out rfl Hp.out ((((((Kept.refl _ wr).setCell (p := ⟨w.heap.size, 3, none⟩) (.inl (.inl rfl)) _).setCell (p := ⟨w.heap.size + 1, 0, none⟩) (.inl (.inr rfl)) _).setCell (p := ⟨w.heap.size + 1, 1, none⟩) (.inl (.inr rfl)) _).setCell (p := ⟨w.heap.size + 1, 2, none⟩) (.inl (.inr rfl)) _).setCell (p := ⟨w.heap.size + 1, 3, none⟩) (.inl (.inr rfl)) _) HQ.out.1 HQ.out.2
set_option maxHeartbeats 8000000 in
set_option maxRecDepth 100000 in
theorem of_g1 (p N : Nat) (ih : OfC p N) (s : ByteArray) (n : Int) (us : List Ty) (ks : List (ByteArray × Int)) (A' A : Option Addr) (c' c pp : Nat) (w : World) (HS : Hid (∀ t ∈ us, SizeOf.sizeOf t ≤ N)) (hb : ks.length + (1 + nodesL us) ≤ 1050) (hrow : TRow w (fun b => b < p) us A 0) (hn : NL w p ks (.slice A' ks.length c'))
    (hse : s.toList.isEmpty = true) (hkey : keyOf s n = (s, n)) (hpp : pp = posK ks (s, n)) (hf : pp < ks.length) (hlo : ¬ pp < 26) :
    Calls Tryd.prog 24 #[.pointer (some ⟨p, 0, none⟩), .agg #[.int .i64 2, .string s, .int .i64 n, .slice A us.length c]] w (OfP p (.mk 2 s n us) ks (.slice A' ks.length c') w) := by
  have hl := length_nodes us
  have hul : us.length ≤ 1050 := by omega
  have hkl : ks.length ≤ 1050 := by omega
  have H := hid (And.intro hrow (And.intro hn (And.intro True.intro (And.intro True.intro ih))))
  have HB := hid hb
  have Hp := hid hn.blk.lt
  have HKR := hid hn.krow
  have yp : ∀ o1 o2 o3, (((w.alloc o1).alloc o2).alloc o3).cell? ⟨p, 0, none⟩ = some (.slice A' ks.length c') := fun o1 o2 o3 => (((hn.blk.alloc o1).alloc o2).alloc o3).cell 0
  have HF := hid (Far.of hn (Nat.le_refl _))
  have hcan : canF ks (.mk 2 s n us) = ((canFL (addK ks (s, n)) us).1, .mk 2 (nameB pp) 0 (canFL (addK ks (s, n)) us).2) := by rw [canF, if_pos rfl, hkey, hpp]
  have hle := posK_le ks (s, n)
  have hple : pp ≤ 1050 := by omega
  have hp1 : (pp : Int) < 1100 := by omega
  have hq9 : (Lit.int .i64 2).wf = true ∧ (Lit.int .i64 0).wf = true := ⟨by decide, by decide⟩
  have HQ := hid hq9
  clear hrow hn ih hl hkey hq9
  have hpi : posI ks (s, n) = (pp : Int) := by unfold posI; rw [if_pos (by rw [← hpp]; exact hf), hpp]
  have HPI := hid hpi
  have hp0 : ¬ (pp : Int) < 0 := by omega
  have hk9 : addK ks (s, n) = ks := by unfold addK; rw [if_pos (by rw [← hpp]; exact hf)]
  rw [hk9] at hcan
  have HKB := hid (show ks.length + nodesL us ≤ 1050 by omega)
  clear hpi hk9 hle hpp hb hf
  have h26' : ¬ (pp : Int) < 26 := by omega
  have hsz := smallB_size (pp / 26)
  have hsz2 : (Utf8.encode (97 + (pp : Int) % 26)).size = 1 := by rw [utf_name]; rfl
  have hsz3 : ¬ 9223372036854775807 < (Utf8.encode (97 + (pp : Int) % 26)).size + (smallB (pp / 26)).size := by omega
  have hcan2 : canF ks (.mk 2 s n us) = ((canFL ks us).1, .mk 2 (Utf8.encode (97 + (pp : Int) % 26) ++ smallB (pp / 26)) 0 (canFL ks us).2) := by rw [hcan, utf_name, name_hi hlo]
  have HCAN := hid hcan2
  obtain ⟨a, ha⟩ : ∃ a, a = pp / 26 := ⟨_, rfl⟩
  have hq0 : (pp : Int).tdiv 26 = (a : Int) := by rw [Int.tdiv_eq_ediv_of_nonneg (by omega)]; omega
  have hq1 : IntKind.i64.wrap (a : Int) = (a : Int) := IntWalk.i64_in _ (by omega)
  have HQ2 := hid (show a < 100 by omega)
  obtain ⟨nm, hnm⟩ : ∃ nm, nm = Utf8.encode (97 + (pp : Int) % 26) := ⟨_, rfl⟩
  rw [← ha, ← hnm] at hsz3 hcan2
  have HNM := hid hnm
  have HCAN := hid hcan2
  clear hcan hcan2 hple hlo hsz hsz2 ha hnm
  go_enter Tryd.func24, Tryd.ntmps24
  go_wp2_with (go_at_call 36; go_must (refine (of_index ks (s, n) A' c' _ _ (by omega) (HKR.out.up (by go_grown : Below w.heap.size w _)) (Blk.new' (by simp) _ _)).mono ?_); rintro e w1 ⟨he9, b1⟩; go_must (rw [HPI.out] at he9; subst he9; have BT := hid (of_b1 b1); have x1 := (BT.out.four).2.1; have x2 := (BT.out.four).2.2.1; have x3 := (BT.out.four).2.2.2.1; have f1 := BT.out.frozen 1; have f2 := BT.out.frozen 2; have BR := hid (of_b2 b1); have BV := hid (of_b3 b1); have b9 := of_b4 b1; have W9 := hid (And.intro (H.out.2.1.up b9) ((TT.refl p w (.slice A' ks.length c')).after b9)); clear b1 b9))
  rw [← HNM.out]
  have hw3 : ∃ w3, w3 = (w1.setCell ⟨w.heap.size, 1, none⟩ (.string nm)).setCell ⟨w.heap.size, 2, none⟩ (.int .i64 0) := ⟨_, rfl⟩
  obtain ⟨w3, hw3⟩ := hw3
  have BT3 : Hid (Blk w3 w.heap.size 24 #[.int .i64 2, .string nm, .int .i64 0, .slice A us.length c]) := hid (by rw [hw3]; exact (BT.out.set_ 1 _).set_ 2 _)
  have BR3 : Hid (Blk w3 (w.heap.size + 1) 24 #[.int .i64 0, .string ⟨#[]⟩, .int .i64 0, .slice none 0 0]) := hid (by rw [hw3]; exact (BR.out.far (by dsimp only; omega) _).far (by dsimp only; omega) _)
  have W3 := hid (show NL w3 p ks (.slice A' ks.length c') ∧ TT p w (.slice A' ks.length c') w3 (.slice A' ks.length c') from by rw [hw3]; exact ⟨W9.out.1.two HF.out Hp.out _ _, (W9.out.2.one (Nat.le_refl _) _).one (Nat.le_refl _) _⟩)
  rw [← hw3]
  clear hw3 x1 x2 x3 f1 f2 BT BR BV W9
  have x1 := (BT3.out.four).2.1
  have f1 := BT3.out.frozen 1
  have x3 := (BT3.out.four).2.2.2.1
  have d1 := (BT3.out.drew.four).2.1
  go_region_law (first | (go_simp; go_at_call 38; (refine (str_ItoaI _ a HQ2.out rfl _).mono ?_); rintro e w2 ⟨rfl, rfl⟩))
  all_goals
    go_wp2
    go_loopg [7, 77] us.length (fun g lv x wr => ∃ (i : Nat) (A6 : Option Addr) (c6 : Nat) (xs : List Value) (vb : Value), i + g = us.length ∧ x = .int .i64 i ∧ lv = .slice A6 i c6 ∧ Hid (Bn (w.heap.size + 2) (canFL ks (us.take i)).2 i (.slice A6 i c6) xs vb wr) ∧ Hid (NL wr p (canFL ks (us.take i)).1 vb) ∧ Hid (TT p w (.slice A' ks.length c') wr vb) ∧ Hid (Far vb w.heap.size) ∧ Hid (Blk wr w.heap.size 24 #[.int .i64 (2), .string (nm ++ smallB a), .int .i64 (0), .slice A us.length c]) ∧ Hid (Blk wr (w.heap.size + 1) 24 #[.int .i64 0, .string ⟨#[]⟩, .int .i64 0, .slice none 0 0]))
    case atStart => exact ⟨0, none, 0, [], _, by omega, rfl, rfl, hid (Bn.start _ _ _), hid (by simpa [canFL] using (W3.out.1.one HF.out Hp.out _).up (Below.refl _ _).drew), hid ((W3.out.2.one (Nat.le_refl _) _).after (Below.refl _ _).drew), HF, hid (BT3.out.set_ 1 _).drew, hid (BR3.out.far (by dsimp only; omega) _).drew⟩
    case round =>
      obtain ⟨i, A6, c6, xs, vb, hi, rfl, rfl, hB, hN, hT, hF, hX, hO⟩ := hrel
      have Hi := hid hi
      by_cases hlt : i < us.length
      · have hlt' : (i : Int) < us.length := by omega
        obtain ⟨ad, q', s', n', A3, m', c3, hA, hSb, hab, y0, y1, y2, y3, hel⟩ := (tt_type H.out.1 H.out.2.1 hT.out).elem hlt
        subst hA
        have Q := hid (And.intro hel (And.intro (List.getElem_mem hlt) (canFL_take (ks := ks) hlt)))
        have hbd : (canFL ks (us.take i)).1.length + nodes us[i] ≤ 1050 := by have h1 := canFL_len (us.take i) ks; have h3 := nodesL_split hlt; have h4 := HKB.out; omega
        have HBD := hid hbd
        clear hi hSb hab hel hbd
        go_wp2_with (first
          | (go_at_call 24; go_must (refine (H.out.2.2.2.2 us[i] _ vb _ _ (HS.out _ Q.out.2.1) (Q.out.1.up (by go_grown : Below wr.heap.size wr _)) (hN.out.up (by go_grown : Below wr.heap.size wr _)) HBD.out).mono ?_); rintro e w1 ⟨vr, vb1, rfl, hv, hn1, ht1⟩; go_must (obtain ⟨q9, s9, n9, A9, m9, c9, rfl⟩ := hv.agg; have J := hid (And.intro (hv.mono (T := fun b => wr.heap.size ≤ b ∧ vb1.ownBlock ≠ some b) (fun b hb _ => ⟨by have := hb.1; simp at this; omega, hb.2⟩)) (And.intro hn1 (ht1.pre (by go_grown : Below wr.heap.size wr _)))); clear hv hn1 ht1))
          | (at_builtin; go_must (refine wpList_appT (by rfl) _ _ (by rfl) (w.heap.size + 2) (by rfl) (n := i) (World.ownsRow.alloc (hB.out.row1 (by have := Hp.out; omega) J.out.2.2) _) (by rfl) (by rfl) (cells_lit _ (by simp) _ _ _ _ _) (by simp [Value.oneCell']) (by omega) (by have h1 := J.out.2.2.kept.size; have h2 := hO.out.lt; simp; omega) ?_); intro v' w2 hr2 hg2 hn2; go_must (obtain ⟨A7, c7, rfl, _⟩ := row_slice hr2; have M := hid (hB.out.step Hp.out hX.out hO.out hT.out hF.out J.out.2.2 J.out.1 J.out.2.1 hr2 hg2 hn2); clear hr2 hg2 hn2)))
        have hgk := Hi.out
        go_roundg (gk - 1)
        case rel => exact ⟨i + 1, A7, c7, _, vb1, by omega, rfl, rfl, hid (by rw [Q.out.2.2]; exact M.out.1), hid (by rw [Q.out.2.2]; exact M.out.2.1), hid M.out.2.2.1, hid M.out.2.2.2.1, hid M.out.2.2.2.2.1, hid M.out.2.2.2.2.2⟩
        case measure => omega
      · obtain rfl : i = us.length := by omega
        clear hi
        have X1 := hid (hX.out.set_ 3 (.slice A6 us.length c6))
        have x0 : (wr.setCell ⟨w.heap.size, 3, none⟩ (.slice A6 us.length c6)).cell? ⟨w.heap.size, 0, none⟩ = some (.int .i64 (2)) := X1.out.cell 0
        have x1 : (wr.setCell ⟨w.heap.size, 3, none⟩ (.slice A6 us.length c6)).cell? ⟨w.heap.size, 1, none⟩ = some (.string (nm ++ smallB a)) := X1.out.cell 1
        have x2 : (wr.setCell ⟨w.heap.size, 3, none⟩ (.slice A6 us.length c6)).cell? ⟨w.heap.size, 2, none⟩ = some (.int .i64 (0)) := X1.out.cell 2
        have x3 : (wr.setCell ⟨w.heap.size, 3, none⟩ (.slice A6 us.length c6)).cell? ⟨w.heap.size, 3, none⟩ = some (.slice A6 us.length c6) := X1.out.cell 3
        have y3 : wr.cell? ⟨w.heap.size, 3, none⟩ = some (.slice A us.length c) := hX.out.cell 3
        have f3 := hX.out.frozen 3
        have OUT : Hid (Blk (wr.setCell ⟨w.heap.size, 3, none⟩ (.slice A6 us.length c6)) (w.heap.size + 1) 24 #[.int .i64 0, .string ⟨#[]⟩, .int .i64 0, .slice none 0 0]) := hid (hO.out.far (p := ⟨w.heap.size, 3, none⟩) (by dsimp only; omega) _); have o0 : (wr.setCell ⟨w.heap.size, 3, none⟩ (.slice A6 us.length c6)).cell? ⟨w.heap.size + 1, 0, none⟩ = some (.int .i64 0) := OUT.out.cell 0; have o1 : (wr.setCell ⟨w.heap.size, 3, none⟩ (.slice A6 us.length c6)).cell? ⟨w.heap.size + 1, 1, none⟩ = some (.string ⟨#[]⟩) := OUT.out.cell 1; have o2 : (wr.setCell ⟨w.heap.size, 3, none⟩ (.slice A6 us.length c6)).cell? ⟨w.heap.size + 1, 2, none⟩ = some (.int .i64 0) := OUT.out.cell 2; have o3 : (wr.setCell ⟨w.heap.size, 3, none⟩ (.slice A6 us.length c6)).cell? ⟨w.heap.size + 1, 3, none⟩ = some (.slice none 0 0) := OUT.out.cell 3; have g0 := OUT.out.frozen 0; have g1 := OUT.out.frozen 1; have g2 := OUT.out.frozen 2; have g3 := OUT.out.frozen 3
        go_wp2
        have hB9 := hB.out
        have hN9 := hN.out
        rw [List.take_length] at hB9 hN9
        refine ret_type rfl (by rfl) (set4_blk OUT.out) rfl ⟨_, vb, rfl, ?_⟩
        rw [HCAN.out]
        exact hB9.end_ hN9 hT.out hF.out rfl Hp.out ((((((Kept.refl _ wr).setCell (p := ⟨w.heap.size, 3, none⟩) (.inl (.inl rfl)) _).setCell (p := ⟨w.heap.size + 1, 0, none⟩) (.inl (.inr rfl)) _).setCell (p := ⟨w.heap.size + 1, 1, none⟩) (.inl (.inr rfl)) _).setCell (p := ⟨w.heap.size + 1, 2, none⟩) (.inl (.inr rfl)) _).setCell (p := ⟨w.heap.size + 1, 3, none⟩) (.inl (.inr rfl)) _) HQ.out.1 HQ.out.2
set_option maxHeartbeats 8000000 in
set_option maxRecDepth 100000 in
theorem of_g2 (p N : Nat) (ih : OfC p N) (s : ByteArray) (n : Int) (us : List Ty) (ks : List (ByteArray × Int)) (A' A : Option Addr) (c' c pp : Nat) (w : World) (HS : Hid (∀ t ∈ us, SizeOf.sizeOf t ≤ N)) (hb : ks.length + (1 + nodesL us) ≤ 1050) (hrow : TRow w (fun b => b < p) us A 0) (hn : NL w p ks (.slice A' ks.length c'))
    (hse : s.toList.isEmpty = false) (hkey : keyOf s n = (s, 0)) (hpp : pp = posK ks (s, 0)) (hf : pp < ks.length) (hlo : ¬ pp < 26) :
    Calls Tryd.prog 24 #[.pointer (some ⟨p, 0, none⟩), .agg #[.int .i64 2, .string s, .int .i64 n, .slice A us.length c]] w (OfP p (.mk 2 s n us) ks (.slice A' ks.length c') w) := by
  have hl := length_nodes us
  have hul : us.length ≤ 1050 := by omega
  have hkl : ks.length ≤ 1050 := by omega
  have H := hid (And.intro hrow (And.intro hn (And.intro True.intro (And.intro True.intro ih))))
  have HB := hid hb
  have Hp := hid hn.blk.lt
  have HKR := hid hn.krow
  have yp : ∀ o1 o2 o3, (((w.alloc o1).alloc o2).alloc o3).cell? ⟨p, 0, none⟩ = some (.slice A' ks.length c') := fun o1 o2 o3 => (((hn.blk.alloc o1).alloc o2).alloc o3).cell 0
  have HF := hid (Far.of hn (Nat.le_refl _))
  have hcan : canF ks (.mk 2 s n us) = ((canFL (addK ks (s, 0)) us).1, .mk 2 (nameB pp) 0 (canFL (addK ks (s, 0)) us).2) := by rw [canF, if_pos rfl, hkey, hpp]
  have hle := posK_le ks (s, 0)
  have hple : pp ≤ 1050 := by omega
  have hp1 : (pp : Int) < 1100 := by omega
  have hq9 : (Lit.int .i64 2).wf = true ∧ (Lit.int .i64 0).wf = true := ⟨by decide, by decide⟩
  have HQ := hid hq9
  clear hrow hn ih hl hkey hq9
  have hpi : posI ks (s, 0) = (pp : Int) := by unfold posI; rw [if_pos (by rw [← hpp]; exact hf), hpp]
  have HPI := hid hpi
  have hp0 : ¬ (pp : Int) < 0 := by omega
  have hk9 : addK ks (s, 0) = ks := by unfold addK; rw [if_pos (by rw [← hpp]; exact hf)]
  rw [hk9] at hcan
  have HKB := hid (show ks.length + nodesL us ≤ 1050 by omega)
  clear hpi hk9 hle hpp hb hf
  have h26' : ¬ (pp : Int) < 26 := by omega
  have hsz := smallB_size (pp / 26)
  have hsz2 : (Utf8.encode (97 + (pp : Int) % 26)).size = 1 := by rw [utf_name]; rfl
  have hsz3 : ¬ 9223372036854775807 < (Utf8.encode (97 + (pp : Int) % 26)).size + (smallB (pp / 26)).size := by omega
  have hcan2 : canF ks (.mk 2 s n us) = ((canFL ks us).1, .mk 2 (Utf8.encode (97 + (pp : Int) % 26) ++ smallB (pp / 26)) 0 (canFL ks us).2) := by rw [hcan, utf_name, name_hi hlo]
  have HCAN := hid hcan2
  obtain ⟨a, ha⟩ : ∃ a, a = pp / 26 := ⟨_, rfl⟩
  have hq0 : (pp : Int).tdiv 26 = (a : Int) := by rw [Int.tdiv_eq_ediv_of_nonneg (by omega)]; omega
  have hq1 : IntKind.i64.wrap (a : Int) = (a : Int) := IntWalk.i64_in _ (by omega)
  have HQ2 := hid (show a < 100 by omega)
  obtain ⟨nm, hnm⟩ : ∃ nm, nm = Utf8.encode (97 + (pp : Int) % 26) := ⟨_, rfl⟩
  rw [← ha, ← hnm] at hsz3 hcan2
  have HNM := hid hnm
  have HCAN := hid hcan2
  clear hcan hcan2 hple hlo hsz hsz2 ha hnm
  go_enter Tryd.func24, Tryd.ntmps24
  go_wp2_with (go_at_call 36; go_must (refine (of_index ks (s, 0) A' c' _ _ (by omega) (HKR.out.up (by go_grown : Below w.heap.size w _)) (Blk.new' (by simp) _ _)).mono ?_); rintro e w1 ⟨he9, b1⟩; go_must (rw [HPI.out] at he9; subst he9; have BT := hid (of_b1 b1); have x1 := (BT.out.four).2.1; have x2 := (BT.out.four).2.2.1; have x3 := (BT.out.four).2.2.2.1; have f1 := BT.out.frozen 1; have f2 := BT.out.frozen 2; have BR := hid (of_b2 b1); have BV := hid (of_b3 b1); have b9 := of_b4 b1; have W9 := hid (And.intro (H.out.2.1.up b9) ((TT.refl p w (.slice A' ks.length c')).after b9)); clear b1 b9))
  rw [← HNM.out]
  have hw3 : ∃ w3, w3 = (w1.setCell ⟨w.heap.size, 1, none⟩ (.string nm)).setCell ⟨w.heap.size, 2, none⟩ (.int .i64 0) := ⟨_, rfl⟩
  obtain ⟨w3, hw3⟩ := hw3
  have BT3 : Hid (Blk w3 w.heap.size 24 #[.int .i64 2, .string nm, .int .i64 0, .slice A us.length c]) := hid (by rw [hw3]; exact (BT.out.set_ 1 _).set_ 2 _)
  have BR3 : Hid (Blk w3 (w.heap.size + 1) 24 #[.int .i64 0, .string ⟨#[]⟩, .int .i64 0, .slice none 0 0]) := hid (by rw [hw3]; exact (BR.out.far (by dsimp only; omega) _).far (by dsimp only; omega) _)
  have W3 := hid (show NL w3 p ks (.slice A' ks.length c') ∧ TT p w (.slice A' ks.length c') w3 (.slice A' ks.length c') from by rw [hw3]; exact ⟨W9.out.1.two HF.out Hp.out _ _, (W9.out.2.one (Nat.le_refl _) _).one (Nat.le_refl _) _⟩)
  rw [← hw3]
  clear hw3 x1 x2 x3 f1 f2 BT BR BV W9
  have x1 := (BT3.out.four).2.1
  have f1 := BT3.out.frozen 1
  have x3 := (BT3.out.four).2.2.2.1
  have d1 := (BT3.out.drew.four).2.1
  go_region_law (first | (go_simp; go_at_call 38; (refine (str_ItoaI _ a HQ2.out rfl _).mono ?_); rintro e w2 ⟨rfl, rfl⟩))
  all_goals
    go_wp2
    go_loopg [7, 77] us.length (fun g lv x wr => ∃ (i : Nat) (A6 : Option Addr) (c6 : Nat) (xs : List Value) (vb : Value), i + g = us.length ∧ x = .int .i64 i ∧ lv = .slice A6 i c6 ∧ Hid (Bn (w.heap.size + 2) (canFL ks (us.take i)).2 i (.slice A6 i c6) xs vb wr) ∧ Hid (NL wr p (canFL ks (us.take i)).1 vb) ∧ Hid (TT p w (.slice A' ks.length c') wr vb) ∧ Hid (Far vb w.heap.size) ∧ Hid (Blk wr w.heap.size 24 #[.int .i64 (2), .string (nm ++ smallB a), .int .i64 (0), .slice A us.length c]) ∧ Hid (Blk wr (w.heap.size + 1) 24 #[.int .i64 0, .string ⟨#[]⟩, .int .i64 0, .slice none 0 0]))
    case atStart => exact ⟨0, none, 0, [], _, by omega, rfl, rfl, hid (Bn.start _ _ _), hid (by simpa [canFL] using (W3.out.1.one HF.out Hp.out _).up (Below.refl _ _).drew), hid ((W3.out.2.one (Nat.le_refl _) _).after (Below.refl _ _).drew), HF, hid (BT3.out.set_ 1 _).drew, hid (BR3.out.far (by dsimp only; omega) _).drew⟩
    case round =>
      obtain ⟨i, A6, c6, xs, vb, hi, rfl, rfl, hB, hN, hT, hF, hX, hO⟩ := hrel
      have Hi := hid hi
      by_cases hlt : i < us.length
      · have hlt' : (i : Int) < us.length := by omega
        obtain ⟨ad, q', s', n', A3, m', c3, hA, hSb, hab, y0, y1, y2, y3, hel⟩ := (tt_type H.out.1 H.out.2.1 hT.out).elem hlt
        subst hA
        have Q := hid (And.intro hel (And.intro (List.getElem_mem hlt) (canFL_take (ks := ks) hlt)))
        have hbd : (canFL ks (us.take i)).1.length + nodes us[i] ≤ 1050 := by have h1 := canFL_len (us.take i) ks; have h3 := nodesL_split hlt; have h4 := HKB.out; omega
        have HBD := hid hbd
        clear hi hSb hab hel hbd
        go_wp2_with (first
          | (go_at_call 24; go_must (refine (H.out.2.2.2.2 us[i] _ vb _ _ (HS.out _ Q.out.2.1) (Q.out.1.up (by go_grown : Below wr.heap.size wr _)) (hN.out.up (by go_grown : Below wr.heap.size wr _)) HBD.out).mono ?_); rintro e w1 ⟨vr, vb1, rfl, hv, hn1, ht1⟩; go_must (obtain ⟨q9, s9, n9, A9, m9, c9, rfl⟩ := hv.agg; have J := hid (And.intro (hv.mono (T := fun b => wr.heap.size ≤ b ∧ vb1.ownBlock ≠ some b) (fun b hb _ => ⟨by have := hb.1; simp at this; omega, hb.2⟩)) (And.intro hn1 (ht1.pre (by go_grown : Below wr.heap.size wr _)))); clear hv hn1 ht1))
          | (at_builtin; go_must (refine wpList_appT (by rfl) _ _ (by rfl) (w.heap.size + 2) (by rfl) (n := i) (World.ownsRow.alloc (hB.out.row1 (by have := Hp.out; omega) J.out.2.2) _) (by rfl) (by rfl) (cells_lit _ (by simp) _ _ _ _ _) (by simp [Value.oneCell']) (by omega) (by have h1 := J.out.2.2.kept.size; have h2 := hO.out.lt; simp; omega) ?_); intro v' w2 hr2 hg2 hn2; go_must (obtain ⟨A7, c7, rfl, _⟩ := row_slice hr2; have M := hid (hB.out.step Hp.out hX.out hO.out hT.out hF.out J.out.2.2 J.out.1 J.out.2.1 hr2 hg2 hn2); clear hr2 hg2 hn2)))
        have hgk := Hi.out
        go_roundg (gk - 1)
        case rel => exact ⟨i + 1, A7, c7, _, vb1, by omega, rfl, rfl, hid (by rw [Q.out.2.2]; exact M.out.1), hid (by rw [Q.out.2.2]; exact M.out.2.1), hid M.out.2.2.1, hid M.out.2.2.2.1, hid M.out.2.2.2.2.1, hid M.out.2.2.2.2.2⟩
        case measure => omega
      · obtain rfl : i = us.length := by omega
        clear hi
        have X1 := hid (hX.out.set_ 3 (.slice A6 us.length c6))
        have x0 : (wr.setCell ⟨w.heap.size, 3, none⟩ (.slice A6 us.length c6)).cell? ⟨w.heap.size, 0, none⟩ = some (.int .i64 (2)) := X1.out.cell 0
        have x1 : (wr.setCell ⟨w.heap.size, 3, none⟩ (.slice A6 us.length c6)).cell? ⟨w.heap.size, 1, none⟩ = some (.string (nm ++ smallB a)) := X1.out.cell 1
        have x2 : (wr.setCell ⟨w.heap.size, 3, none⟩ (.slice A6 us.length c6)).cell? ⟨w.heap.size, 2, none⟩ = some (.int .i64 (0)) := X1.out.cell 2
        have x3 : (wr.setCell ⟨w.heap.size, 3, none⟩ (.slice A6 us.length c6)).cell? ⟨w.heap.size, 3, none⟩ = some (.slice A6 us.length c6) := X1.out.cell 3
        have y3 : wr.cell? ⟨w.heap.size, 3, none⟩ = some (.slice A us.length c) := hX.out.cell 3
        have f3 := hX.out.frozen 3
        have OUT : Hid (Blk (wr.setCell ⟨w.heap.size, 3, none⟩ (.slice A6 us.length c6)) (w.heap.size + 1) 24 #[.int .i64 0, .string ⟨#[]⟩, .int .i64 0, .slice none 0 0]) := hid (hO.out.far (p := ⟨w.heap.size, 3, none⟩) (by dsimp only; omega) _); have o0 : (wr.setCell ⟨w.heap.size, 3, none⟩ (.slice A6 us.length c6)).cell? ⟨w.heap.size + 1, 0, none⟩ = some (.int .i64 0) := OUT.out.cell 0; have o1 : (wr.setCell ⟨w.heap.size, 3, none⟩ (.slice A6 us.length c6)).cell? ⟨w.heap.size + 1, 1, none⟩ = some (.string ⟨#[]⟩) := OUT.out.cell 1; have o2 : (wr.setCell ⟨w.heap.size, 3, none⟩ (.slice A6 us.length c6)).cell? ⟨w.heap.size + 1, 2, none⟩ = some (.int .i64 0) := OUT.out.cell 2; have o3 : (wr.setCell ⟨w.heap.size, 3, none⟩ (.slice A6 us.length c6)).cell? ⟨w.heap.size + 1, 3, none⟩ = some (.slice none 0 0) := OUT.out.cell 3; have g0 := OUT.out.frozen 0; have g1 := OUT.out.frozen 1; have g2 := OUT.out.frozen 2; have g3 := OUT.out.frozen 3
        go_wp2
        have hB9 := hB.out
        have hN9 := hN.out
        rw [List.take_length] at hB9 hN9
        refine ret_type rfl (by rfl) (set4_blk OUT.out) rfl ⟨_, vb, rfl, ?_⟩
        rw [HCAN.out]
        exact hB9.end_ hN9 hT.out hF.out rfl Hp.out ((((((Kept.refl _ wr).setCell (p := ⟨w.heap.size, 3, none⟩) (.inl (.inl rfl)) _).setCell (p := ⟨w.heap.size + 1, 0, none⟩) (.inl (.inr rfl)) _).setCell (p := ⟨w.heap.size + 1, 1, none⟩) (.inl (.inr rfl)) _).setCell (p := ⟨w.heap.size + 1, 2, none⟩) (.inl (.inr rfl)) _).setCell (p := ⟨w.heap.size + 1, 3, none⟩) (.inl (.inr rfl)) _) HQ.out.1 HQ.out.2
end Go.Proofs.YtnlifgcnmhakiaaDoor
