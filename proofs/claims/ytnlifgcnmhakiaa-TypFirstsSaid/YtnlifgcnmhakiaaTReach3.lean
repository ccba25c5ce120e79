/-
  THE WALK OF typ.reaches.
-/
import Derived.Test.YtnlifgcnmhakiaaTReach2
import Derived.Laws.EntriesVeiled
namespace Go.Proofs.Ytnlifgcnmhakiaa
open Go.ChangeShapes Go.WideShapes Go.ChangeAt Go.RowKit

theorem costC_le {ks : List Cn} (h : ∀ k ∈ ks, LimC k) : costC ks ≤ ks.length * 20000 := by
  induction ks with
  | nil => exact Nat.le_refl _
  | cons k ks ih =>
    rw [costC, List.length_cons, Nat.succ_mul]
    have h1 := (h k (by simp)).2
    have h2 := ih (fun x hx => h x (List.mem_cons_of_mem _ hx))
    omega
theorem MS.put {w w' : World} {B k : Nat} {f : ByteArray → Int} {s : ByteArray} (h : MS w B f k) (hm : MapAt w' B (updM f s (f s + 1)) (k + 1)) : MS w' B (updM f s (f s + 1)) (k + 1) := by
  refine ⟨hm, fun x => ?_⟩
  have h1 := h.val s
  have h2 := h.val x
  unfold updM
  split <;> omega
theorem wf_small {v : Int} (h0 : 0 ≤ v) (h1 : v ≤ 1000000000001) : (Lit.int .i64 v).wf = true := by simp [Lit.wf, IntKind.min, IntKind.max, IntKind.signed, IntKind.bits]; omega
theorem vis_upd_same {ds : List Dc} {f : ByteArray → Int} {s : ByteArray} {c : Int} (hc : c = f s) (h1 : 1 ≤ c) : vis ds (updM f s (c + 1)) = vis ds f := by
  by_cases h : idx ds s < ds.length
  · rw [vis_in h (by omega)]
    funext i
    unfold with_
    by_cases e : i = idx ds s
    · subst e; rw [vis_idx h, ← hc]; simp [h1]
    · simp [e]
  · exact vis_out h
theorem rch_kept {w w1 : World} {B : Nat} {o1 o2 o3 : Obj} (hg : (((w.alloc o1).alloc o2).alloc o3).grownBy w1 (some B)) : Kept (OnP B) w w1 :=
  ((((Kept.refl _ w).alloc o1).alloc o2).alloc o3).grown hg (fun k e => .inl (by injection e with e; exact e.symm))
theorem rch_cells {w w1 : World} {B : Nat} {a1 a2 a3 : Value} {t1 t2 t3 : TypeId} (hg : (((w.alloc (.cells #[a1] t1)).alloc (.cells #[a2] t2)).alloc (.cells #[a3] t3)).grownBy w1 (some B)) (hB : B < w.heap.size) :
    w1.cell? ⟨w.heap.size, 0, none⟩ = some a1 ∧ w1.cell? ⟨w.heap.size + 1, 0, none⟩ = some a2 ∧ w1.cell? ⟨w.heap.size + 1 + 1, 0, none⟩ = some a3 := by
  have b1 : Blk w1 w.heap.size t1 #[a1] := (hg.block _ (by simp; omega) (fun e => by injection e with e; omega)).trans (((Blk.new _ _ _).alloc _).alloc _)
  have b2 : Blk w1 (w.heap.size + 1) t2 #[a2] := (hg.block _ (by simp) (fun e => by injection e with e; omega)).trans ((Blk.new' (by simp) _ _).alloc _)
  have b3 : Blk w1 (w.heap.size + 1 + 1) t3 #[a3] := (hg.block _ (by simp) (fun e => by injection e with e; omega)).trans (Blk.new' (by simp) _ _)
  exact ⟨b1.cell 0, b2.cell 0, b3.cell 0⟩
theorem rch_blk {w w1 : World} {B : Nat} {a1 a2 a3 : Value} {t1 t2 t3 : TypeId} (hg : (((w.alloc (.cells #[a1] t1)).alloc (.cells #[a2] t2)).alloc (.cells #[a3] t3)).grownBy w1 (some B)) (hB : B < w.heap.size) :
    Blk w1 (w.heap.size + 1) t2 #[a2] ∧ Blk w1 w.heap.size t1 #[a1] ∧ Blk w1 (w.heap.size + 1 + 1) t3 #[a3] := by
  have b1 : Blk w1 w.heap.size t1 #[a1] := (hg.block _ (by simp; omega) (fun e => by injection e with e; omega)).trans (((Blk.new _ _ _).alloc _).alloc _)
  have b2 : Blk w1 (w.heap.size + 1) t2 #[a2] := (hg.block _ (by simp) (fun e => by injection e with e; omega)).trans ((Blk.new' (by simp) _ _).alloc _)
  have b3 : Blk w1 (w.heap.size + 1 + 1) t3 #[a3] := (hg.block _ (by simp) (fun e => by injection e with e; omega)).trans (Blk.new' (by simp) _ _)
  exact ⟨b2, b1, b3⟩
/-- The constructors of a declared type that was met for the first time. -/
def RG (ds : List Dc) (B : Nat) (s : ByteArray) (f : ByteArray → Int) (k : Nat) (w : World) (e : Ending) (w' : World) : Prop :=
  ∃ b f' k', e = .returned (.bool b) ∧ MS w' B f' k' ∧ Kept (OnP B) w w' ∧ (b = true → Bad ds s) ∧
    (b = false → (idx ds s < ds.length → vis ds f' (idx ds s) = true) ∧ Since ds (vis ds f) (vis ds f') ∧ k' + MB * left_ (vis ds f') ds.length ≤ k + 1 + MB * left_ (vis ds f) ds.length)
theorem rg_aux {a b N : Nat} (h : a < b) (hN : b * 100000000 ≤ N) : a * 100000000 + 20000 < N := by omega
theorem rg_aux2 {k a b c : Nat} (h : a < b) (hc : c ≤ 200 * 20000) (hb : k + 1 + MB * b ≤ 1000000000000) : k + 1 + c + MB * a ≤ 1000000000000 := by unfold MB at *; omega
theorem rg_aux3 {k' x k a b c : Nat} (h1 : k' + x ≤ k + 1 + c + MB * a) (h : a < b) (hc : c ≤ 200 * 20000) : k' + x ≤ k + 1 + MB * b := by unfold MB at *; omega
theorem reach_go (ds : List Dc) (S : Nat → Prop) (B N : Nat) (s : ByteArray) (f : ByteArray → Int) (k i0 : Nat) (lv : Value) (gl gm : Nat) (CC : Option Addr) (cc : Nat) (w2 : World) (ih : ∀ N', N' < N → InC ds S B N') (hlim : Lim ds) (hsd : ∀ d ∈ ds, ShortD d)
    (hx : idx ds s < ds.length ∧ i0 = idx ds s ∧ vis ds (updM f s (0 + 1)) = with_ (vis ds f) i0 ∧ i0 < ds.length ∧ left_ (with_ (vis ds f) i0) ds.length < left_ (vis ds f) ds.length) (hi : i0 < ds.length) (hN : left_ (vis ds f) ds.length * 100000000 ≤ N) (hb : k + 1 + MB * left_ (vis ds f) ds.length ≤ 1000000000000)
    (hM : ∀ s, 0 ≤ f s ∧ f s ≤ k) (hm : MapAt w2 B (updM f s (0 + 1)) (k + 1)) (hd : DcsAt w2 S ds lv) (hS : ¬ S B) (bl : Blk w2 gl 51 #[lv]) (bm : Blk w2 gm 87 #[.map (some B)]) (nl : gl ≠ B) (nm : gm ≠ B) (hrow : CnRow w2 S ds[i0].cons CC) :
    Calls Try.prog 81 #[.slice CC ds[i0].cons.length cc, .func (.func 82) #[] #[.pointer (some ⟨w2.heap.size, 0, none⟩)]]
      (w2.alloc (.cells #[.func (.func 80) #[] #[.pointer (some ⟨gl, 0, none⟩), .pointer (some ⟨gm, 0, none⟩), .pointer (some ⟨w2.heap.size, 0, none⟩)]] 47)) (RG ds B s f k w2) := by
  obtain ⟨x1, x2, x3, _, x5⟩ := hx
  have hmem : ds[i0] ∈ ds := List.getElem_mem hi
  have hl := hlim.2 _ hmem
  have hcost : costC ds[i0].cons ≤ 200 * 20000 := Nat.le_trans (costC_le hl.2.2) (Nat.mul_le_mul_right _ hl.2.1)
  have hB0 : Below w2.heap.size w2 (w2.alloc (.cells #[.func (.func 80) #[] #[.pointer (some ⟨gl, 0, none⟩), .pointer (some ⟨gm, 0, none⟩), .pointer (some ⟨w2.heap.size, 0, none⟩)]] 47)) := (Below.refl _ _).alloc (Nat.le_refl _) _
  have nB : w2.heap.size ≠ B := by have := hm.lt; omega
  have hfl : flds ds[i0] = flds ds[idx ds s] := by subst x2; rfl
  refine (con_has ds S B _ (ih _ (rg_aux x5 hN)) ds[i0].cons (updM f s (0 + 1)) (k + 1) CC cc lv gl gm w2.heap.size _ (by rw [x3]; exact Nat.le_refl _) hl.2.2 (fun x hx t ht => (hsd _ hmem).2 x hx t ht)
    ⟨hd.up hB0, bl.alloc _, bm.alloc _, Blk.new _ _ _, hS, nl, nm, nB⟩ (Nat.le_trans hl.2.1 (by omega)) (hrow.up hB0) ⟨hm.below hB0, fun x => by have h8 := hM x; have h9 := hM s; unfold updM; split <;> omega⟩ (by rw [x3]; exact rg_aux2 x5 hcost hb)).mono ?_
  rintro e w3 ⟨b, f', k', hans, g1, g2, g3, g4⟩
  refine ⟨b, f', k', hans, g1, g2.hop ((Kept.refl _ _).alloc _), fun h => ?_, fun h => ?_⟩
  · obtain ⟨x, hx, t, ht, hbad⟩ := g3 h
    exact bad_of_flds x1 (t := t) (by rw [← hfl, mem_flds]; exact ⟨x, hx, ht⟩) hbad
  · obtain ⟨j1, j2, j3⟩ := g4 h
    rw [x3] at j2 j3
    exact ⟨fun _ => j2.sub _ (by rw [x2]; simp [with_]), j2.step (fun _ t ht => by obtain ⟨x, hx, hxt⟩ := mem_flds.1 ht; exact j1 x hx t hxt), rg_aux3 j3 x5 hcost⟩
set_option maxHeartbeats 8000000 in
set_option maxRecDepth 100000 in
theorem reach_node (ds : List Dc) (S : Nat → Prop) (B N : Nat) (hlim : Lim ds) (hsd : ∀ d ∈ ds, ShortD d) (ih : ∀ N', N' < N → InC ds S B N') : ReachC ds S B N := by
  intro s f k lv w hN hs hd hSB hM hb
  have H := hid (And.intro hlim (And.intro hsd (And.intro hd (And.intro hSB hM))))
  have HN := hid hN
  have HB := hid hb
  have HBl := hid hM.map.lt
  have HI := hid ih
  have hlD := hlim.1
  obtain ⟨AD, cD, hlv, _, _, _, hdrow⟩ := hd
  have hv := hM.val s
  obtain ⟨c, hc⟩ : ∃ c, c = f s := ⟨_, rfl⟩
  rw [← hc] at hv
  have HC := hid hc
  have hk : k ≤ 1000000000000 := by omega
  have hw1 : IntKind.i64.wrap (c + 1) = c + 1 := IntWalk.i64_in _ (by omega)
  have hkm : k < maxLen := by unfold maxLen; omega
  have hwf : (Lit.int .i64 (c + 1)).wf = true := (wf_small (by omega) (by omega))
  have HS := hid (And.intro hs (And.intro hkm hwf))
  clear hlim hsd hN hs hSB hM hb ih hc hkm hwf
  subst hlv
  by_cases h1 : 1 ≤ c
  · have h1' : (1 : Int) < c + 1 := by omega
    have hup : updM f s (c + 1) s = c + 1 := by simp [updM]
    have HU := hid hup
    clear hup
    have tok1 : Hid True := trivial
    go_enter Try.func74, Try.ntmps74
    go_wp2_with (first
      | (have _ := tok1; at_lookup; go_must (refine wpList_lookM (by rfl) _ _ (by rfl) (H.out.2.2.2.2.below (by go_grown : Below w.heap.size w _)).map HS.out.1 (by rfl) (by rfl) ?_); rw [← HC.out]; clear tok1)
      | (at_mapUpdate; go_must (refine wpList_putM (by rfl) _ _ _ (by rfl) (H.out.2.2.2.2.below (by go_grown : Below w.heap.size w _)).map HS.out.2.1 HS.out.1 HS.out.2.2 (by rfl) (by rfl) (by rfl) ?_); intro w1 hm1 hg1; go_must (have P := hid (And.intro hm1 (rch_kept hg1)); have y1 := (rch_cells hg1 HBl.out).1; have y2 := (rch_cells hg1 HBl.out).2.1; have y3 := (rch_cells hg1 HBl.out).2.2; clear hm1 hg1))
      | (at_lookup; go_must (refine wpList_lookM (by rfl) _ _ (by rfl) P.out.1 HS.out.1 (by rfl) (by rfl) ?_); rw [HU.out]))
    go_ret
    have hv1 := vis_upd_same HC.out (show 1 ≤ c from h1) (ds := ds) (s := s)
    refine ⟨false, updM f s (c + 1), k + 1, rfl, ⟨P.out.1, fun x => ?_⟩, P.out.2, fun h => (by cases h), fun _ => ⟨fun hix => ?_, ?_, ?_⟩⟩
    · have h8 := H.out.2.2.2.2.val x
      have h9 := H.out.2.2.2.2.val s
      rw [← HC.out] at h9
      unfold updM
      split <;> omega
    · rw [hv1, vis_idx hix, ← HC.out]; simpa using h1
    · rw [hv1]; exact Since.refl _ _
    · rw [hv1]; omega
  · obtain rfl : c = 0 := by omega
    have hup : updM f s (0 + 1) s = 1 := by simp [updM]
    have HU := hid hup
    clear hup
    by_cases hix : idx ds s < ds.length
    case neg =>
      have hdr : declR ds s = -1 := by unfold declR; rw [if_neg hix]
      have HDR := hid hdr
      have HX := hid hix
      clear hdr hix
      have tok1 : Hid True := trivial
      go_enter Try.func74, Try.ntmps74
      go_wp2_with (first
        | (have _ := tok1; at_lookup; go_must (refine wpList_lookM (by rfl) _ _ (by rfl) (H.out.2.2.2.2.below (by go_grown : Below w.heap.size w _)).map HS.out.1 (by rfl) (by rfl) ?_); rw [← HC.out]; clear tok1)
        | (at_mapUpdate; go_must (refine wpList_putM (by rfl) _ _ _ (by rfl) (H.out.2.2.2.2.below (by go_grown : Below w.heap.size w _)).map HS.out.2.1 HS.out.1 HS.out.2.2 (by rfl) (by rfl) (by rfl) ?_); intro w1 hm1 hg1; go_must (have P := hid (And.intro hm1 (And.intro (rch_kept hg1) (rch_blk hg1 HBl.out))); have y1 := (rch_cells hg1 HBl.out).1; have y2 := (rch_cells hg1 HBl.out).2.1; have y3 := (rch_cells hg1 HBl.out).2.2; clear hm1 hg1))
        | (at_lookup; go_must (refine wpList_lookM (by rfl) _ _ (by rfl) P.out.1 HS.out.1 (by rfl) (by rfl) ?_); rw [HU.out])
        | (go_at_call 78; go_must (refine (reaches_index ds s _ S _ w1 (by omega) (H.out.2.2.1.kept P.out.2.1 (onp_not H.out.2.2.2.1)) P.out.2.2.1).mono ?_); rintro e w2 ⟨he9, b2⟩; go_must (rw [HDR.out] at he9; subst he9)))
      go_ret
      have hv1 := vis_out (f := f) (v := 0 + 1) HX.out
      refine ⟨false, updM f s (0 + 1), k + 1, rfl, ⟨P.out.1.below b2, fun x => ?_⟩, (Kept.of_below b2 _).hop P.out.2.1, fun h => (by cases h), fun _ => ⟨fun h => absurd h HX.out, ?_, ?_⟩⟩
      · have h8 := H.out.2.2.2.2.val x
        unfold updM
        split <;> omega
      · rw [hv1]; exact Since.refl _ _
      · rw [hv1]; omega
    have hdr : declR ds s = (idx ds s : Int) := by unfold declR; rw [if_pos hix]
    obtain ⟨i0, hi0⟩ : ∃ i0, i0 = idx ds s := ⟨_, rfl⟩
    have hv1 : vis ds (updM f s (0 + 1)) = with_ (vis ds f) i0 := by rw [hi0]; exact vis_in hix (by omega)
    have hvf : vis ds f i0 = false := by rw [hi0, vis_idx hix, ← HC.out]; simp
    rw [← hi0] at hdr
    have hil : i0 < ds.length := by rw [hi0]; exact hix
    have HDR := hid hdr
    have HX := hid (And.intro hix (And.intro hi0 (And.intro hv1 (And.intro hil (left_with hil hvf)))))
    have hil' : (i0 : Int) < ds.length := by omega
    have hin : ¬ (i0 : Int) < 0 := by omega
    clear hdr hix hi0 hv1 hvf
    have tok1 : Hid True := trivial
    go_enter Try.func74, Try.ntmps74
    go_wp2_with (first
      | (have _ := tok1; at_lookup; go_must (refine wpList_lookM (by rfl) _ _ (by rfl) (H.out.2.2.2.2.below (by go_grown : Below w.heap.size w _)).map HS.out.1 (by rfl) (by rfl) ?_); rw [← HC.out]; clear tok1)
      | (at_mapUpdate; go_must (refine wpList_putM (by rfl) _ _ _ (by rfl) (H.out.2.2.2.2.below (by go_grown : Below w.heap.size w _)).map HS.out.2.1 HS.out.1 HS.out.2.2 (by rfl) (by rfl) (by rfl) ?_); intro w1 hm1 hg1; go_must (have P := hid (And.intro hm1 (And.intro (rch_kept hg1) (rch_blk hg1 HBl.out))); have y1 := (rch_cells hg1 HBl.out).1; have y2 := (rch_cells hg1 HBl.out).2.1; have y3 := (rch_cells hg1 HBl.out).2.2; clear hm1 hg1))
      | (at_lookup; go_must (refine wpList_lookM (by rfl) _ _ (by rfl) P.out.1 HS.out.1 (by rfl) (by rfl) ?_); rw [HU.out])
      | (go_at_call 78; go_must (refine (reaches_index ds s _ S _ w1 (by omega) (H.out.2.2.1.kept P.out.2.1 (onp_not H.out.2.2.2.1)) P.out.2.2.1).mono ?_); rintro e w2 ⟨he9, b2⟩; go_must (rw [HDR.out] at he9; subst he9; obtain ⟨ad, PP, pc, CC, cc, hA, hSb, q0, q1, q2, q3, _, hC, _⟩ := ((‹DcRow w S ds AD›).kept ((Kept.of_below b2 _).hop P.out.2.1) (onp_not H.out.2.2.2.1)) i0 hil; subst hA; have b2' := P.out.2.2.2.1.below b2 P.out.2.2.2.1.lt; have l1 : w2.cell? ⟨w.heap.size, 0, none⟩ = some (.slice (some ad) ds.length cD) := b2'.cell 0; have lf : ∀ o, (w2.alloc o).cell? ⟨w.heap.size, 0, none⟩ = some (.slice (some ad) ds.length cD) := (fun o => (b2'.alloc o).cell 0); have l2 : ∀ o, (w2.alloc o).cell? ⟨(ad.add (i0 * 4)).block, (ad.add (i0 * 4)).off + 2, none⟩ = some (.slice CC ds[i0].cons.length cc) := (fun o => (((Below.refl w2.heap.size w2).alloc (Nat.le_refl _) o).cell (p := ⟨(ad.add (i0 * 4)).block, (ad.add (i0 * 4)).off + 2, none⟩) (cell_lt q2)).trans q2); have K2 := hid (((Kept.of_below b2 _).hop P.out.2.1)); have G0 := hid (reach_go ds S B N s f k i0 (.slice (some ad) ds.length cD) w.heap.size (w.heap.size + 1 + 1) CC cc w2 HI.out H.out.1 H.out.2.1 HX.out hil HN.out HB.out H.out.2.2.2.2.val (P.out.1.below b2) (H.out.2.2.1.kept K2.out (onp_not H.out.2.2.2.1)) H.out.2.2.2.1 b2' (P.out.2.2.2.2.below b2 P.out.2.2.2.2.lt) (by have := HBl.out; omega) (by have := HBl.out; omega) hC.2.2.2); clear hC hSb q0 q1 q2 q3 b2'))
      | (go_at_call 81; go_must (refine G0.out.mono ?_); rintro e w3 ⟨b, f', k', rfl, g1⟩; go_must (have G := hid g1; clear g1)))
    go_ret
    exact ⟨b, f', k', rfl, G.out.1, G.out.2.1.hop K2.out, G.out.2.2⟩
end Go.Proofs.Ytnlifgcnmhakiaa
