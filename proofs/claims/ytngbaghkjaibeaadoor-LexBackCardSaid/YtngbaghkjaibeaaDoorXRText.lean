/-
  THE WALK OF athanorref11.Text.
-/
import Derived.Test.YtngbaghkjaibeaaDoorXText
import Derived.Test.YtngbaghkjaibeaaDoorXGood
import Derived.Test.YtngbaghkjaibeaaDoorXInt
import Derived.Deep.RegionHeld3
import Derived.Deep.RegionLaw
namespace Go.Proofs.YtngbaghkjaibeaaDoor
set_option linter.all false
open Go.ChangeShapes Go.WideShapes Go.ChangeAt Go.RowKit

def jB (l : List Lx.Tok) (j : Nat) : ByteArray := ⟨(Lx.joinF Lib.decDigits (l.take j)).toArray⟩
theorem jB_zero {l : List Lx.Tok} {s : ByteArray} (h : 0 < l.length) (hs : s = Lx.spB (l[0]'h)) : jB l (0 + 1) = (⟨#[]⟩ : ByteArray) ++ s := by
  subst hs
  cases l with
  | nil => simp at h
  | cons t l =>
    apply ByteArray.ext
    apply Array.ext'
    rw [cat_list]
    rfl
theorem jB_first {l : List Lx.Tok} {j : Nat} {s : ByteArray} (h : j < l.length) (h0 : j = 0) (hs : s = Lx.spB l[j]) : jB l (j + 1) = jB l j ++ s := by
  subst h0
  have := jB_zero h hs
  rw [this]
  rfl
theorem jB_succ {l : List Lx.Tok} {j : Nat} {s : ByteArray} (h : j < l.length) (h0 : 0 < j) (hs : s = Lx.spB l[j]) : jB l (j + 1) = (jB l j ++ ⟨#[32]⟩) ++ s := by
  subst hs
  apply ByteArray.ext
  apply Array.ext'
  rw [cat_list, cat_list]
  show Lx.joinF Lib.decDigits (l.take (j + 1)) = _
  rw [Lx.join_take h h0, List.append_assoc]
  rfl
theorem jB_size {l : List Lx.Tok} {j : Nat} (h : j ≤ l.length) (hg : ∀ i, (h : i < l.length) → Lx.goodB l[i] = true) : (jB l j).size ≤ j * 34 := by
  have h1 := Lx.join_len (l := l.take j) (fun t ht => by
    obtain ⟨i, hi, rfl⟩ := List.getElem_of_mem ht
    rw [List.getElem_take]
    exact hg i (by simp at hi; omega))
  rw [List.length_take, Nat.min_eq_left h] at h1
  exact h1
theorem spB_int {t : Lx.Tok} (h : t.kind = 4) : intB t.n = Lx.spB t := by
  unfold intB Lx.spB
  rw [Lx.spell_int h]
theorem spB_var {t : Lx.Tok} (h : t.kind = 3) : (⟨#[39]⟩ : ByteArray) ++ ⟨t.text.toArray⟩ = Lx.spB t := by
  apply ByteArray.ext
  apply Array.ext'
  rw [cat_list, Lx.spB_list, Lx.spell_var h]
  rfl
theorem spB_oth {t : Lx.Tok} (h3 : (t.kind == 3) = false) (h4 : (t.kind == 4) = false) : (⟨t.text.toArray⟩ : ByteArray) = Lx.spB t := by
  unfold Lx.spB
  rw [Lx.spell_other (by simpa using h3) (by simpa using h4)]
theorem good_int {t : Lx.Tok} (h : t.kind = 4) (hg : Lx.goodB t = true) : Lx.inR t.n := by
  unfold Lx.goodB at hg
  rw [h] at hg
  simp at hg
  exact hg.2
set_option maxHeartbeats 8000000 in
set_option maxRecDepth 100000 in
theorem rf_Text_many (l : List Lx.Tok) (A : Option Addr) (c : Nat) (w : World) (h : 4096 < l.length) (hl : l.length ≤ 5000) : Calls Tryd.prog 14 #[.slice A l.length c] w (TextP l w) := by
  have hz : (4096 : Int) < l.length := by omega
  have H := hid (Lx.text_many h)
  clear h hl
  go_enter Tryd.func14, Tryd.ntmps14
  go_wp2_with fail
  exact bodyPost_ret (v := .tuple #[.string ⟨#[]⟩, .int .i64 3]) (by simp [results, Tryd.results14, go_sem]) rfl ⟨by rw [H.out], Below.refl _ _⟩
theorem cell_below {w0 w' : World} {p : Addr} {v : Value} (h : Below w0.heap.size w0 w') (hp : p.block < w0.heap.size) (h0 : w0.cell? p = some v) : w'.cell? p = some v := (h.cell hp).trans h0
theorem BOwn.up {w w' : World} {B : Nat} {v : Value} {s : ByteArray} (h : BOwn w B v s) (hb : Below w.heap.size w w') : BOwn w' B v s := row_keep h (fun g e => hb.block g (h.lt g e).2)
theorem rt_end {w : World} {B : Nat} {v : Value} {X Y : ByteArray} (h : BOwn w B v X) (e : Y = X) : ∃ A c, v = .slice A Y.size c ∧ BOwn w B (.slice A Y.size c) Y := by
  subst e
  obtain ⟨A, c, hv⟩ := h.slice
  subst hv
  exact ⟨A, c, rfl, h⟩
set_option maxRecDepth 100000 in
/-- append of one byte, as one step of a drawn region. -/
theorem step_app1 {w : World} {ops : Array Oper} {o : Oper} {a : Act} {K : Act → World → Prop} {Q : Exit → Act → World → Prop} {E : Prop} (hgd : o.guard = none) (s x : Operand)
    (ho : o.op = .call { callee := .builtin .append, args := #[s, x], argTypes := #[34, 34] })
    (B : Nat) {v : Value} {S : ByteArray} (hs : a.eval s = v) (hown : BOwn w B v S) {ad : Addr} {c : Nat} {n : Int} (hx : a.eval x = .slice (some ad) 1 c) (b : UInt8) (hb : (b.toNat : Int) = n) (hcell : w.cell? ad = some (.int .u8 n)) (hlen : S.size + 1 ≤ 1000000) (hB : B ≤ w.heap.size)
    (h : ∀ v' w', BOwn w' B v' (S ++ ⟨#[b]⟩) → w.grownBy w' v.ownBlock → K (a.put o.dst v') w') : if Region.wanted o (yielded ops a.tmps) = true then Oper.wp Tryd.prog o a w K Q else E := by
  have hw : Region.wanted o (yielded ops a.tmps) = true := by simp [Region.wanted, hgd]
  rw [if_pos hw]
  obtain ⟨i, hi1, hz, hs1, hs2⟩ := info_u8.parts
  obtain ⟨v', w', hr, h2, h3, _⟩ := run_append_own (P := Tryd.prog) w B 34 o.type 5 i (.int .u8 0) 1 1 Tryd.underlying34 hi1 hz hs1 hs2 rfl (by omega) v S.size _ hown ad 1 c [.int .u8 n] (by simp) (fun j u hj => by
    have hj0 : j < 1 := by simpa using (List.getElem?_eq_some_iff.1 hj).1
    obtain rfl : j = 0 := by omega
    have : Value.int .u8 n = u := by simpa using hj
    rw [← this, ← hcell]
    congr 1) (by simp [Value.oneCell']) (by unfold maxLen; omega) (by omega) hB
  unfold Oper.wp execOp
  simp only [ho, resolve, invoke, builtin, Sem.run_bind, Sem.run_pure, Result.andThen_ok, List.map_toArray, List.map_cons, List.map_nil, hs, hx, hr]
  exact h v' w' (BOwn.app1 hb h2) h3
set_option maxRecDepth 100000 in
/-- append of a text's bytes, as one step of a drawn region. -/
theorem step_appS {w : World} {ops : Array Oper} {o : Oper} {a : Act} {K : Act → World → Prop} {Q : Exit → Act → World → Prop} {E : Prop} (hgd : o.guard = none) (s x : Operand)
    (ho : o.op = .call { callee := .builtin .append, args := #[s, x], argTypes := #[34, 9] })
    (B : Nat) {v : Value} {S : ByteArray} (hs : a.eval s = v) (hown : BOwn w B v S) {t : ByteArray} (hx : a.eval x = .string t) (hl : S.size + t.size ≤ 10000000) (hB : B ≤ w.heap.size)
    (h : ∀ v' w', BOwn w' B v' (S ++ t) → w.grownBy w' v.ownBlock → K (a.put o.dst v') w') : if Region.wanted o (yielded ops a.tmps) = true then Oper.wp Tryd.prog o a w K Q else E := by
  have hw : Region.wanted o (yielded ops a.tmps) = true := by simp [Region.wanted, hgd]
  rw [if_pos hw]
  obtain ⟨i, hi1, hi2, hi3, hi4⟩ := info_u8.parts
  obtain ⟨v', w', hr, h2, h3, _⟩ := Lib.run_append_own_string (P := Tryd.prog) w B 34 9 o.type 5 i Tryd.underlying34 Tryd.underlying9 hi1 hi2 hi3 hi4 v S.size _ hown t (by unfold maxLen; omega) (by omega) hB
  unfold Oper.wp execOp
  simp only [ho, resolve, invoke, builtin, Sem.run_bind, Sem.run_pure, Result.andThen_ok, List.map_toArray, List.map_cons, List.map_nil, hs, hx, hr]
  exact h v' w' (BOwn.appS h2) h3
theorem cell_newd (w : World) (n : Int) : (w.drew.alloc (.cells #[.int .u8 n] 5)).cell? ⟨w.heap.size, 0, none⟩ = some (.int .u8 n) := (Blk.new w.drew 5 #[.int .u8 n]).cell 0
theorem cell_new0 (w : World) (n : Int) : (w.alloc (.cells #[.int .u8 n] 5)).cell? ⟨w.heap.size, 0, none⟩ = some (.int .u8 n) := (Blk.new w 5 #[.int .u8 n]).cell 0
theorem BOwn.alloc {w : World} {B : Nat} {v : Value} {s : ByteArray} (h : BOwn w B v s) (o : Obj) : BOwn (w.alloc o) B v s := World.ownsRow.alloc h o
theorem BOwn.dalloc {w : World} {B : Nat} {v : Value} {s : ByteArray} (h : BOwn w B v s) (o : Obj) : BOwn (w.drew.alloc o) B v s := World.ownsRow.alloc (w := w.drew) h o
theorem below_dalloc {B : Nat} {w0 w : World} (h : Below B w0 w) (hB : B ≤ w.heap.size) (o : Obj) : Below B w0 (w.drew.alloc o) := h.drew.alloc (by simpa using hB) o
set_option maxHeartbeats 8000000 in
set_option maxRecDepth 100000 in
theorem rf_Text_few (l : List Lx.Tok) (A : Option Addr) (c : Nat) (w : World) (h : ¬ 4096 < l.length) (hR : RdT w A l) (hm : ∀ t ∈ l, TokM t) : Calls Tryd.prog 14 #[.slice A l.length c] w (TextP l w) := by
  have hz : ¬ (4096 : Int) < l.length := by omega
  have HR := hid hR
  have HM := hid hm
  have HL := hid h
  clear h hR hm
  go_enter Tryd.func14, Tryd.ntmps14
  go_wp2_with fail
  go_loopg [5] l.length (fun g i wr => ∃ (j : Nat), j + g = l.length ∧ i = .int .i64 j ∧ Hid (Below w.heap.size w wr) ∧ Hid (∀ i, (h : i < l.length) → i < j → Lx.goodB l[i] = true))
  case atStart => exact ⟨0, by omega, rfl, hid (Below.refl _ _), hid (fun i _ h => by omega)⟩
  case round =>
    obtain ⟨j, hj, rfl, hb, hall⟩ := hrel
    have HJ := hid hj
    by_cases hlt : j < l.length
    · have hlt' : (j : Int) < l.length := by omega
      obtain ⟨a1, rfl, p0, y0, y1, y2, y3⟩ := (HR.out.up hb.out) j hlt
      obtain ⟨tk, htk⟩ : ∃ tk, tk = l[j] := ⟨_, rfl⟩
      have HTK := hid htk
      have HTM := hid (show TokM tk by rw [htk]; exact HM.out _ (List.getElem_mem hlt))
      rw [← htk] at y0 y1 y2 y3
      obtain ⟨b, hgb⟩ : ∃ b, Lx.goodB tk = b := ⟨_, rfl⟩
      have HGB := hid hgb
      obtain ⟨kd, tx, n, ps⟩ := tk
      dsimp only at y0 y1 y2 y3
      clear hj htk hgb
      cases b
      · go_wp2_with (go_at_call 21; go_must (with_reducible refine (rf_Good kd n ps ⟨tx.toArray⟩ _ (Nat.le_trans HTM.out.a (by omega))).mono ?_); rintro e w1 ⟨rfl, b⟩; rw [HGB.out]; have B1 := hid (below_hop b hb.out); clear b)
        exact bodyPost_ret (v := .tuple #[.string ⟨#[]⟩, .int .i64 1]) (by simp [results, Tryd.results14, go_sem]) rfl ⟨by rw [Lx.text_bad HL.out hlt (by rw [← HTK.out]; exact HGB.out)], B1.out⟩
      · go_wp2_with (go_at_call 21; go_must (with_reducible refine (rf_Good kd n ps ⟨tx.toArray⟩ _ (Nat.le_trans HTM.out.a (by omega))).mono ?_); rintro e w1 ⟨rfl, b⟩; rw [HGB.out]; have B1 := hid (below_hop b hb.out); clear b)
        have hjg := HJ.out
        go_roundg (gk - 1)
        case rel => exact ⟨j + 1, by omega, by go_num, B1, hid (fun i h hi => (Nat.lt_or_eq_of_le (Nat.le_of_lt_succ hi)).elim (fun h3 => hall.out i h h3) (fun h3 => by subst h3; rw [← HTK.out]; exact HGB.out))⟩
        case measure => omega
    obtain rfl : j = l.length := by omega
    have HALL := hid (fun i h => hall.out i h h : ∀ i, (h : i < l.length) → Lx.goodB l[i] = true)
    clear hj HJ hall
    go_wp2_with fail
    go_loopg [4, 6] l.length (fun g v i wr => ∃ (j : Nat) (A2 : Option Addr) (c2 : Nat), j + g = l.length ∧ i = .int .i64 j ∧ v = .slice A2 (jB l j).size c2 ∧ Hid (BOwn wr w.heap.size (.slice A2 (jB l j).size c2) (jB l j)) ∧ Hid (Below w.heap.size w wr))
    case atStart => exact ⟨0, none, 0, by omega, rfl, rfl, hid (BOwn.nil _ _), hb⟩
    clear hb
    case round =>
    obtain ⟨j, A2, c2, hj, rfl, rfl, hrow, hb⟩ := hrel
    have HJ := hid hj
    have HSZ := hid (show (jB l j).size ≤ 200000 from Nat.le_trans (jB_size (by omega) HALL.out) (by have := HL.out; omega))
    by_cases hlt : j < l.length
    · have hlt' : (j : Int) < l.length := by omega
      obtain ⟨a1, rfl, p0, y0, y1, y2, y3⟩ := HR.out j hlt
      obtain ⟨tk, htk⟩ : ∃ tk, tk = l[j] := ⟨_, rfl⟩
      have HTM := hid (show TokM tk by rw [htk]; exact HM.out _ (List.getElem_mem hlt))
      have hgb := HALL.out j hlt
      rw [← htk] at y0 y1 y2 y3 hgb
      have HLO := hid (And.intro p0 (And.intro y0 (And.intro y1 y2)))
      replace y0 := cell_below hb.out p0 y0
      replace y1 := cell_below hb.out (p := ⟨(a1.add (j * 4)).block, (a1.add (j * 4)).off + 1, none⟩) p0 y1
      replace y2 := cell_below hb.out (p := ⟨(a1.add (j * 4)).block, (a1.add (j * 4)).off + 2, none⟩) p0 y2
      clear p0 y3 hj
      have HTK := hid htk
      have HGB := hid hgb
      obtain ⟨s, hs⟩ : ∃ s : ByteArray, s = Lx.spB l[j] := ⟨_, rfl⟩
      have HSP := hid hs
      have htz : s.size ≤ 33 := by rw [hs, ← htk]; exact Lx.spB_size hgb
      have HTZ := hid htz
      clear htz
      by_cases hk4 : tk.kind = 4
      · have hsi := spB_int hk4
        have hin := good_int hk4 hgb
        rw [htk, ← hs] at hsi
        rw [← htk] at hsi
        clear hs
        obtain ⟨kd, tx, n, ps⟩ := tk
        dsimp only at y0 y1 y2 hk4 hsi hin
        subst hk4
        have HSI := hid hsi
        have HIN := hid hin
        clear hsi hin htk hgb
        by_cases h0 : j = 0
        · have h0' : ¬ (0 : Int) < j := by omega
          have H0 := hid h0
          clear h0
          go_wp2_with (first | (go_at_call 22; go_must ((with_reducible refine (rf_Int n HIN.out _).mono ?_); rintro e w2 ⟨rfl, b⟩; rw [HSI.out]; have B2 := hid (below_hop b hb.out); have R2 := hid (BOwn.up hrow.out b); clear b)) | (at_builtin; (refine wpList_appS (by rfl) _ _ (by rfl) w.heap.size _ _ (by rfl) R2.out s (by rfl) (by have h1 := HSZ.out; have h2 := HTZ.out; first | omega | (rw [ByteArray.size_append]; show _ + 1 + _ ≤ _; omega)) B2.out.size ?_); intro v3 w3 hown hg; go_must (have R3 := hid hown; have B3 := hid (below_grown B2.out hg B2.out.size R2.out); clear hown hg)))
          obtain ⟨A', c', rfl, hn1⟩ := rt_end R3.out (Y := jB l (j + 1)) (jB_first hlt H0.out HSP.out); have hjg := HJ.out; go_roundg (gk - 1); (case rel => exact ⟨j + 1, A', c', by omega, by go_num, rfl, hid hn1, B3⟩); (case measure => omega)
        · have h0' : (0 : Int) < j := by omega
          have H0 := hid (show 0 < j by omega)
          clear h0
          go_wp2_with (first | (at_builtin; (refine wpList_app (by rfl) _ _ 34 (by rfl) w.heap.size Tryd.underlying34 info_u8 rfl (by omega) (by rfl) (by exact hrow.out) (by rfl) (by rfl) (by simp [Value.oneCell']) (by omega) (by have := HSZ.out; omega) hb.out.size ?_); intro v1 w1 hown hg; go_must (have R1 := hid (BOwn.app1 (b := 32) rfl hown); have B1 := hid (below_grown hb.out hg hb.out.size hrow.out); have z0 := cell_below B1.out HLO.out.1 HLO.out.2.1; have z1 := cell_below B1.out (p := ⟨(a1.add (j * 4)).block, (a1.add (j * 4)).off + 1, none⟩) HLO.out.1 HLO.out.2.2.1; have z2 := cell_below B1.out (p := ⟨(a1.add (j * 4)).block, (a1.add (j * 4)).off + 2, none⟩) HLO.out.1 HLO.out.2.2.2; clear hown hg)) | (go_at_call 22; go_must ((with_reducible refine (rf_Int n HIN.out _).mono ?_); rintro e w2 ⟨rfl, b⟩; rw [HSI.out]; have B2 := hid (below_hop b B1.out); have R2 := hid (BOwn.up R1.out b); clear b)) | (at_builtin; (refine wpList_appS (by rfl) _ _ (by rfl) w.heap.size _ _ (by rfl) R2.out s (by rfl) (by have h1 := HSZ.out; have h2 := HTZ.out; first | omega | (rw [ByteArray.size_append]; show _ + 1 + _ ≤ _; omega)) B2.out.size ?_); intro v3 w3 hown hg; go_must (have R3 := hid hown; have B3 := hid (below_grown B2.out hg B2.out.size R2.out); clear hown hg)))
          obtain ⟨A', c', rfl, hn1⟩ := rt_end R3.out (Y := jB l (j + 1)) (jB_succ hlt H0.out HSP.out); have hjg := HJ.out; go_roundg (gk - 1); (case rel => exact ⟨j + 1, A', c', by omega, by go_num, rfl, hid hn1, B3⟩); (case measure => omega)
      by_cases hk3 : tk.kind = 3
      · have hsi := spB_var hk3
        rw [htk, ← hs] at hsi
        rw [← htk] at hsi
        clear hs
        obtain ⟨kd, tx, n, ps⟩ := tk
        dsimp only at y0 y1 y2 hk3 hsi
        subst hk3
        obtain ⟨tb, htb⟩ : ∃ tb : ByteArray, tb = ⟨tx.toArray⟩ := ⟨_, rfl⟩
        rw [← htb] at y1 hsi
        have HTB := hid htb
        have HLO2 := HLO
        clear HLO
        have HLO := hid (And.intro HLO2.out.1 (And.intro HLO2.out.2.1 (And.intro (by rw [htb]; exact HLO2.out.2.2.1 : w.cell? ⟨(a1.add (j * 4)).block, (a1.add (j * 4)).off + 1, none⟩ = some (.string tb)) HLO2.out.2.2.2)))
        have HSI := hid hsi
        have HTZ2 := hid (show tb.size ≤ 33 by have h1 := HTZ.out; rw [← hsi, ByteArray.size_append] at h1; omega)
        clear hsi htk hgb htb hk4
        by_cases h0 : j = 0
        · have h0' : ¬ (0 : Int) < j := by omega
          have H0 := hid h0
          clear h0
          go_wp2_with fail
          go_region_held3 (fun w' => w'.cell? ⟨(a1.add (j * 4)).block, (a1.add (j * 4)).off + 1, none⟩ = some (.string tb)) (first | with_reducible exact y1 | with_reducible exact z5 | go_keep) (first | ((refine step_app1 (by rfl) _ _ (by rfl) w.heap.size (by rfl) (BOwn.dalloc hrow.out _) (by rfl) 39 (by rfl) (cell_newd _ _) (by have h9 := HSZ.out; first | omega | (rw [ByteArray.size_append]; show _ + 1 + 1 ≤ _; omega)) (below_dalloc hb.out hb.out.size _).size ?_); intro v4 w4 hown hg; have R4 := hid hown; have B4 := hid (below_grown (below_dalloc hb.out hb.out.size _) hg (below_dalloc hb.out hb.out.size _).size (BOwn.dalloc hrow.out _)); have z5 := cell_below B4.out (p := ⟨(a1.add (j * 4)).block, (a1.add (j * 4)).off + 1, none⟩) HLO.out.1 HLO.out.2.2.1; clear hown hg) | ((refine step_appS (by rfl) _ _ (by rfl) w.heap.size (by rfl) R4.out (t := tb) (by rfl) (by have h1 := HSZ.out; have h2 := HTZ2.out; first | omega | (rw [ByteArray.size_append]; show _ + 1 + _ ≤ _; omega) | (rw [ByteArray.size_append, ByteArray.size_append]; show _ + 1 + 1 + _ ≤ _; omega)) B4.out.size ?_); intro v3 w3 hown hg; have R3 := hid hown; have B3 := hid (below_grown B4.out hg B4.out.size R4.out); have z5 := cell_below B3.out (p := ⟨(a1.add (j * 4)).block, (a1.add (j * 4)).off + 1, none⟩) HLO.out.1 HLO.out.2.2.1; clear hown hg))
          all_goals
            go_wp2_with fail
            have hX := (jB_first hlt H0.out HSP.out).trans (by rw [← HSI.out, ← ByteArray.append_assoc])
            obtain ⟨A', c', rfl, hn1⟩ := rt_end R3.out (Y := jB l (j + 1)) (hX); have hjg := HJ.out; go_roundg (gk - 1); (case rel => exact ⟨j + 1, A', c', by omega, by go_num, rfl, hid hn1, B3⟩); (case measure => omega)
        · have h0' : (0 : Int) < j := by omega
          have H0 := hid (show 0 < j by omega)
          clear h0
          go_wp2_with (at_builtin; (refine wpList_app (by rfl) _ _ 34 (by rfl) w.heap.size Tryd.underlying34 info_u8 rfl (by omega) (by rfl) (by exact hrow.out) (by rfl) (by rfl) (by simp [Value.oneCell']) (by omega) (by have := HSZ.out; omega) hb.out.size ?_); intro v1 w1 hown hg; go_must (have R1 := hid (BOwn.app1 (b := 32) rfl hown); have B1 := hid (below_grown hb.out hg hb.out.size hrow.out); have z0 := cell_below B1.out HLO.out.1 HLO.out.2.1; have z1 := cell_below B1.out (p := ⟨(a1.add (j * 4)).block, (a1.add (j * 4)).off + 1, none⟩) HLO.out.1 HLO.out.2.2.1; have z2 := cell_below B1.out (p := ⟨(a1.add (j * 4)).block, (a1.add (j * 4)).off + 2, none⟩) HLO.out.1 HLO.out.2.2.2; clear hown hg))
          go_region_held3 (fun w' => w'.cell? ⟨(a1.add (j * 4)).block, (a1.add (j * 4)).off + 1, none⟩ = some (.string tb)) (first | with_reducible exact z1 | with_reducible exact z5 | go_keep) (first | ((refine step_app1 (by rfl) _ _ (by rfl) w.heap.size (by rfl) (BOwn.dalloc R1.out _) (by rfl) 39 (by rfl) (cell_newd _ _) (by have h9 := HSZ.out; first | omega | (rw [ByteArray.size_append]; show _ + 1 + 1 ≤ _; omega)) (below_dalloc B1.out B1.out.size _).size ?_); intro v4 w4 hown hg; have R4 := hid hown; have B4 := hid (below_grown (below_dalloc B1.out B1.out.size _) hg (below_dalloc B1.out B1.out.size _).size (BOwn.dalloc R1.out _)); have z5 := cell_below B4.out (p := ⟨(a1.add (j * 4)).block, (a1.add (j * 4)).off + 1, none⟩) HLO.out.1 HLO.out.2.2.1; clear hown hg) | ((refine step_appS (by rfl) _ _ (by rfl) w.heap.size (by rfl) R4.out (t := tb) (by rfl) (by have h1 := HSZ.out; have h2 := HTZ2.out; first | omega | (rw [ByteArray.size_append]; show _ + 1 + _ ≤ _; omega) | (rw [ByteArray.size_append, ByteArray.size_append]; show _ + 1 + 1 + _ ≤ _; omega)) B4.out.size ?_); intro v3 w3 hown hg; have R3 := hid hown; have B3 := hid (below_grown B4.out hg B4.out.size R4.out); have z5 := cell_below B3.out (p := ⟨(a1.add (j * 4)).block, (a1.add (j * 4)).off + 1, none⟩) HLO.out.1 HLO.out.2.2.1; clear hown hg))
          all_goals
            go_wp2_with fail
            have hX := (jB_succ hlt H0.out HSP.out).trans (by rw [← HSI.out, ← ByteArray.append_assoc])
            obtain ⟨A', c', rfl, hn1⟩ := rt_end R3.out (Y := jB l (j + 1)) (hX); have hjg := HJ.out; go_roundg (gk - 1); (case rel => exact ⟨j + 1, A', c', by omega, by go_num, rfl, hid hn1, B3⟩); (case measure => omega)
      · have e3 : (tk.kind == 3) = false := by simpa using hk3
        have e4 : (tk.kind == 4) = false := by simpa using hk4
        have hsi := spB_oth e3 e4
        rw [htk, ← hs] at hsi
        rw [← htk] at hsi
        clear hs hk3 hk4
        obtain ⟨kd, tx, n, ps⟩ := tk
        dsimp only at y0 y1 y2 e3 e4 hsi HLO
        rw [hsi] at y1
        have HLO2 := HLO
        clear HLO
        have HLO := hid (And.intro HLO2.out.1 (And.intro HLO2.out.2.1 (And.intro (by rw [← hsi]; exact HLO2.out.2.2.1 : w.cell? ⟨(a1.add (j * 4)).block, (a1.add (j * 4)).off + 1, none⟩ = some (.string s)) HLO2.out.2.2.2)))
        clear hsi htk hgb HLO2
        by_cases h0 : j = 0
        · have h0' : ¬ (0 : Int) < j := by omega
          have H0 := hid h0
          clear h0
          go_wp2_with (at_builtin; (refine wpList_appS (by rfl) _ _ (by rfl) w.heap.size _ _ (by rfl) hrow.out s (by rfl) (by have h1 := HSZ.out; have h2 := HTZ.out; first | omega | (rw [ByteArray.size_append]; show _ + 1 + _ ≤ _; omega)) hb.out.size ?_); intro v3 w3 hown hg; go_must (have R3 := hid hown; have B3 := hid (below_grown hb.out hg hb.out.size hrow.out); clear hown hg))
          obtain ⟨A', c', rfl, hn1⟩ := rt_end R3.out (Y := jB l (j + 1)) (jB_first hlt H0.out HSP.out); have hjg := HJ.out; go_roundg (gk - 1); (case rel => exact ⟨j + 1, A', c', by omega, by go_num, rfl, hid hn1, B3⟩); (case measure => omega)
        · have h0' : (0 : Int) < j := by omega
          have H0 := hid (show 0 < j by omega)
          clear h0
          go_wp2_with (first | (at_builtin; (refine wpList_app (by rfl) _ _ 34 (by rfl) w.heap.size Tryd.underlying34 info_u8 rfl (by omega) (by rfl) (by exact hrow.out) (by rfl) (by rfl) (by simp [Value.oneCell']) (by omega) (by have := HSZ.out; omega) hb.out.size ?_); intro v1 w1 hown hg; go_must (have R1 := hid (BOwn.app1 (b := 32) rfl hown); have B1 := hid (below_grown hb.out hg hb.out.size hrow.out); have z0 := cell_below B1.out HLO.out.1 HLO.out.2.1; have z1 := cell_below B1.out (p := ⟨(a1.add (j * 4)).block, (a1.add (j * 4)).off + 1, none⟩) HLO.out.1 HLO.out.2.2.1; have z2 := cell_below B1.out (p := ⟨(a1.add (j * 4)).block, (a1.add (j * 4)).off + 2, none⟩) HLO.out.1 HLO.out.2.2.2; clear hown hg)) | (at_builtin; (refine wpList_appS (by rfl) _ _ (by rfl) w.heap.size _ _ (by rfl) R1.out s (by rfl) (by have h1 := HSZ.out; have h2 := HTZ.out; first | omega | (rw [ByteArray.size_append]; show _ + 1 + _ ≤ _; omega)) B1.out.size ?_); intro v3 w3 hown hg; go_must (have R3 := hid hown; have B3 := hid (below_grown B1.out hg B1.out.size R1.out); clear hown hg)))
          obtain ⟨A', c', rfl, hn1⟩ := rt_end R3.out (Y := jB l (j + 1)) (jB_succ hlt H0.out HSP.out); have hjg := HJ.out; go_roundg (gk - 1); (case rel => exact ⟨j + 1, A', c', by omega, by go_num, rfl, hid hn1, B3⟩); (case measure => omega)
    · obtain rfl : j = l.length := by omega
      have hcv := hrow.out.text
      obtain ⟨T, hT⟩ : ∃ T : ByteArray, T = jB l l.length := ⟨_, rfl⟩
      have hTF : T = ⟨(Lx.joinF Lib.decDigits l).toArray⟩ := by rw [hT]; unfold jB; rw [List.take_length]
      have hTz : T.size = (Lx.joinF Lib.decDigits l).length := by rw [hTF]; rfl
      rw [← hT] at hcv
      have HT := hid hTF
      have HTz := hid hTz
      have HAL := hid (Lx.all_good HALL.out)
      clear hj hTF hTz
      by_cases hlong : (8192 : Int) < T.size
      · rw [← hT]
        clear hT
        go_wp2_with fail
        exact bodyPost_ret (v := .tuple #[.string ⟨#[]⟩, .int .i64 2]) (by simp [results, Tryd.results14, go_sem]) rfl ⟨by rw [Lx.text_long HL.out HAL.out (by have := HTz.out; omega)], hb.out⟩
      · rw [← hT]
        clear hT
        go_wp2_with fail
        exact bodyPost_ret (v := .tuple #[.string T, .int .i64 0]) (by simp [results, Tryd.results14, go_sem]) rfl ⟨by rw [Lx.text_ok HL.out HAL.out (by have := HTz.out; omega), ← HT.out], hb.out⟩
theorem rf_Text (l : List Lx.Tok) (A : Option Addr) (c : Nat) (w : World) (hl : l.length ≤ 5000) (hR : RdT w A l) (hm : ∀ t ∈ l, TokM t) : Calls Tryd.prog 14 #[.slice A l.length c] w (TextP l w) := by
  by_cases h : 4096 < l.length
  · exact rf_Text_many l A c w h hl
  · exact rf_Text_few l A c w h hR hm
end Go.Proofs.YtngbaghkjaibeaaDoor
