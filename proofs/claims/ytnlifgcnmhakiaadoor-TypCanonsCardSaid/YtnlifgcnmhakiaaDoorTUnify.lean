/-
  THE WALK OF links.unify: two types are made the same.
-/
import Derived.Test.YtnlifgcnmhakiaaDoorTBind
import Derived.Deep.RegionLaw
import Derived.Deep.DeepCutAuto
import Derived.BigQuiet
namespace Go.Proofs.YtnlifgcnmhakiaaDoor
open Go.ChangeShapes Go.WideShapes Go.ChangeAt Go.RowKit

theorem bindF_R (σ : Sg) (n : Int) (b : Ty) (l : Nat) : bindF σ n b l = ((bindR σ n b).1, (bindR σ n b).2, l) := by
  unfold bindR bindF
  split <;> rfl
section
variable {f : Sg → Ty → Ty → Nat → Int × Sg × Nat} {σ : Sg} {q1 q2 n1 n2 : Int} {s1 s2 : ByteArray} {us vs : List Ty} {l : Nat}
theorem stepF_same : stepF f σ (.mk 2 s1 n1 us) (.mk 2 s2 n1 vs) l = (0, σ, l) := by
  unfold stepF
  split
  · rfl
  · rename_i hh; exact absurd ⟨rfl, rfl, rfl⟩ hh
theorem stepF_va (h : ¬ (q2 = 2 ∧ n1 = n2)) : stepF f σ (.mk 2 s1 n1 us) (.mk q2 s2 n2 vs) l = ((bindR σ n1 (.mk q2 s2 n2 vs)).1, (bindR σ n1 (.mk q2 s2 n2 vs)).2, l) := by
  unfold stepF
  split
  · rename_i hh; exact absurd ⟨hh.2.1, hh.2.2⟩ h
  split
  · exact bindF_R _ _ _ _
  · rename_i hh; exact absurd rfl hh
theorem stepF_vb (h : ¬ q1 = 2) : stepF f σ (.mk q1 s1 n1 us) (.mk 2 s2 n2 vs) l = ((bindR σ n2 (.mk q1 s1 n1 us)).1, (bindR σ n2 (.mk q1 s1 n1 us)).2, l) := by
  unfold stepF
  split
  · rename_i hh; exact absurd hh.1 h
  split
  · rename_i hh; exact absurd hh h
  split
  · exact bindF_R _ _ _ _
  · rename_i hh; exact absurd rfl hh
theorem stepF_no (h1 : ¬ q1 = 2) (h2 : ¬ q2 = 2) (h : ¬ q1 = q2 ∨ ¬ s1 = s2 ∨ ¬ us.length = vs.length) : stepF f σ (.mk q1 s1 n1 us) (.mk q2 s2 n2 vs) l = (150, σ, l) := by
  unfold stepF
  split
  · rename_i hh; exact absurd hh.1 h1
  split
  · rename_i hh; exact absurd hh h1
  split
  · rename_i hh; exact absurd hh h2
  split
  · rfl
  · rename_i hh; exact absurd h hh
theorem stepF_go (h1 : ¬ q1 = 2) (h : us.length = vs.length) : stepF f σ (.mk q1 s1 n1 us) (.mk q1 s1 n2 vs) l = pairL f σ us vs l := by
  unfold stepF
  split
  · rename_i hh; exact absurd hh.1 h1
  split
  · rename_i hh; exact absurd hh h1
  split
  · rename_i hh; exact absurd hh h1
  split
  · rename_i hh; rcases hh with hh | hh | hh; exact absurd rfl hh; exact absurd rfl hh; exact absurd h hh
  · rfl
end
theorem kept_cell {T : Nat → Prop} {w w' : World} (h : Kept T w w') {a : Addr} (hT : ¬ T a.block) (hl : a.block < w.heap.size) : w'.cell? a = w.cell? a := World.cell?_of_block (h.block a.block hl hT)
/-- What unify tells. -/
def UniP (S : Nat → Prop) (p pv c gl : Nat) (r : Int × Sg × Nat) (w : World) (e : Ending) (w' : World) : Prop :=
  e = .returned (.int .i64 r.1) ∧ (∃ cur, Tb S w' p pv c r.2.1 cur) ∧ (∃ x, Blk w' gl 3 #[x] ∧ (r.1 = 0 → x = .int .i64 r.2.2)) ∧ Kept (fun b => b = pv ∨ b = gl) w w'
def UniC (S : Nat → Prop) (p pv c gl k : Nat) : Prop := ∀ (σ : Sg) (cur : Array Value) (a b : Ty) (va vb : Value) (l : Nat) (w : World), l < k → l ≤ 65536 → Tb S w p pv c σ cur → Ok σ → goodT σ.length a = true → goodT σ.length b = true → TAt w S a va → TAt w S b vb → Blk w gl 3 #[.int .i64 l] → (∀ b, w.heap.size ≤ b → S b) →
  Calls Tryd.prog 44 #[.pointer (some ⟨p, 0, none⟩), va, vb, .pointer (some ⟨gl, 0, none⟩)] w (UniP S p pv c gl (pairF k σ a b l) w)
/-- What stands behind the two Head calls. -/
structure UniM (S : Nat → Prop) (p pv c gl : Nat) (σ : Sg) (cur : Array Value) (a b : Ty) (l : Nat) (w wx : World) (v0 v1 v2 v3 u0 u1 u2 u3 : Value) : Prop where
  ba : Blk wx w.heap.size 24 #[v0, v1, v2, v3]
  bb : Blk wx (w.heap.size + 1) 24 #[u0, u1, u2, u3]
  ta : TAt wx (fun b => S b ∧ b < w.heap.size) a (.agg #[v0, v1, v2, v3])
  tb : TAt wx (fun b => S b ∧ b < w.heap.size) b (.agg #[u0, u1, u2, u3])
  lf : Blk wx gl 3 #[.int .i64 l]
  tab : Tb (fun b => S b ∧ b < w.heap.size) wx p pv c σ cur
  kp : Kept (fun b => b = gl) w wx
section
variable {S : Nat → Prop} {p pv c gl : Nat} {σ : Sg} {cur : Array Value} {a b : Ty} {l : Nat} {w wx wy : World} {v0 v1 v2 v3 u0 u1 u2 u3 : Value}
theorem UniM.up (h : UniM S p pv c gl σ cur a b l w wx v0 v1 v2 v3 u0 u1 u2 u3) (hb : Below wx.heap.size wx wy) : UniM S p pv c gl σ cur a b l w wy v0 v1 v2 v3 u0 u1 u2 u3 :=
  ⟨h.ba.below hb h.ba.lt, h.bb.below hb h.bb.lt, h.ta.up hb, h.tb.up hb, h.lf.below hb h.lf.lt, h.tab.up hb, Kept.after hb h.kp⟩
theorem UniM.drew (h : UniM S p pv c gl σ cur a b l w wx v0 v1 v2 v3 u0 u1 u2 u3) : UniM S p pv c gl σ cur a b l w wx.drew v0 v1 v2 v3 u0 u1 u2 u3 := h.up ((Below.refl _ _).drew)
theorem UniM.done {a' b' : Ty} {x0 x1 x2 x3 y0 y1 y2 y3 : Value} {T1 T2 : Nat → Prop} (h : UniM S p pv c gl σ cur a b l w wx v0 v1 v2 v3 u0 u1 u2 u3) (hgl : gl < w.heap.size) (hp : p < w.heap.size) (hpv : pv < w.heap.size)
    (ha : TAt wx (fun b => (S b ∧ b < w.heap.size) ∧ T1 b) a' (.agg #[x0, x1, x2, x3])) (hb : TAt wx (fun b => (S b ∧ b < w.heap.size) ∧ T2 b) b' (.agg #[y0, y1, y2, y3])) :
    UniM S p pv c gl σ cur a' b' l w ((((((((wx.setCell ⟨w.heap.size, 0, none⟩ x0).setCell ⟨w.heap.size, 1, none⟩ x1).setCell ⟨w.heap.size, 2, none⟩ x2).setCell ⟨w.heap.size, 3, none⟩ x3).setCell ⟨w.heap.size + 1, 0, none⟩ y0).setCell ⟨w.heap.size + 1, 1, none⟩ y1).setCell ⟨w.heap.size + 1, 2, none⟩ y2).setCell ⟨w.heap.size + 1, 3, none⟩ y3) x0 x1 x2 x3 y0 y1 y2 y3 := by
  have key : ∀ k, k < w.heap.size → ((((((((wx.setCell ⟨w.heap.size, 0, none⟩ x0).setCell ⟨w.heap.size, 1, none⟩ x1).setCell ⟨w.heap.size, 2, none⟩ x2).setCell ⟨w.heap.size, 3, none⟩ x3).setCell ⟨w.heap.size + 1, 0, none⟩ y0).setCell ⟨w.heap.size + 1, 1, none⟩ y1).setCell ⟨w.heap.size + 1, 2, none⟩ y2).setCell ⟨w.heap.size + 1, 3, none⟩ y3).heap[k]? = wx.heap[k]? :=
    fun k hk => (set4_other (by omega)).trans (set4_other (by omega))
  refine ⟨(set4_other (by omega)).trans (set4_blk h.ba), set4_blk ((set4_other (by omega)).trans h.bb), ha.keep (fun k hk _ => ⟨key k hk.1.2, hk.1⟩), hb.keep (fun k hk _ => ⟨key k hk.1.2, hk.1⟩), (key _ hgl).trans h.lf,
    h.tab.keep (fun k _ hk => key k (by rcases hk with hk | rfl | rfl; exact hk.2; exact hp; exact hpv)), (h.kp.set4 (Nat.le_refl _)).set4 (by omega)⟩
theorem UniM.wide (h : UniM S p pv c gl σ cur a b l w wx v0 v1 v2 v3 u0 u1 u2 u3) (h0 : Tb S w p pv c σ cur) : Tb S wx p pv c σ cur := h.tab.widen (fun _ hk _ => hk.1) h0.pS h0.vS
theorem UniM.ret (h : UniM S p pv c gl σ cur a b l w wx v0 v1 v2 v3 u0 u1 u2 u3) (h0 : Tb S w p pv c σ cur) (r : Int) : UniP S p pv c gl (r, σ, l) w (.returned (.int .i64 r)) wx :=
  ⟨rfl, ⟨cur, h.wide h0⟩, ⟨_, h.lf, fun _ => rfl⟩, h.kp.mono (fun _ _ e => .inr e)⟩
theorem UniM.bind {R : Int × Sg} {e : Ending} (h : UniM S p pv c gl σ cur a b l w wx v0 v1 v2 v3 u0 u1 u2 u3) (hne : gl ≠ pv) (hb : BindP S p pv c R wx e wy) : UniP S p pv c gl (R.1, R.2, l) w e wy :=
  ⟨hb.1, hb.2.1, ⟨_, h.lf.kept hb.2.2 hne, fun _ => rfl⟩, (h.kp.then hb.2.2 (U := fun b => b = pv ∨ b = gl) (fun _ _ e => .inr e) (fun _ _ e => .inl e))⟩
end
theorem UniP.ending {S : Nat → Prop} {p pv c gl : Nat} {r : Int × Sg × Nat} {w w' : World} {e : Ending} (h : UniP S p pv c gl r w e w') : e = .returned (.int .i64 r.1) := h.1
theorem pairL_drop {f : Sg → Ty → Ty → Nat → Int × Sg × Nat} {σ : Sg} {us vs : List Ty} {i l : Nat} (h1 : i < us.length) (h2 : i < vs.length) : pairL f σ (us.drop i) (vs.drop i) l = if (f σ us[i] vs[i] l).1 = 0 then pairL f (f σ us[i] vs[i] l).2.1 (us.drop (i + 1)) (vs.drop (i + 1)) (f σ us[i] vs[i] l).2.2 else f σ us[i] vs[i] l := by
  rw [List.drop_eq_getElem_cons h1, List.drop_eq_getElem_cons h2, pairL]
set_option maxHeartbeats 8000000 in
set_option maxRecDepth 100000 in
theorem uni_node (S : Nat → Prop) (p pv c gl k : Nat) (hgS : ¬ S gl) (ih : UniC S p pv c gl k) : UniC S p pv c gl (k + 1) := by
  intro σ cur a b va vb l w hl hl2 hT hok hga hgb hva hvb hG hSn
  have HA := hid hva
  have HB := hid hvb
  obtain ⟨q, s, m, A, m9, c9, rfl⟩ := hva.agg
  obtain ⟨q', s', m', A', m8, c8, rfl⟩ := hvb.agg
  have HT := hid hT
  have HL := hid (And.intro hT.blk.lt (And.intro hT.row.lt (And.intro hG.lt (And.intro (hG.ne_ hT.blk (by decide)) (hG.ne_ hT.row (by decide))))))
  have HN := hid (And.intro hSn hgS)
  have HG := hid hG
  have HO := hid (And.intro hok (And.intro hga (And.intro hgb hl)))
  have HI := hid ih
  rw [pairF]
  have L0 : Blk ((w.alloc (.cells #[.int .i64 q, .string s, .int .i64 m, .slice A m9 c9] 24)).alloc (.cells #[.int .i64 q', .string s', .int .i64 m', .slice A' m8 c8] 24)) gl 3 #[.int .i64 l] := (hG.alloc _).alloc _
  have a0 := L0.cell0
  have a1 := L0.frozen 0
  clear hva hvb hT hok hga hgb hG hSn ih hgS hl
  cases l with
  | zero =>
    rw [if_pos rfl]
    have L1 := hid (L0.set0 (.int .i64 (-1)))
    have c0 := L1.out.cell0
    have KK := hid ((((Kept.refl (fun b => b = pv ∨ b = gl) w).alloc (.cells #[.int .i64 q, .string s, .int .i64 m, .slice A m9 c9] 24)).alloc (.cells #[.int .i64 q', .string s', .int .i64 m', .slice A' m8 c8] 24)).setCell (p := ⟨gl, 0, none⟩) (.inl (.inr rfl)) (.int .i64 (-1)))
    have KG := hid ((((Kept.refl (fun b => b = gl) w).alloc (.cells #[.int .i64 q, .string s, .int .i64 m, .slice A m9 c9] 24)).alloc (.cells #[.int .i64 q', .string s', .int .i64 m', .slice A' m8 c8] 24)).setCell (p := ⟨gl, 0, none⟩) (.inl rfl) (.int .i64 (-1)))
    clear L0
    go_enter Tryd.func44, Tryd.ntmps44
    go_wp2
    go_ret
    exact ⟨rfl, ⟨cur, HT.out.kept KG.out (fun b hb e => HN.out.2 (by rw [← e]; exact hb)) (fun e => HL.out.2.2.2.1 e.symm) (fun e => HL.out.2.2.2.2 e.symm)⟩, ⟨_, L1.out, fun h => by cases h⟩, KK.out⟩
  | succ l =>
  rw [if_neg (by omega), Nat.add_sub_cancel]
  obtain ⟨R, hR⟩ : ∃ R, R = stepF (pairF k) σ (hdT σ a) (hdT σ b) l := ⟨_, rfl⟩
  rw [← hR]
  have HR := hid hR
  clear hR
  have ecast : (((l + 1 : Nat)) : Int) = (l : Int) + 1 := by omega
  rw [ecast] at a0
  have q5 : IntKind.i64.wrap ((l : Int) + 1 - 1) = l := by rw [show (l : Int) + 1 - 1 = l from by omega]; exact IntWalk.i64_in _ (by omega)
  have q6 : IntKind.i64.wrap (l : Int) = l := IntWalk.i64_in _ (by omega)
  have q7 : ¬ (l : Int) < 0 := by omega
  have L1 := L0.set0 (.int .i64 (l : Int))
  have c0 := L1.cell0
  have KG := hid ((((Kept.refl (fun b => b = gl) w).alloc (.cells #[.int .i64 q, .string s, .int .i64 m, .slice A m9 c9] 24)).alloc (.cells #[.int .i64 q', .string s', .int .i64 m', .slice A' m8 c8] 24)).setCell (p := ⟨gl, 0, none⟩) (.inl rfl) (.int .i64 (l : Int)))
  have BA : Blk (((w.alloc (.cells #[.int .i64 q, .string s, .int .i64 m, .slice A m9 c9] 24)).alloc (.cells #[.int .i64 q', .string s', .int .i64 m', .slice A' m8 c8] 24)).setCell ⟨gl, 0, none⟩ (.int .i64 (l : Int))) w.heap.size 24 #[.int .i64 q, .string s, .int .i64 m, .slice A m9 c9] := ((Blk.new _ _ _).alloc _).far (p := ⟨gl, 0, none⟩) (by have := HL.out; dsimp only; omega) _
  have BB : Blk (((w.alloc (.cells #[.int .i64 q, .string s, .int .i64 m, .slice A m9 c9] 24)).alloc (.cells #[.int .i64 q', .string s', .int .i64 m', .slice A' m8 c8] 24)).setCell ⟨gl, 0, none⟩ (.int .i64 (l : Int))) (w.heap.size + 1) 24 #[.int .i64 q', .string s', .int .i64 m', .slice A' m8 c8] := (Blk.new' (by simp) _ _).far (p := ⟨gl, 0, none⟩) (by have := HL.out; dsimp only; omega) _
  have M : UniM S p pv c gl σ cur a b l w (((w.alloc (.cells #[.int .i64 q, .string s, .int .i64 m, .slice A m9 c9] 24)).alloc (.cells #[.int .i64 q', .string s', .int .i64 m', .slice A' m8 c8] 24)).setCell ⟨gl, 0, none⟩ (.int .i64 (l : Int))) (.int .i64 q) (.string s) (.int .i64 m) (.slice A m9 c9) (.int .i64 q') (.string s') (.int .i64 m') (.slice A' m8 c8) :=
    ⟨BA, BB, HA.out.narrow2.kept KG.out (fun b hb e => HN.out.2 (by rw [← e]; exact hb.1)), HB.out.narrow2.kept KG.out (fun b hb e => HN.out.2 (by rw [← e]; exact hb.1)), L1, HT.out.narrow.kept KG.out (fun b hb e => HN.out.2 (by rw [← e]; exact hb.1)) (fun e => HL.out.2.2.2.1 e.symm) (fun e => HL.out.2.2.2.2 e.symm), KG.out⟩
  have HM := hid M
  clear L0 L1 BA BB M KG ecast
  go_enter Tryd.func44, Tryd.ntmps44
  go_wp2
  clear a0 a1 c0
  revert HM
  generalize ((w.alloc (.cells #[.int .i64 q, .string s, .int .i64 m, .slice A m9 c9] 24)).alloc (.cells #[.int .i64 q', .string s', .int .i64 m', .slice A' m8 c8] 24)).setCell ⟨gl, 0, none⟩ (.int .i64 (l : Int)) = w1
  intro HM
  go_cut [] (fun wx => ∃ v0 v1 v2 v3 u0 u1 u2 u3, Hid (UniM S p pv c gl σ cur (hdT σ a) (hdT σ b) l w wx v0 v1 v2 v3 u0 u1 u2 u3))
  case first =>
    have M0 := hid HM.out.drew
    have x0 : (w1.drew).cell? ⟨w.heap.size, 0, none⟩ = some (.int .i64 q) := (M0.out).ba.cell 0; have x1 : (w1.drew).cell? ⟨w.heap.size, 1, none⟩ = some (.string s) := (M0.out).ba.cell 1; have x2 : (w1.drew).cell? ⟨w.heap.size, 2, none⟩ = some (.int .i64 m) := (M0.out).ba.cell 2; have x3 : (w1.drew).cell? ⟨w.heap.size, 3, none⟩ = some (.slice A m9 c9) := (M0.out).ba.cell 3; have y0 : (w1.drew).cell? ⟨w.heap.size + 1, 0, none⟩ = some (.int .i64 q') := (M0.out).bb.cell 0; have y1 : (w1.drew).cell? ⟨w.heap.size + 1, 1, none⟩ = some (.string s') := (M0.out).bb.cell 1; have y2 : (w1.drew).cell? ⟨w.heap.size + 1, 2, none⟩ = some (.int .i64 m') := (M0.out).bb.cell 2; have y3 : (w1.drew).cell? ⟨w.heap.size + 1, 3, none⟩ = some (.slice A' m8 c8) := (M0.out).bb.cell 3; have f0 := (M0.out).ba.frozen 0; have f1 := (M0.out).ba.frozen 1; have f2 := (M0.out).ba.frozen 2; have f3 := (M0.out).ba.frozen 3; have g0 := (M0.out).bb.frozen 0; have g1 := (M0.out).bb.frozen 1; have g2 := (M0.out).bb.frozen 2; have g3 := (M0.out).bb.frozen 3
    go_region_law (first
      | (go_simp; go_at_call 54; (with_reducible refine (links_Head (fun b => S b ∧ b < w.heap.size) p pv c σ cur a _ _ M0.out.tab HO.out.1 HO.out.2.1 M0.out.ta).mono ?_); rintro e w2 ⟨⟨v', rfl, hv'⟩, b1⟩; obtain ⟨q9, s9, k9, A9, m7, c7, rfl⟩ := hv'.agg; have M2 := hid (M0.out.up b1); have H2 := hid hv'; have x0 : (w2).cell? ⟨w.heap.size, 0, none⟩ = some (.int .i64 q) := (M2.out).ba.cell 0; have x1 : (w2).cell? ⟨w.heap.size, 1, none⟩ = some (.string s) := (M2.out).ba.cell 1; have x2 : (w2).cell? ⟨w.heap.size, 2, none⟩ = some (.int .i64 m) := (M2.out).ba.cell 2; have x3 : (w2).cell? ⟨w.heap.size, 3, none⟩ = some (.slice A m9 c9) := (M2.out).ba.cell 3; have y0 : (w2).cell? ⟨w.heap.size + 1, 0, none⟩ = some (.int .i64 q') := (M2.out).bb.cell 0; have y1 : (w2).cell? ⟨w.heap.size + 1, 1, none⟩ = some (.string s') := (M2.out).bb.cell 1; have y2 : (w2).cell? ⟨w.heap.size + 1, 2, none⟩ = some (.int .i64 m') := (M2.out).bb.cell 2; have y3 : (w2).cell? ⟨w.heap.size + 1, 3, none⟩ = some (.slice A' m8 c8) := (M2.out).bb.cell 3; have f0 := (M2.out).ba.frozen 0; have f1 := (M2.out).ba.frozen 1; have f2 := (M2.out).ba.frozen 2; have f3 := (M2.out).ba.frozen 3; have g0 := (M2.out).bb.frozen 0; have g1 := (M2.out).bb.frozen 1; have g2 := (M2.out).bb.frozen 2; have g3 := (M2.out).bb.frozen 3; (try have H4 := hid (H2.out.up b1)); clear hv' b1)
      | (go_simp; go_at_call 54; (with_reducible refine (links_Head (fun b => S b ∧ b < w.heap.size) p pv c σ cur b _ _ M0.out.tab HO.out.1 HO.out.2.2.1 M0.out.tb).mono ?_); rintro e w2 ⟨⟨v', rfl, hv'⟩, b1⟩; obtain ⟨q9, s9, k9, A9, m7, c7, rfl⟩ := hv'.agg; have M2 := hid (M0.out.up b1); have H2 := hid hv'; have x0 : (w2).cell? ⟨w.heap.size, 0, none⟩ = some (.int .i64 q) := (M2.out).ba.cell 0; have x1 : (w2).cell? ⟨w.heap.size, 1, none⟩ = some (.string s) := (M2.out).ba.cell 1; have x2 : (w2).cell? ⟨w.heap.size, 2, none⟩ = some (.int .i64 m) := (M2.out).ba.cell 2; have x3 : (w2).cell? ⟨w.heap.size, 3, none⟩ = some (.slice A m9 c9) := (M2.out).ba.cell 3; have y0 : (w2).cell? ⟨w.heap.size + 1, 0, none⟩ = some (.int .i64 q') := (M2.out).bb.cell 0; have y1 : (w2).cell? ⟨w.heap.size + 1, 1, none⟩ = some (.string s') := (M2.out).bb.cell 1; have y2 : (w2).cell? ⟨w.heap.size + 1, 2, none⟩ = some (.int .i64 m') := (M2.out).bb.cell 2; have y3 : (w2).cell? ⟨w.heap.size + 1, 3, none⟩ = some (.slice A' m8 c8) := (M2.out).bb.cell 3; have f0 := (M2.out).ba.frozen 0; have f1 := (M2.out).ba.frozen 1; have f2 := (M2.out).ba.frozen 2; have f3 := (M2.out).ba.frozen 3; have g0 := (M2.out).bb.frozen 0; have g1 := (M2.out).bb.frozen 1; have g2 := (M2.out).bb.frozen 2; have g3 := (M2.out).bb.frozen 3; (try have H4 := hid (H2.out.up b1)); clear hv' b1)
      | (go_simp; go_at_call 54; (with_reducible refine (links_Head (fun b => S b ∧ b < w.heap.size) p pv c σ cur a _ _ M2.out.tab HO.out.1 HO.out.2.1 M2.out.ta).mono ?_); rintro e w3 ⟨⟨v', rfl, hv'⟩, b1⟩; obtain ⟨q9, s9, k9, A9, m7, c7, rfl⟩ := hv'.agg; have M3 := hid (M2.out.up b1); have H3 := hid hv'; have x0 : (w3).cell? ⟨w.heap.size, 0, none⟩ = some (.int .i64 q) := (M3.out).ba.cell 0; have x1 : (w3).cell? ⟨w.heap.size, 1, none⟩ = some (.string s) := (M3.out).ba.cell 1; have x2 : (w3).cell? ⟨w.heap.size, 2, none⟩ = some (.int .i64 m) := (M3.out).ba.cell 2; have x3 : (w3).cell? ⟨w.heap.size, 3, none⟩ = some (.slice A m9 c9) := (M3.out).ba.cell 3; have y0 : (w3).cell? ⟨w.heap.size + 1, 0, none⟩ = some (.int .i64 q') := (M3.out).bb.cell 0; have y1 : (w3).cell? ⟨w.heap.size + 1, 1, none⟩ = some (.string s') := (M3.out).bb.cell 1; have y2 : (w3).cell? ⟨w.heap.size + 1, 2, none⟩ = some (.int .i64 m') := (M3.out).bb.cell 2; have y3 : (w3).cell? ⟨w.heap.size + 1, 3, none⟩ = some (.slice A' m8 c8) := (M3.out).bb.cell 3; have f0 := (M3.out).ba.frozen 0; have f1 := (M3.out).ba.frozen 1; have f2 := (M3.out).ba.frozen 2; have f3 := (M3.out).ba.frozen 3; have g0 := (M3.out).bb.frozen 0; have g1 := (M3.out).bb.frozen 1; have g2 := (M3.out).bb.frozen 2; have g3 := (M3.out).bb.frozen 3; (try have H4 := hid (H2.out.up b1)); clear hv' b1)
      | (go_simp; go_at_call 54; (with_reducible refine (links_Head (fun b => S b ∧ b < w.heap.size) p pv c σ cur b _ _ M2.out.tab HO.out.1 HO.out.2.2.1 M2.out.tb).mono ?_); rintro e w3 ⟨⟨v', rfl, hv'⟩, b1⟩; obtain ⟨q9, s9, k9, A9, m7, c7, rfl⟩ := hv'.agg; have M3 := hid (M2.out.up b1); have H3 := hid hv'; have x0 : (w3).cell? ⟨w.heap.size, 0, none⟩ = some (.int .i64 q) := (M3.out).ba.cell 0; have x1 : (w3).cell? ⟨w.heap.size, 1, none⟩ = some (.string s) := (M3.out).ba.cell 1; have x2 : (w3).cell? ⟨w.heap.size, 2, none⟩ = some (.int .i64 m) := (M3.out).ba.cell 2; have x3 : (w3).cell? ⟨w.heap.size, 3, none⟩ = some (.slice A m9 c9) := (M3.out).ba.cell 3; have y0 : (w3).cell? ⟨w.heap.size + 1, 0, none⟩ = some (.int .i64 q') := (M3.out).bb.cell 0; have y1 : (w3).cell? ⟨w.heap.size + 1, 1, none⟩ = some (.string s') := (M3.out).bb.cell 1; have y2 : (w3).cell? ⟨w.heap.size + 1, 2, none⟩ = some (.int .i64 m') := (M3.out).bb.cell 2; have y3 : (w3).cell? ⟨w.heap.size + 1, 3, none⟩ = some (.slice A' m8 c8) := (M3.out).bb.cell 3; have f0 := (M3.out).ba.frozen 0; have f1 := (M3.out).ba.frozen 1; have f2 := (M3.out).ba.frozen 2; have f3 := (M3.out).ba.frozen 3; have g0 := (M3.out).bb.frozen 0; have g1 := (M3.out).bb.frozen 1; have g2 := (M3.out).bb.frozen 2; have g3 := (M3.out).bb.frozen 3; (try have H4 := hid (H2.out.up b1)); clear hv' b1))
    all_goals
      go_wp2_with fail
      go_meet
      first
        | exact ⟨_, _, _, _, _, _, _, _, hid (M3.out.done HL.out.2.2.1 HL.out.1 HL.out.2.1 H4.out H3.out)⟩
        | exact ⟨_, _, _, _, _, _, _, _, hid (M3.out.done HL.out.2.2.1 HL.out.1 HL.out.2.1 H3.out H4.out)⟩
  case rest =>
    clear HM q5 q6 q7
    obtain ⟨v0, v1, v2, v3, u0, u1, u2, u3, HM⟩ := hcut
    have hgA := HO.out.1.hd_good HO.out.2.1
    have hgB := HO.out.1.hd_good HO.out.2.2.1
    generalize hdT σ a = a1 at HM hgA HR
    generalize hdT σ b = b1 at HM hgB HR
    obtain ⟨q1, s1, n1, us⟩ := a1
    obtain ⟨q2, s2, n2, vs⟩ := b1
    obtain ⟨A1, c1, e1, i1, i2, i3, i4, _⟩ := HM.out.ta.parts
    obtain ⟨A2, c2, e2, j1, j2, j3, j4, _⟩ := HM.out.tb.parts
    simp only [Value.agg.injEq, Array.mk.injEq, List.cons.injEq, and_true] at e1 e2
    obtain ⟨rfl, rfl, rfl, rfl⟩ := e1
    obtain ⟨rfl, rfl, rfl, rfl⟩ := e2
    have HK := hid (And.intro hgA (And.intro hgB (And.intro (And.intro i1 (And.intro i2 i4)) (And.intro j1 (And.intro j2 j4)))))
    have x0 : wc.cell? ⟨w.heap.size, 0, none⟩ = some (.int .i64 q1) := HM.out.ba.cell 0
    have x1 : wc.cell? ⟨w.heap.size, 1, none⟩ = some (.string s1) := HM.out.ba.cell 1
    have x2 : wc.cell? ⟨w.heap.size, 2, none⟩ = some (.int .i64 n1) := HM.out.ba.cell 2
    have x3 : wc.cell? ⟨w.heap.size, 3, none⟩ = some (.slice A1 us.length c1) := HM.out.ba.cell 3
    have y0 : wc.cell? ⟨w.heap.size + 1, 0, none⟩ = some (.int .i64 q2) := HM.out.bb.cell 0
    have y1 : wc.cell? ⟨w.heap.size + 1, 1, none⟩ = some (.string s2) := HM.out.bb.cell 1
    have y2 : wc.cell? ⟨w.heap.size + 1, 2, none⟩ = some (.int .i64 n2) := HM.out.bb.cell 2
    have y3 : wc.cell? ⟨w.heap.size + 1, 3, none⟩ = some (.slice A2 vs.length c2) := HM.out.bb.cell 3
    clear hgA hgB i1 i2 i3 i4 j1 j2 j3 j4
    have HS2 := hid (fun b (hb : wc.heap.size ≤ b) => HN.out.1 b (Nat.le_trans HM.out.kp.size hb))
    by_cases ha2 : q1 = 2
    · have hr1 := var_range HK.out.1 ha2
      simp only [Ty.num] at hr1
      have Hr1 := hid hr1
      clear hr1
      have C := hid (links_bind S p pv c σ cur n1 (.mk q2 s2 n2 vs) _ wc (HM.out.wide HT.out) HO.out.1 HK.out.2.1 (HM.out.tb.mono (fun _ hk _ => hk.1)) Hr1.out.1 Hr1.out.2 HS2.out)
      subst ha2
      by_cases hb2 : q2 = 2
      · subst hb2
        by_cases hn : n1 = n2
        · subst hn
          have hR := hid (HR.out.trans (stepF_same))
          clear C
          go_wp2
          go_ret
          rw [hR.out]
          exact HM.out.ret HT.out 0
        · have hR := hid (HR.out.trans (stepF_va (fun h => hn h.2)))
          have hn2 : (n1 == n2) = false := by simpa using hn
          go_wp2_with (go_at_call 55; go_must (refine C.out.mono ?_); rintro e w' ⟨rfl, hb1, hb2⟩; go_must (have hb := hid (And.intro hb1 hb2); clear hb1 hb2))
          go_ret
          rw [hR.out]
          exact HM.out.bind HL.out.2.2.2.2 ⟨rfl, hb.out⟩
      · have hR := hid (HR.out.trans (stepF_va (fun h => hb2 h.1)))
        have hn2 : (q2 == 2) = false := by simpa using hb2
        go_wp2_with (go_at_call 55; go_must (refine C.out.mono ?_); rintro e w' ⟨rfl, hb1, hb2⟩; go_must (have hb := hid (And.intro hb1 hb2); clear hb1 hb2))
        go_ret
        rw [hR.out]
        exact HM.out.bind HL.out.2.2.2.2 ⟨rfl, hb.out⟩
    have hn1 : (q1 == 2) = false := by simpa using ha2
    by_cases hb2 : q2 = 2
    · have hr1 := var_range HK.out.2.1 hb2
      simp only [Ty.num] at hr1
      have Hr1 := hid hr1
      clear hr1
      have C := hid (links_bind S p pv c σ cur n2 (.mk q1 s1 n1 us) _ wc (HM.out.wide HT.out) HO.out.1 HK.out.1 (HM.out.ta.mono (fun _ hk _ => hk.1)) Hr1.out.1 Hr1.out.2 HS2.out)
      subst hb2
      have hR := hid (HR.out.trans (stepF_vb ha2))
      go_wp2_with (go_at_call 55; go_must (refine C.out.mono ?_); rintro e w' ⟨rfl, hb1, hb2⟩; go_must (have hb := hid (And.intro hb1 hb2); clear hb1 hb2))
      go_ret
      rw [hR.out]
      exact HM.out.bind HL.out.2.2.2.2 ⟨rfl, hb.out⟩
    have hn2 : (q2 == 2) = false := by simpa using hb2
    by_cases h1 : q1 = q2
    case neg =>
      have hR := hid (HR.out.trans (stepF_no ha2 hb2 (.inl h1)))
      have g1 : (q1 != q2) = true := by simpa using h1
      go_wp2
      go_ret
      rw [hR.out]
      exact HM.out.ret HT.out 150
    subst h1
    by_cases h2 : s1 = s2
    case neg =>
      have hR := hid (HR.out.trans (stepF_no ha2 hb2 (.inr (.inl h2))))
      have g1 := str_ne (decide_eq_false h2)
      go_wp2
      go_ret
      rw [hR.out]
      exact HM.out.ret HT.out 150
    subst h2
    by_cases h3 : us.length = vs.length
    case neg =>
      have hR := hid (HR.out.trans (stepF_no ha2 hb2 (.inr (.inr h3))))
      have g1 : (((us.length : Nat) : Int) != (vs.length : Nat)) = true := by simp; omega
      go_wp2
      go_ret
      rw [hR.out]
      exact HM.out.ret HT.out 150
    have hR := hid (HR.out.trans (stepF_go ha2 h3))
    have H3 := hid h3
    have hLu : us.length ≤ 9223372036854775807 := by have h1 := HK.out.2.2.1.1; have h2 := HK.out.2.2.1.2.1; unfold maxLen at h2; omega
    have hLv : vs.length ≤ 9223372036854775807 := by omega
    have g1 : (((us.length : Nat) : Int) != (vs.length : Nat)) = false := by simp; omega
    have g2 : (!us.length == vs.length) = false := by simp; omega
    clear h3
    go_wp2
    clear x0 x1 x2 x3 y0 y1 y2 y3
    go_loopg [85] us.length (fun g x wr => ∃ (i li : Nat) (σi : Sg) (ci : Array Value), i + g = us.length ∧ x = .int .i64 i ∧ Hid (Ok σi ∧ σi.length = σ.length ∧ li ≤ l) ∧ Hid (pairL (pairF k) σ us vs l = pairL (pairF k) σi (us.drop i) (vs.drop i) li) ∧ Hid (Tb S wr p pv c σi ci) ∧ Hid (Blk wr gl 3 #[.int .i64 li]) ∧ Hid (Kept (fun b => b = pv ∨ b = gl) wc wr))
    case atStart => exact ⟨0, l, σ, cur, by omega, rfl, hid ⟨HO.out.1, rfl, Nat.le_refl _⟩, hid rfl, hid (HM.out.wide HT.out), hid HM.out.lf, hid (Kept.refl _ _)⟩
    case round =>
      obtain ⟨i, li, σi, ci, hi, rfl, hO, hP, hTi, hL, hK⟩ := hrel
      have Hi := hid hi
      have KW := hid (HM.out.kp.then hK.out (U := fun b => b = pv ∨ b = gl) (fun _ _ e => .inr e) (fun _ _ e => e))
      by_cases hlt : i < us.length
      · have hlt' : (i : Int) < us.length := by omega
        have hltv : i < vs.length := by have := H3.out; omega
        have hltv' : (i : Int) < vs.length := by omega
        have hi0 : (0 : Int) ≤ (i : Int) := by omega
        have hSk : ∀ b, (S b ∧ b < w.heap.size) → ¬ (b = pv ∨ b = gl) := fun b hb e => by rcases e with rfl | rfl; exact HT.out.vS hb.1; exact HN.out.2 hb.1
        obtain ⟨ad, qa, sa, na, Aa, ma, ca, rfl, hSb, hab, x4, x5, x6, x7, hela⟩ := (HK.out.2.2.1.2.2.kept hK.out hSk).elem hlt
        obtain ⟨ad', qb, sb, nb, Ab, mb, cb, rfl, hSb', hab', y4, y5, y6, y7, helb⟩ := (HK.out.2.2.2.2.2.kept hK.out hSk).elem hltv
        have BA := hid (HM.out.ba.kept hK.out (by have := HL.out; omega))
        have BB := hid (HM.out.bb.kept hK.out (by have := HL.out; omega))
        have x3 : wr.cell? ⟨w.heap.size, 3, none⟩ = some (.slice (some ad) us.length c1) := BA.out.cell 3
        have y3 : wr.cell? ⟨w.heap.size + 1, 3, none⟩ = some (.slice (some ad') vs.length c2) := BB.out.cell 3
        have hga1 := goodL_mem (goodT_iff.1 HK.out.1).2 _ (List.getElem_mem hlt)
        have hgb1 := goodL_mem (goodT_iff.1 HK.out.2.1).2 _ (List.getElem_mem hltv)
        have hpd := pairL_drop (f := pairF k) (σ := σi) (l := li) hlt hltv
        have hfine := pairF_fine k σi us[i] vs[i] li hO.out.1 (by rw [hO.out.2.1]; exact hga1) (by rw [hO.out.2.1]; exact hgb1)
        have C := hid (HI.out σi ci us[i] vs[i] _ _ li wr.drew (by have h1 := HO.out.2.2.2; have h2 := hO.out.2.2; omega) (by have h2 := hO.out.2.2; omega) (hTi.out.up ((Below.refl _ _).drew)) hO.out.1 (by rw [hO.out.2.1]; exact hga1) (by rw [hO.out.2.1]; exact hgb1) ((hela.mono (fun _ hk _ => hk.1)).up ((Below.refl _ _).drew)) ((helb.mono (fun _ hk _ => hk.1)).up ((Below.refl _ _).drew)) hL.out.drew (fun b hb => HN.out.1 b (Nat.le_trans KW.out.size hb)))
        have Hpd := hid hpd
        have HF := hid hfine
        have HAD := hid (And.intro hSb (And.intro hab (And.intro hSb' hab')))
        clear hi hpd hfine hga1 hgb1 hSk hela helb hSb hab hSb' hab'
        generalize pairF k σi us[i] vs[i] li = r at C Hpd HF
        clear hltv
        by_cases hr : r.1 = 0
        case neg =>
          have hd : (r.1 != 0) = true := by simpa using hr
          have Hr := hid hr
          clear hr
          go_wp2
          go_region_held3 (fun w' => w'.cell? ⟨w.heap.size, 3, none⟩ = some (.slice (some ad) us.length c1) ∧ w'.cell? ⟨w.heap.size + 1, 3, none⟩ = some (.slice (some ad') vs.length c2) ∧ w'.cell? (ad.add (i * 4)) = some (.int .i64 qa) ∧ w'.cell? ⟨(ad.add (i * 4)).block, (ad.add (i * 4)).off + 1, none⟩ = some (.string sa) ∧ w'.cell? ⟨(ad.add (i * 4)).block, (ad.add (i * 4)).off + 2, none⟩ = some (.int .i64 na) ∧ w'.cell? ⟨(ad.add (i * 4)).block, (ad.add (i * 4)).off + 3, none⟩ = some (.slice Aa ma ca) ∧ w'.cell? (ad'.add (i * 4)) = some (.int .i64 qb) ∧ w'.cell? ⟨(ad'.add (i * 4)).block, (ad'.add (i * 4)).off + 1, none⟩ = some (.string sb) ∧ w'.cell? ⟨(ad'.add (i * 4)).block, (ad'.add (i * 4)).off + 2, none⟩ = some (.int .i64 nb) ∧ w'.cell? ⟨(ad'.add (i * 4)).block, (ad'.add (i * 4)).off + 3, none⟩ = some (.slice Ab mb cb)) (first | with_reducible exact ⟨x3, y3, x4, x5, x6, x7, y4, y5, y6, y7⟩ | with_reducible exact ⟨X3, Y3, X4, X5, X6, X7, Y4, Y5, Y6, Y7⟩ | go_keep)
            (first | (go_at_call 44; go_must (refine C.out.mono ?_); rintro e w4 ⟨rfl, hb1, hb2, hb3⟩; go_must (have X3 : w4.cell? ⟨w.heap.size, 3, none⟩ = _ := (BA.out.drew.kept hb3 (by have := HL.out; omega)).cell 3; have Y3 : w4.cell? ⟨w.heap.size + 1, 3, none⟩ = _ := (BB.out.drew.kept hb3 (by have := HL.out; omega)).cell 3; have hA9 : ¬ (ad.block = pv ∨ ad.block = gl) := (fun e => by rcases e with e | e; exact HT.out.vS (by rw [← e]; exact HAD.out.1.1); exact HN.out.2 (by rw [← e]; exact HAD.out.1.1)); have hB9 : ¬ (ad'.block = pv ∨ ad'.block = gl) := (fun e => by rcases e with e | e; exact HT.out.vS (by rw [← e]; exact HAD.out.2.2.1.1); exact HN.out.2 (by rw [← e]; exact HAD.out.2.2.1.1)); have X4 : w4.cell? (ad.add (i * 4)) = _ := (kept_cell hb3 (a := (ad.add (i * 4))) (by rw [HAD.out.2.1]; exact hA9) (by exact cell_lt x4)).trans x4; have X5 : w4.cell? ⟨(ad.add (i * 4)).block, (ad.add (i * 4)).off + 1, none⟩ = _ := (kept_cell hb3 (a := ⟨(ad.add (i * 4)).block, (ad.add (i * 4)).off + 1, none⟩) (by rw [HAD.out.2.1]; exact hA9) (by exact cell_lt x5)).trans x5; have X6 : w4.cell? ⟨(ad.add (i * 4)).block, (ad.add (i * 4)).off + 2, none⟩ = _ := (kept_cell hb3 (a := ⟨(ad.add (i * 4)).block, (ad.add (i * 4)).off + 2, none⟩) (by rw [HAD.out.2.1]; exact hA9) (by exact cell_lt x6)).trans x6; have X7 : w4.cell? ⟨(ad.add (i * 4)).block, (ad.add (i * 4)).off + 3, none⟩ = _ := (kept_cell hb3 (a := ⟨(ad.add (i * 4)).block, (ad.add (i * 4)).off + 3, none⟩) (by rw [HAD.out.2.1]; exact hA9) (by exact cell_lt x7)).trans x7; have Y4 : w4.cell? (ad'.add (i * 4)) = _ := (kept_cell hb3 (a := (ad'.add (i * 4))) (by rw [HAD.out.2.2.2]; exact hB9) (by exact cell_lt y4)).trans y4; have Y5 : w4.cell? ⟨(ad'.add (i * 4)).block, (ad'.add (i * 4)).off + 1, none⟩ = _ := (kept_cell hb3 (a := ⟨(ad'.add (i * 4)).block, (ad'.add (i * 4)).off + 1, none⟩) (by rw [HAD.out.2.2.2]; exact hB9) (by exact cell_lt y5)).trans y5; have Y6 : w4.cell? ⟨(ad'.add (i * 4)).block, (ad'.add (i * 4)).off + 2, none⟩ = _ := (kept_cell hb3 (a := ⟨(ad'.add (i * 4)).block, (ad'.add (i * 4)).off + 2, none⟩) (by rw [HAD.out.2.2.2]; exact hB9) (by exact cell_lt y6)).trans y6; have Y7 : w4.cell? ⟨(ad'.add (i * 4)).block, (ad'.add (i * 4)).off + 3, none⟩ = _ := (kept_cell hb3 (a := ⟨(ad'.add (i * 4)).block, (ad'.add (i * 4)).off + 3, none⟩) (by rw [HAD.out.2.2.2]; exact hB9) (by exact cell_lt y7)).trans y7; have HB4 := hid (And.intro hb1 (And.intro hb2 (Kept.hop hb3 (Kept.drew (Kept.refl _ wr))))); clear hb1 hb2 hb3))) 
          go_wp2
          go_ret
          have e9 : R = r := by rw [hR.out, hP.out, Hpd.out, if_neg Hr.out]
          rw [e9]
          exact ⟨rfl, HB4.out.1, HB4.out.2.1, HB4.out.2.2.hop KW.out⟩
        case pos =>
          have hd : (r.1 != 0) = false := by simpa using hr
          have Hr := hid hr
          clear hr
          go_wp2
          go_region_held3 (fun w' => w'.cell? ⟨w.heap.size, 3, none⟩ = some (.slice (some ad) us.length c1) ∧ w'.cell? ⟨w.heap.size + 1, 3, none⟩ = some (.slice (some ad') vs.length c2) ∧ w'.cell? (ad.add (i * 4)) = some (.int .i64 qa) ∧ w'.cell? ⟨(ad.add (i * 4)).block, (ad.add (i * 4)).off + 1, none⟩ = some (.string sa) ∧ w'.cell? ⟨(ad.add (i * 4)).block, (ad.add (i * 4)).off + 2, none⟩ = some (.int .i64 na) ∧ w'.cell? ⟨(ad.add (i * 4)).block, (ad.add (i * 4)).off + 3, none⟩ = some (.slice Aa ma ca) ∧ w'.cell? (ad'.add (i * 4)) = some (.int .i64 qb) ∧ w'.cell? ⟨(ad'.add (i * 4)).block, (ad'.add (i * 4)).off + 1, none⟩ = some (.string sb) ∧ w'.cell? ⟨(ad'.add (i * 4)).block, (ad'.add (i * 4)).off + 2, none⟩ = some (.int .i64 nb) ∧ w'.cell? ⟨(ad'.add (i * 4)).block, (ad'.add (i * 4)).off + 3, none⟩ = some (.slice Ab mb cb)) (first | with_reducible exact ⟨x3, y3, x4, x5, x6, x7, y4, y5, y6, y7⟩ | with_reducible exact ⟨X3, Y3, X4, X5, X6, X7, Y4, Y5, Y6, Y7⟩ | go_keep)
            (first | (go_at_call 44; go_must (refine C.out.mono ?_); rintro e w4 ⟨rfl, hb1, hb2, hb3⟩; go_must (have X3 : w4.cell? ⟨w.heap.size, 3, none⟩ = _ := (BA.out.drew.kept hb3 (by have := HL.out; omega)).cell 3; have Y3 : w4.cell? ⟨w.heap.size + 1, 3, none⟩ = _ := (BB.out.drew.kept hb3 (by have := HL.out; omega)).cell 3; have hA9 : ¬ (ad.block = pv ∨ ad.block = gl) := (fun e => by rcases e with e | e; exact HT.out.vS (by rw [← e]; exact HAD.out.1.1); exact HN.out.2 (by rw [← e]; exact HAD.out.1.1)); have hB9 : ¬ (ad'.block = pv ∨ ad'.block = gl) := (fun e => by rcases e with e | e; exact HT.out.vS (by rw [← e]; exact HAD.out.2.2.1.1); exact HN.out.2 (by rw [← e]; exact HAD.out.2.2.1.1)); have X4 : w4.cell? (ad.add (i * 4)) = _ := (kept_cell hb3 (a := (ad.add (i * 4))) (by rw [HAD.out.2.1]; exact hA9) (by exact cell_lt x4)).trans x4; have X5 : w4.cell? ⟨(ad.add (i * 4)).block, (ad.add (i * 4)).off + 1, none⟩ = _ := (kept_cell hb3 (a := ⟨(ad.add (i * 4)).block, (ad.add (i * 4)).off + 1, none⟩) (by rw [HAD.out.2.1]; exact hA9) (by exact cell_lt x5)).trans x5; have X6 : w4.cell? ⟨(ad.add (i * 4)).block, (ad.add (i * 4)).off + 2, none⟩ = _ := (kept_cell hb3 (a := ⟨(ad.add (i * 4)).block, (ad.add (i * 4)).off + 2, none⟩) (by rw [HAD.out.2.1]; exact hA9) (by exact cell_lt x6)).trans x6; have X7 : w4.cell? ⟨(ad.add (i * 4)).block, (ad.add (i * 4)).off + 3, none⟩ = _ := (kept_cell hb3 (a := ⟨(ad.add (i * 4)).block, (ad.add (i * 4)).off + 3, none⟩) (by rw [HAD.out.2.1]; exact hA9) (by exact cell_lt x7)).trans x7; have Y4 : w4.cell? (ad'.add (i * 4)) = _ := (kept_cell hb3 (a := (ad'.add (i * 4))) (by rw [HAD.out.2.2.2]; exact hB9) (by exact cell_lt y4)).trans y4; have Y5 : w4.cell? ⟨(ad'.add (i * 4)).block, (ad'.add (i * 4)).off + 1, none⟩ = _ := (kept_cell hb3 (a := ⟨(ad'.add (i * 4)).block, (ad'.add (i * 4)).off + 1, none⟩) (by rw [HAD.out.2.2.2]; exact hB9) (by exact cell_lt y5)).trans y5; have Y6 : w4.cell? ⟨(ad'.add (i * 4)).block, (ad'.add (i * 4)).off + 2, none⟩ = _ := (kept_cell hb3 (a := ⟨(ad'.add (i * 4)).block, (ad'.add (i * 4)).off + 2, none⟩) (by rw [HAD.out.2.2.2]; exact hB9) (by exact cell_lt y6)).trans y6; have Y7 : w4.cell? ⟨(ad'.add (i * 4)).block, (ad'.add (i * 4)).off + 3, none⟩ = _ := (kept_cell hb3 (a := ⟨(ad'.add (i * 4)).block, (ad'.add (i * 4)).off + 3, none⟩) (by rw [HAD.out.2.2.2]; exact hB9) (by exact cell_lt y7)).trans y7; have HB4 := hid (And.intro hb1 (And.intro hb2 (Kept.hop hb3 (Kept.drew (Kept.refl _ wr))))); clear hb1 hb2 hb3)))
          go_wp2
          obtain ⟨cn, hTn⟩ := HB4.out.1
          obtain ⟨xl, hxl, hxl2⟩ := HB4.out.2.1
          have hgk := Hi.out
          go_roundg (gk - 1)
          case rel => exact ⟨i + 1, r.2.2, r.2.1, cn, by omega, rfl, hid ⟨HF.out.ok, HF.out.len.trans hO.out.2.1, Nat.le_trans HF.out.left hO.out.2.2⟩, hid (by rw [hP.out, Hpd.out, if_pos Hr.out]), hid hTn, hid (by rw [← hxl2 Hr.out]; exact hxl), hid (HB4.out.2.2.hop hK.out)⟩
          case measure => omega
      · obtain rfl : i = us.length := by omega
        clear hi
        have y3 : True := trivial
        go_wp2
        go_ret
        have e9 : R = (0, σi, li) := by rw [hR.out, hP.out, List.drop_length, pairL]; simp
        rw [e9]
        exact ⟨rfl, ⟨ci, hTi.out⟩, ⟨_, hL.out, fun _ => rfl⟩, KW.out⟩
theorem links_unify (S : Nat → Prop) (p pv c gl : Nat) (hgS : ¬ S gl) : ∀ k, UniC S p pv c gl k
  | 0 => fun σ cur a b va vb l w hl => by omega
  | k + 1 => uni_node S p pv c gl k hgS (links_unify S p pv c gl hgS k)
end Go.Proofs.YtnlifgcnmhakiaaDoor
