/-
  A TABLE IN MEMORY; THE WALK OF links.Head.
-/
import Derived.Test.YtnlifgcnmhakiaaDoorTUni
import Derived.Test.YtnlifgcnmhakiaaDoorTRow
import Derived.Test.YtnlifgcnmhakiaaDoorTSame
namespace Go.Proofs.YtnlifgcnmhakiaaDoor
open Go.ChangeShapes Go.WideShapes Go.ChangeAt Go.RowKit

theorem TAt.drewN {w : World} {S : Nat → Prop} {t : Ty} {v : Value} (h : TAt w S t v) (n : Nat) : TAt (w.drewN n) S t v := TAt.keep (w := w) (w' := w.drewN n) (fun _ hk _ => ⟨rfl, hk⟩) t v h
/-- A table (of a typ.Solver at block p, its variables in block pv): what is bound reads from blocks of S. -/
structure Tb (S : Nat → Prop) (w : World) (p pv c : Nat) (σ : Sg) (cur : Array Value) : Prop where
  blk : Blk w p 71 #[.int .i64 σ.length, .slice (some ⟨pv, 0, none⟩) σ.length c]
  row : Blk w pv 85 cur
  size : cur.size = c * 5
  len : σ.length ≤ c
  cap : c ≤ maxLen
  few : σ.length ≤ 1000
  pS : ¬ S p
  vS : ¬ S pv
  ne : p ≠ pv
  ent : ∀ i, i < σ.length → ∃ k s n A m c' b, cur[i * 5]? = some (.int .i64 k) ∧ cur[i * 5 + 1]? = some (.string s) ∧ cur[i * 5 + 2]? = some (.int .i64 n) ∧ cur[i * 5 + 3]? = some (.slice A m c') ∧ cur[i * 5 + 4]? = some (.bool b) ∧
    (b = false → σ[i]? = some none) ∧ (b = true → ∃ t, σ[i]? = some (some t) ∧ TAt w S t (.agg #[.int .i64 k, .string s, .int .i64 n, .slice A m c']))
theorem Tb.keep {S : Nat → Prop} {w w' : World} {p pv c : Nat} {σ : Sg} {cur : Array Value} (h : Tb S w p pv c σ cur) (hk : ∀ k, k < w.heap.size → S k ∨ k = p ∨ k = pv → w'.heap[k]? = w.heap[k]?) : Tb S w' p pv c σ cur := by
  refine ⟨(hk _ h.blk.lt (.inr (.inl rfl))).trans h.blk, (hk _ h.row.lt (.inr (.inr rfl))).trans h.row, h.size, h.len, h.cap, h.few, h.pS, h.vS, h.ne, fun i hi => ?_⟩
  obtain ⟨k, s, n, A, m, c', b, e0, e1, e2, e3, e4, h0, h1⟩ := h.ent i hi
  refine ⟨k, s, n, A, m, c', b, e0, e1, e2, e3, e4, h0, fun hb => ?_⟩
  obtain ⟨t, h2, h3⟩ := h1 hb
  exact ⟨t, h2, h3.keep (fun k hk1 hk2 => ⟨hk k hk2 (.inl hk1), hk1⟩)⟩
theorem Tb.up {S : Nat → Prop} {w w' : World} {p pv c : Nat} {σ : Sg} {cur : Array Value} (h : Tb S w p pv c σ cur) (hb : Below w.heap.size w w') : Tb S w' p pv c σ cur := h.keep (fun k hk _ => hb.block k hk)
theorem Tb.bound {S : Nat → Prop} {w : World} {p pv c : Nat} {σ : Sg} {cur : Array Value} (h : Tb S w p pv c σ cur) {i : Nat} (hi : i < σ.length) : ∃ k s n A m c' b, w.cell? ⟨pv, i * 5, none⟩ = some (.int .i64 k) ∧ w.cell? ⟨pv, i * 5 + 1, none⟩ = some (.string s) ∧ w.cell? ⟨pv, i * 5 + 2, none⟩ = some (.int .i64 n) ∧ w.cell? ⟨pv, i * 5 + 3, none⟩ = some (.slice A m c') ∧ w.cell? ⟨pv, i * 5 + 4, none⟩ = some (.bool b) ∧
    (b = false → bnd σ ((i : Int) + 1) = none) ∧ (b = true → ∃ t, bnd σ ((i : Int) + 1) = some t ∧ TAt w S t (.agg #[.int .i64 k, .string s, .int .i64 n, .slice A m c'])) := by
  obtain ⟨k, s, n, A, m, c', b, e0, e1, e2, e3, e4, h0, h1⟩ := h.ent i hi
  have e : ((i : Int) + 1 - 1).toNat = i := by omega
  refine ⟨k, s, n, A, m, c', b, (h.row.cell _).trans e0, (h.row.cell _).trans e1, (h.row.cell _).trans e2, (h.row.cell _).trans e3, (h.row.cell _).trans e4, fun hb => ?_, fun hb => ?_⟩
  · unfold bnd; rw [e, h0 hb]; rfl
  · obtain ⟨t, h2, h3⟩ := h1 hb
    exact ⟨t, by unfold bnd; rw [e, h2]; rfl, h3⟩
/-- .. in a later world, where nothing old has turned. -/
theorem Tb.bound' {S : Nat → Prop} {w w' : World} {p pv c : Nat} {σ : Sg} {cur : Array Value} (h : Tb S w p pv c σ cur) (hb : Below w.heap.size w w') {i : Nat} (hi : i < σ.length) : ∃ k s n A m c' b, w'.cell? ⟨pv, i * 5, none⟩ = some (.int .i64 k) ∧ w'.cell? ⟨pv, i * 5 + 1, none⟩ = some (.string s) ∧ w'.cell? ⟨pv, i * 5 + 2, none⟩ = some (.int .i64 n) ∧ w'.cell? ⟨pv, i * 5 + 3, none⟩ = some (.slice A m c') ∧ w'.cell? ⟨pv, i * 5 + 4, none⟩ = some (.bool b) ∧
    (b = false → bnd σ ((i : Int) + 1) = none) ∧ (b = true → ∃ t, bnd σ ((i : Int) + 1) = some t ∧ TAt w' (fun b => S b ∧ b < w.heap.size) t (.agg #[.int .i64 k, .string s, .int .i64 n, .slice A m c'])) := by
  obtain ⟨k, s, n, A, m, c', b, y0, y1, y2, y3, y4, h0, h1⟩ := h.bound hi
  have e := fun (j : Nat) => hb.cell (p := ⟨pv, j, none⟩) h.row.lt
  refine ⟨k, s, n, A, m, c', b, (e _).trans y0, (e _).trans y1, (e _).trans y2, (e _).trans y3, (e _).trans y4, h0, fun hb2 => ?_⟩
  obtain ⟨t, h2, h3⟩ := h1 hb2
  exact ⟨t, h2, h3.keep (fun k hk hl => ⟨hb.block k hl, hk, hl⟩)⟩
/-- A type's beginning, by steps. -/
inductive HdN (σ : Sg) : Nat → Ty → Ty → Prop where
  | here {t : Ty} (h : t.kd = 2 → bnd σ t.num = none) : HdN σ 0 t t
  | step {k : Nat} {s : ByteArray} {n : Int} {us : List Ty} {u v : Ty} (h : bnd σ n = some u) (h2 : HdN σ k u v) : HdN σ (k + 1) (.mk 2 s n us) v
theorem Hd.steps {σ : Sg} {t u : Ty} (h : Hd σ t u) : ∃ k, HdN σ k t u := by
  induction h with
  | here h => exact ⟨0, .here h⟩
  | step h _ ih => obtain ⟨k, hk⟩ := ih; exact ⟨k + 1, .step h hk⟩
/-- What Head tells. -/
def HeadP (S : Nat → Prop) (u : Ty) (w : World) (e : Ending) (w' : World) : Prop := (∃ v, e = .returned v ∧ TAt w' (fun b => S b ∧ b < w.heap.size) u v) ∧ Below w.heap.size w w'
set_option maxHeartbeats 4000000 in
set_option maxRecDepth 100000 in
theorem links_Head (S : Nat → Prop) (p pv c : Nat) (σ : Sg) (cur : Array Value) (t : Ty) (v : Value) (w : World) (hT : Tb S w p pv c σ cur) (hok : Ok σ) (hg : goodT σ.length t = true) (hv : TAt w S t v) :
    Calls Tryd.prog 54 #[.pointer (some ⟨p, 0, none⟩), v] w (HeadP S (hdT σ t) w) := by
  obtain ⟨K, hK⟩ := (hok.hd_ hg).steps
  have HV := hid hv
  obtain ⟨q, s, k, A, m, c2, rfl⟩ := hv.agg
  have HT := hid hT
  have HG := hid (And.intro hok hg)
  have HK := hid hK
  generalize hdT σ t = u at HK
  clear hv hT hok hg hK
  go_enter Tryd.func54, Tryd.ntmps54
  go_wp2
  go_loopg [5] K (fun g x wr => ∃ (t : Ty) (q : Int) (s : ByteArray) (k : Int) (A : Option Addr) (m c2 : Nat), Hid (HdN σ g t u) ∧ Hid (Blk wr w.heap.size 24 #[.int .i64 q, .string s, .int .i64 k, .slice A m c2]) ∧ Hid (TAt wr (fun b => S b ∧ b < w.heap.size) t (.agg #[.int .i64 q, .string s, .int .i64 k, .slice A m c2])) ∧ Hid (goodT σ.length t = true) ∧ Hid (Below w.heap.size w wr) ∧ Hid (Blk wr (w.heap.size + 1) 24 #[.int .i64 0, .string ⟨#[]⟩, .int .i64 0, .slice none 0 0]))
  case atStart =>
    have b2 := below_2 (Below.refl w.heap.size w) (.cells #[.int .i64 q, .string s, .int .i64 k, .slice A m c2] 24) (.cells #[.int .i64 0, .string ⟨#[]⟩, .int .i64 0, .slice none 0 0] 24)
    exact ⟨t, q, s, k, A, m, c2, HK, hid ((Blk.new _ _ _).alloc _), hid (HV.out.keep (fun k hk hl => ⟨b2.block k hl, hk, hl⟩)), hid HG.out.2, hid b2, hid (Blk.new' (by simp) _ _)⟩
  case round =>
    clear HV HK
    obtain ⟨t, q, s, k, A, m, c2, hH, hb, ht, hg, hB, hO⟩ := hrel
    obtain ⟨q', s', k', us⟩ := t
    obtain ⟨A5, c5, e5, _⟩ := ht.out.parts
    simp only [Value.agg.injEq, Array.mk.injEq, List.cons.injEq, and_true, Value.int.injEq, Value.string.injEq, Value.slice.injEq, true_and] at e5
    obtain ⟨rfl, rfl, rfl, rfl, rfl, rfl⟩ := e5
    have x0 : wr.cell? ⟨w.heap.size, 0, none⟩ = some (.int .i64 q) := hb.out.cell 0
    have x1 : wr.cell? ⟨w.heap.size, 1, none⟩ = some (.string s) := hb.out.cell 1
    have x2 : wr.cell? ⟨w.heap.size, 2, none⟩ = some (.int .i64 k) := hb.out.cell 2
    have x3 : wr.cell? ⟨w.heap.size, 3, none⟩ = some (.slice A us.length c2) := hb.out.cell 3
    by_cases hq : q = 2
    · subst hq
      obtain ⟨i, rfl⟩ : ∃ i : Nat, k = (i : Int) + 1 := ⟨(k - 1).toNat, by have := (good_var hg.out).2.2.1; omega⟩
      have hi : i < σ.length := by have := (good_var hg.out).2.2.2; omega
      obtain ⟨k2, s2, n2, A2, m2, c3, b, y0, y1, y2, y3, y4, hb0, hb1⟩ := HT.out.bound' hB.out hi
      have z1 : wr.cell? ⟨p, 1, none⟩ = some (.slice (some ⟨pv, 0, none⟩) σ.length c) := (hB.out.cell (p := ⟨p, 1, none⟩) HT.out.blk.lt).trans (HT.out.blk.cell 1)
      have hlt' : (i : Int) < σ.length := by omega
      have hfew := HT.out.few
      have q5 : IntKind.i64.wrap ((i : Int) + 1 - 1) = i := by rw [show (i : Int) + 1 - 1 = i from by omega]; exact IntWalk.i64_in _ (by omega)
      cases b with
      | false =>
        have hH0 := hb0 rfl
        obtain rfl : Ty.mk 2 s ((i : Int) + 1) us = u := by
          cases hH.out with
          | here _ => rfl
          | step h _ => cases hH0.symm.trans h
        clear hb0 hb1 hi hH hH0
        have OUT : Hid (Blk (wr) (w.heap.size + 1) 24 #[.int .i64 0, .string ⟨#[]⟩, .int .i64 0, .slice none 0 0]) := hid (hO.out); have o0 : (wr).cell? ⟨w.heap.size + 1, 0, none⟩ = some (.int .i64 0) := OUT.out.cell 0; have o1 : (wr).cell? ⟨w.heap.size + 1, 1, none⟩ = some (.string ⟨#[]⟩) := OUT.out.cell 1; have o2 : (wr).cell? ⟨w.heap.size + 1, 2, none⟩ = some (.int .i64 0) := OUT.out.cell 2; have o3 : (wr).cell? ⟨w.heap.size + 1, 3, none⟩ = some (.slice none 0 0) := OUT.out.cell 3; have g0 := OUT.out.frozen 0; have g1 := OUT.out.frozen 1; have g2 := OUT.out.frozen 2; have g3 := OUT.out.frozen 3
        go_wp2
        go_quiet (fail)
        go_wp2
        exact ret_type rfl (by rfl) (set4_blk (OUT.out.drewN nq)) rfl ⟨⟨_, rfl, (ht.out.drewN nq).keep (w' := _) (fun k hk hl => ⟨set4_other (w := wr.drewN nq) (by omega), hk⟩)⟩, set4_below (below_drewN hB.out nq) (by omega)⟩
      | true =>
        obtain ⟨t2, hbt, ht2⟩ := hb1 rfl
        obtain ⟨g2, hH2⟩ : ∃ g2, gk = g2 + 1 ∧ HdN σ g2 t2 u := by
          cases hH.out with
          | here h => cases (h rfl).symm.trans hbt
          | step h h2 => rw [hbt] at h; injection h with h; subst h; exact ⟨_, rfl, h2⟩
        have HN := hid (And.intro hH2.1 (And.intro hH2.2 (And.intro ht2 (HG.out.1.good _ _ (by omega) hbt))))
        have hHg := hid hg.out
        clear hb0 hb1 hi hH hbt hH2 ht2
        have f0 := hb.out.frozen 0
        have f1 := hb.out.frozen 1
        have f2 := hb.out.frozen 2
        have f3 := hb.out.frozen 3
        go_wp2
        go_quiet (fail)
        go_wp2
        go_roundg g2
        case rel => exact ⟨t2, k2, s2, n2, A2, m2, c3, hid HN.out.2.1, hid (set4_blk (hb.out.drewN nq)), hid ((HN.out.2.2.1.drewN nq).keep (fun k hk hl => ⟨set4_other (w := wr.drewN nq) (by omega), hk⟩)), hid HN.out.2.2.2, hid (set4_below (below_drewN hB.out nq) (Nat.le_refl _)), hid (((((hO.out.drewN nq).far (by dsimp only; omega) _).far (by dsimp only; omega) _).far (by dsimp only; omega) _).far (by dsimp only; omega) _)⟩
        case measure => have := HN.out.1; omega
    · obtain rfl : Ty.mk q s k us = u := by
        cases hH.out with
        | here _ => rfl
        | step h _ => exact absurd rfl hq
      clear hH
      have OUT : Hid (Blk (wr) (w.heap.size + 1) 24 #[.int .i64 0, .string ⟨#[]⟩, .int .i64 0, .slice none 0 0]) := hid (hO.out); have o0 : (wr).cell? ⟨w.heap.size + 1, 0, none⟩ = some (.int .i64 0) := OUT.out.cell 0; have o1 : (wr).cell? ⟨w.heap.size + 1, 1, none⟩ = some (.string ⟨#[]⟩) := OUT.out.cell 1; have o2 : (wr).cell? ⟨w.heap.size + 1, 2, none⟩ = some (.int .i64 0) := OUT.out.cell 2; have o3 : (wr).cell? ⟨w.heap.size + 1, 3, none⟩ = some (.slice none 0 0) := OUT.out.cell 3; have g0 := OUT.out.frozen 0; have g1 := OUT.out.frozen 1; have g2 := OUT.out.frozen 2; have g3 := OUT.out.frozen 3
      go_wp2
      exact ret_type rfl (by rfl) (set4_blk OUT.out) rfl ⟨⟨_, rfl, ht.out.keep (w' := _) (fun k hk hl => ⟨set4_other (by omega), hk⟩)⟩, set4_below hB.out (by omega)⟩
end Go.Proofs.YtnlifgcnmhakiaaDoor
