/-
  THE DOCUMENT'S TABLE IN MEMORY; THE WALK OF athanorref15.head.
-/
import Derived.Test.YtnlifgcnmhakiaaTBind
import Derived.Deep.RegionLaw
import Derived.BigQuiet
namespace Go.Proofs.Ytnlifgcnmhakiaa
open Go.ChangeShapes Go.WideShapes Go.ChangeAt Go.RowKit

/-- A table of the document's. -/
structure Rb (S : Nat → Prop) (w : World) (p pv c : Nat) (np : Int) (σ : Sg) (cur : Array Value) : Prop where
  blk : Blk w p 65 #[.slice (some ⟨pv, 0, none⟩) σ.length c, .int .i64 np]
  row : Blk w pv 34 cur
  size : cur.size = c * 4
  len : σ.length ≤ c
  cap : c ≤ maxLen
  few : σ.length ≤ 1000
  pS : ¬ S p
  vS : ¬ S pv
  ne : p ≠ pv
  ent : ∀ i, i < σ.length → ∃ k s n A m c', cur[i * 4]? = some (.int .i64 k) ∧ cur[i * 4 + 1]? = some (.string s) ∧ cur[i * 4 + 2]? = some (.int .i64 n) ∧ cur[i * 4 + 3]? = some (.slice A m c') ∧
    (k = 0 → σ[i]? = some none) ∧ (¬ k = 0 → ∃ t, σ[i]? = some (some t) ∧ TAt w S t (.agg #[.int .i64 k, .string s, .int .i64 n, .slice A m c']))
section
variable {S T : Nat → Prop} {w w' : World} {p pv c : Nat} {np : Int} {σ : Sg} {cur : Array Value}
theorem Rb.keep (h : Rb S w p pv c np σ cur) (hk : ∀ k, k < w.heap.size → S k ∨ k = p ∨ k = pv → w'.heap[k]? = w.heap[k]?) : Rb S w' p pv c np σ cur := by
  refine ⟨(hk _ h.blk.lt (.inr (.inl rfl))).trans h.blk, (hk _ h.row.lt (.inr (.inr rfl))).trans h.row, h.size, h.len, h.cap, h.few, h.pS, h.vS, h.ne, fun i hi => ?_⟩
  obtain ⟨k, s, n, A, m, c', e0, e1, e2, e3, h0, h1⟩ := h.ent i hi
  refine ⟨k, s, n, A, m, c', e0, e1, e2, e3, h0, fun hb => ?_⟩
  obtain ⟨t, h2, h3⟩ := h1 hb
  exact ⟨t, h2, h3.keep (fun k hk1 hk2 => ⟨hk k hk2 (.inl hk1), hk1⟩)⟩
theorem Rb.up (h : Rb S w p pv c np σ cur) (hb : Below w.heap.size w w') : Rb S w' p pv c np σ cur := h.keep (fun k hk _ => hb.block k hk)
theorem Rb.kept (h : Rb S w p pv c np σ cur) (hk : Kept T w w') (hT : ∀ b, S b → ¬ T b) (h1 : ¬ T p) (h2 : ¬ T pv) : Rb S w' p pv c np σ cur :=
  h.keep (fun k hl hs => hk.block k hl (by rcases hs with hs | rfl | rfl; exact hT k hs; exact h1; exact h2))
theorem Rb.narrow (h : Rb S w p pv c np σ cur) : Rb (fun b => S b ∧ b < w.heap.size) w p pv c np σ cur := by
  refine ⟨h.blk, h.row, h.size, h.len, h.cap, h.few, fun e => h.pS e.1, fun e => h.vS e.1, h.ne, fun i hi => ?_⟩
  obtain ⟨k, s, n, A, m, c', e0, e1, e2, e3, h0, h1⟩ := h.ent i hi
  refine ⟨k, s, n, A, m, c', e0, e1, e2, e3, h0, fun hb => ?_⟩
  obtain ⟨t, h2, h3⟩ := h1 hb
  exact ⟨t, h2, h3.mono (fun k hk hl => ⟨hk, hl⟩)⟩
theorem Rb.widen (h : Rb S w p pv c np σ cur) (hT : ∀ k, S k → k < w.heap.size → T k) (h1 : ¬ T p) (h2 : ¬ T pv) : Rb T w p pv c np σ cur := by
  refine ⟨h.blk, h.row, h.size, h.len, h.cap, h.few, h1, h2, h.ne, fun i hi => ?_⟩
  obtain ⟨k, s, n, A, m, c', e0, e1, e2, e3, h0, h1⟩ := h.ent i hi
  refine ⟨k, s, n, A, m, c', e0, e1, e2, e3, h0, fun hb => ?_⟩
  obtain ⟨t, h2, h3⟩ := h1 hb
  exact ⟨t, h2, h3.mono hT⟩
/-- The count of pairs, set. -/
theorem Rb.count (h : Rb S w p pv c np σ cur) (x : Int) : Rb S (w.setCell ⟨p, 1, none⟩ (.int .i64 x)) p pv c x σ cur := by
  have hk : ∀ k, k ≠ p → (w.setCell ⟨p, 1, none⟩ (.int .i64 x)).heap[k]? = w.heap[k]? := fun k hk => Below.heap_setCell _ ⟨p, 1, none⟩ _ k hk
  refine ⟨h.blk.set_ 1 _, (hk _ (fun e => h.ne e.symm)).trans h.row, h.size, h.len, h.cap, h.few, h.pS, h.vS, h.ne, fun i hi => ?_⟩
  obtain ⟨k, s, n, A, m, c', e0, e1, e2, e3, h0, h1⟩ := h.ent i hi
  refine ⟨k, s, n, A, m, c', e0, e1, e2, e3, h0, fun hb => ?_⟩
  obtain ⟨t, h2, h3⟩ := h1 hb
  exact ⟨t, h2, h3.keep (fun k hk1 hk2 => ⟨hk k (fun e => h.pS (by rw [← e]; exact hk1)), hk1⟩)⟩
theorem Rb.bound (h : Rb S w p pv c np σ cur) (hb : Below w.heap.size w w') {i : Nat} (hi : i < σ.length) : ∃ k s n A m c', w'.cell? ⟨pv, i * 4, none⟩ = some (.int .i64 k) ∧ w'.cell? ⟨pv, i * 4 + 1, none⟩ = some (.string s) ∧ w'.cell? ⟨pv, i * 4 + 2, none⟩ = some (.int .i64 n) ∧ w'.cell? ⟨pv, i * 4 + 3, none⟩ = some (.slice A m c') ∧
    (k = 0 → bnd σ ((i : Int) + 1) = none) ∧ (¬ k = 0 → ∃ t, bnd σ ((i : Int) + 1) = some t ∧ TAt w' (fun b => S b ∧ b < w.heap.size) t (.agg #[.int .i64 k, .string s, .int .i64 n, .slice A m c'])) := by
  obtain ⟨k, s, n, A, m, c', e0, e1, e2, e3, h0, h1⟩ := h.ent i hi
  have e : ((i : Int) + 1 - 1).toNat = i := by omega
  have hr : Blk w' pv 34 cur := h.row.below hb h.row.lt
  refine ⟨k, s, n, A, m, c', (hr.cell _).trans e0, (hr.cell _).trans e1, (hr.cell _).trans e2, (hr.cell _).trans e3, fun hz => ?_, fun hz => ?_⟩
  · unfold bnd; rw [e, h0 hz]; rfl
  · obtain ⟨t, h2, h3⟩ := h1 hz
    exact ⟨t, by unfold bnd; rw [e, h2]; rfl, h3.keep (fun k hk hl => ⟨hb.block k hl, hk, hl⟩)⟩
end
def four4 (cs : Array Value) (o : Nat) (v0 v1 v2 v3 : Value) : Array Value := (((cs.setIfInBounds o v0).setIfInBounds (o + 1) v1).setIfInBounds (o + 2) v2).setIfInBounds (o + 3) v3
theorem four4_size (cs : Array Value) (o : Nat) (v0 v1 v2 v3 : Value) : (four4 cs o v0 v1 v2 v3).size = cs.size := by simp [four4]
theorem four4_ne (cs : Array Value) (o : Nat) (v0 v1 v2 v3 : Value) {k : Nat} (hk : k < o ∨ o + 3 < k) : (four4 cs o v0 v1 v2 v3)[k]? = cs[k]? := by
  unfold four4
  rw [Array.getElem?_setIfInBounds_ne (by omega), Array.getElem?_setIfInBounds_ne (by omega), Array.getElem?_setIfInBounds_ne (by omega), Array.getElem?_setIfInBounds_ne (by omega)]
theorem four4_at (cs : Array Value) (o : Nat) (v0 v1 v2 v3 : Value) (h : o + 3 < cs.size) : (four4 cs o v0 v1 v2 v3)[o]? = some v0 ∧ (four4 cs o v0 v1 v2 v3)[o + 1]? = some v1 ∧ (four4 cs o v0 v1 v2 v3)[o + 2]? = some v2 ∧ (four4 cs o v0 v1 v2 v3)[o + 3]? = some v3 := by
  unfold four4
  refine ⟨?_, ?_, ?_, ?_⟩
  · rw [Array.getElem?_setIfInBounds_ne (by omega), Array.getElem?_setIfInBounds_ne (by omega), Array.getElem?_setIfInBounds_ne (by omega), Array.getElem?_setIfInBounds_self_of_lt (by omega)]
  · rw [Array.getElem?_setIfInBounds_ne (by omega), Array.getElem?_setIfInBounds_ne (by omega), Array.getElem?_setIfInBounds_self_of_lt (by simp; omega)]
  · rw [Array.getElem?_setIfInBounds_ne (by omega), Array.getElem?_setIfInBounds_self_of_lt (by simp; omega)]
  · rw [Array.getElem?_setIfInBounds_self_of_lt (by simp; omega)]
theorem set4o_blk {w : World} {g : Nat} {ty : TypeId} {cs : Array Value} (h : Blk w g ty cs) (o : Nat) (v0 v1 v2 v3 : Value) :
    Blk ((((w.setCell ⟨g, o, none⟩ v0).setCell ⟨g, o + 1, none⟩ v1).setCell ⟨g, o + 2, none⟩ v2).setCell ⟨g, o + 3, none⟩ v3) g ty (four4 cs o v0 v1 v2 v3) :=
  (((h.set_ _ _).set_ _ _).set_ _ _).set_ _ _
theorem set4o_other {w : World} {g k o : Nat} {v0 v1 v2 v3 : Value} (hk : k ≠ g) : ((((w.setCell ⟨g, o, none⟩ v0).setCell ⟨g, o + 1, none⟩ v1).setCell ⟨g, o + 2, none⟩ v2).setCell ⟨g, o + 3, none⟩ v3).heap[k]? = w.heap[k]? :=
  (Below.heap_setCell _ ⟨g, o + 3, none⟩ _ k hk).trans ((Below.heap_setCell _ ⟨g, o + 2, none⟩ _ k hk).trans ((Below.heap_setCell _ ⟨g, o + 1, none⟩ _ k hk).trans (Below.heap_setCell _ ⟨g, o, none⟩ _ k hk)))
theorem Rb.put {S : Nat → Prop} {w w' : World} {p pv c : Nat} {np : Int} {σ : Sg} {cur : Array Value} (h : Rb S w p pv c np σ cur) {i : Nat} (hi : i < σ.length) {k n : Int} (hk0 : ¬ k = 0) {s : ByteArray} {A : Option Addr} {m c' : Nat} {t : Ty} (ht : TAt w S t (.agg #[.int .i64 k, .string s, .int .i64 n, .slice A m c']))
    (hb : Blk w' pv 34 (four4 cur (i * 4) (.int .i64 k) (.string s) (.int .i64 n) (.slice A m c'))) (hk : ∀ b, b < w.heap.size → b ≠ pv → w'.heap[b]? = w.heap[b]?) :
    Rb S w' p pv c np (upd σ ((i : Int) + 1) t) (four4 cur (i * 4) (.int .i64 k) (.string s) (.int .i64 n) (.slice A m c')) := by
  have e : ((i : Int) + 1 - 1).toNat = i := by omega
  have hS : ∀ b, S b → b < w.heap.size → w'.heap[b]? = w.heap[b]? ∧ S b := fun b hb hl => ⟨hk b hl (fun e => h.vS (by rw [← e]; exact hb)), hb⟩
  have hcs : i * 4 + 3 < cur.size := by have h1 := h.size; have h2 := h.len; omega
  refine ⟨?_, hb, by rw [four4_size]; exact h.size, by rw [upd_length]; exact h.len, h.cap, by rw [upd_length]; exact h.few, h.pS, h.vS, h.ne, fun j hj => ?_⟩
  · rw [upd_length]
    exact (hk p h.blk.lt h.ne).trans h.blk
  · rw [upd_length] at hj
    by_cases hji : j = i
    · subst hji
      obtain ⟨a0, a1, a2, a3⟩ := four4_at cur (j * 4) (.int .i64 k) (.string s) (.int .i64 n) (.slice A m c') hcs
      refine ⟨k, s, n, A, m, c', a0, a1, a2, a3, (fun h => absurd h hk0), fun _ => ⟨t, ?_, ht.keep hS⟩⟩
      unfold upd
      rw [e, List.getElem?_set_self (by omega)]
    · obtain ⟨k', s', n', A', m', c2, e0, e1, e2, e3, h0, h1⟩ := h.ent j hj
      have hne : upd σ ((i : Int) + 1) t = σ.set i (some t) := by unfold upd; rw [e]
      refine ⟨k', s', n', A', m', c2, (four4_ne _ _ _ _ _ _ (by omega)).trans e0, (four4_ne _ _ _ _ _ _ (by omega)).trans e1, (four4_ne _ _ _ _ _ _ (by omega)).trans e2, (four4_ne _ _ _ _ _ _ (by omega)).trans e3, ?_, fun hb => ?_⟩
      · rw [hne, List.getElem?_set_ne (by omega)]; exact h0
      · rw [hne, List.getElem?_set_ne (by omega)]
        obtain ⟨t', h2, h3⟩ := h1 hb
        exact ⟨t', h2, h3.keep hS⟩
set_option maxHeartbeats 4000000 in
set_option maxRecDepth 100000 in
theorem ref15_head (S : Nat → Prop) (p pv c : Nat) (np : Int) (σ : Sg) (cur : Array Value) (t : Ty) (v : Value) (w : World) (hT : Rb S w p pv c np σ cur) (hok : Ok σ) (hg : goodT σ.length t = true) (hv : TAt w S t v) :
    Calls Try.prog 53 #[.pointer (some ⟨p, 0, none⟩), v] w (HeadP S (hdT σ t) w) := by
  obtain ⟨K, hK⟩ := (hok.hd_ hg).steps
  have HV := hid hv
  obtain ⟨q, s, k, A, m, c2, rfl⟩ := hv.agg
  have HT := hid hT
  have HG := hid (And.intro hok hg)
  have HK := hid hK
  generalize hdT σ t = u at HK
  clear hv hT hok hg hK
  go_enter Try.func53, Try.ntmps53
  go_wp2
  go_loopg [] K (fun g wr => ∃ (t : Ty) (q : Int) (s : ByteArray) (k : Int) (A : Option Addr) (m c2 : Nat), Hid (HdN σ g t u) ∧ Hid (Blk wr w.heap.size 34 #[.int .i64 q, .string s, .int .i64 k, .slice A m c2]) ∧ Hid (TAt wr (fun b => S b ∧ b < w.heap.size) t (.agg #[.int .i64 q, .string s, .int .i64 k, .slice A m c2])) ∧ Hid (goodT σ.length t = true) ∧ Hid (Below w.heap.size w wr) ∧ Hid (Blk wr (w.heap.size + 1) 34 #[.int .i64 0, .string ⟨#[]⟩, .int .i64 0, .slice none 0 0]))
  case atStart =>
    have b2 := below_2 (Below.refl w.heap.size w) (.cells #[.int .i64 q, .string s, .int .i64 k, .slice A m c2] 34) (.cells #[.int .i64 0, .string ⟨#[]⟩, .int .i64 0, .slice none 0 0] 34)
    exact ⟨t, q, s, k, A, m, c2, HK, hid ((Blk.new _ _ _).alloc _), hid (HV.out.keep (fun k hk hl => ⟨b2.block k hl, hk, hl⟩)), hid HG.out.2, hid b2, hid (Blk.new' (by simp) _ _)⟩
  case round =>
    clear HV HK
    obtain ⟨t, q, s, k, A, m, c2, hH, hb, ht, hg, hB, hO⟩ := hrel
    obtain ⟨q', s', k', us⟩ := t
    obtain ⟨A5, c5, e5, _⟩ := ht.out.parts
    simp only [Value.agg.injEq, Array.mk.injEq, List.cons.injEq, and_true, Value.int.injEq, Value.string.injEq, Value.slice.injEq, true_and] at e5
    obtain ⟨rfl, rfl, rfl, rfl, rfl, rfl⟩ := e5
    have x0 : wr.cell? ⟨w.heap.size, 0, none⟩ = some (.int .i64 q) := hb.out.cell 0
    have x1 : wr.cell? ⟨w.heap.size, 1, none⟩ = some (.string s) := hb.out.cell 1
    have x2 : wr.cell? ⟨w.heap.size, 2, none⟩ = some (.int .i64 k) := hb.out.cell 2
    have x3 : wr.cell? ⟨w.heap.size, 3, none⟩ = some (.slice A us.length c2) := hb.out.cell 3
    by_cases hq : q = 2
    · subst hq
      obtain ⟨i, rfl⟩ : ∃ i : Nat, k = (i : Int) + 1 := ⟨(k - 1).toNat, by have := (good_var hg.out).2.2.1; omega⟩
      have hi : i < σ.length := by have := (good_var hg.out).2.2.2; omega
      obtain ⟨k2, s2, n2, A2, m2, c3, y0, y1, y2, y3, hb0, hb1⟩ := HT.out.bound hB.out hi
      have z1 : wr.cell? ⟨p, 0, none⟩ = some (.slice (some ⟨pv, 0, none⟩) σ.length c) := (hB.out.cell (p := ⟨p, 0, none⟩) HT.out.blk.lt).trans (HT.out.blk.cell 0)
      have hlt' : (i : Int) < σ.length := by omega
      have hi0 : (0 : Int) ≤ (i : Int) := by omega
      have hfew := HT.out.few
      have q5 : IntKind.i64.wrap ((i : Int) + 1 - 1) = i := by rw [show (i : Int) + 1 - 1 = i from by omega]; exact IntWalk.i64_in _ (by omega)
      have q6 : IntKind.i64.wrap (i : Int) = i := IntWalk.i64_in _ (by omega)
      by_cases hk2 : k2 = 0
      · have hH0 := hb0 hk2
        subst hk2
        obtain rfl : Ty.mk 2 s ((i : Int) + 1) us = u := by
          cases hH.out with
          | here _ => rfl
          | step h _ => cases hH0.symm.trans h
        clear hb0 hb1 hi hH hH0
        have OUT : Hid (Blk (wr) (w.heap.size + 1) 34 #[.int .i64 0, .string ⟨#[]⟩, .int .i64 0, .slice none 0 0]) := hid (hO.out); have o0 : (wr).cell? ⟨w.heap.size + 1, 0, none⟩ = some (.int .i64 0) := OUT.out.cell 0; have o1 : (wr).cell? ⟨w.heap.size + 1, 1, none⟩ = some (.string ⟨#[]⟩) := OUT.out.cell 1; have o2 : (wr).cell? ⟨w.heap.size + 1, 2, none⟩ = some (.int .i64 0) := OUT.out.cell 2; have o3 : (wr).cell? ⟨w.heap.size + 1, 3, none⟩ = some (.slice none 0 0) := OUT.out.cell 3; have g0 := OUT.out.frozen 0; have g1 := OUT.out.frozen 1; have g2 := OUT.out.frozen 2; have g3 := OUT.out.frozen 3
        go_wp2
        go_quiet (fail)
        go_wp2
        exact ret_type rfl (by rfl) (set4_blk (OUT.out.drewN nq)) rfl ⟨⟨_, rfl, (ht.out.drewN nq).keep (w' := _) (fun k hk hl => ⟨set4_other (w := wr.drewN nq) (by omega), hk⟩)⟩, set4_below (below_drewN hB.out nq) (by omega)⟩
      · obtain ⟨t2, hbt, ht2⟩ := hb1 hk2
        have g9 : (k2 != 0) = true := by simpa using hk2
        obtain ⟨g2, hH2⟩ : ∃ g2, gk = g2 + 1 ∧ HdN σ g2 t2 u := by
          cases hH.out with
          | here h => cases (h rfl).symm.trans hbt
          | step h h2 => rw [hbt] at h; injection h with h; subst h; exact ⟨_, rfl, h2⟩
        have HN := hid (And.intro hH2.1 (And.intro hH2.2 (And.intro ht2 (HG.out.1.good _ _ (by omega) hbt))))
        clear hb0 hb1 hi hH hbt hH2 ht2 hk2
        have f0 := hb.out.frozen 0
        have f1 := hb.out.frozen 1
        have f2 := hb.out.frozen 2
        have f3 := hb.out.frozen 3
        go_wp2
        go_quiet (fail)
        go_wp2
        have u0 : (wr.drewN nq).cell? ⟨w.heap.size, 2, none⟩ = some (.int .i64 ((i : Int) + 1)) := x2
        go_region_law (fail)
        all_goals
          go_wp2
          go_roundg g2
          case rel => exact ⟨t2, k2, s2, n2, A2, m2, c3, hid HN.out.2.1, hid (set4_blk (hb.out.drewN (nq + 1))), hid ((HN.out.2.2.1.drewN (nq + 1)).keep (fun k hk hl => ⟨set4_other (w := wr.drewN (nq + 1)) (by omega), hk⟩)), hid HN.out.2.2.2, hid (set4_below (below_drewN hB.out (nq + 1)) (Nat.le_refl _)), hid (((((hO.out.drewN (nq + 1)).far (by dsimp only; omega) _).far (by dsimp only; omega) _).far (by dsimp only; omega) _).far (by dsimp only; omega) _)⟩
          case measure => have := HN.out.1; omega
    · obtain rfl : Ty.mk q s k us = u := by
        cases hH.out with
        | here _ => rfl
        | step h _ => exact absurd rfl hq
      have g9 : (q == 2) = false := by simpa using hq
      clear hH
      have OUT : Hid (Blk (wr) (w.heap.size + 1) 34 #[.int .i64 0, .string ⟨#[]⟩, .int .i64 0, .slice none 0 0]) := hid (hO.out); have o0 : (wr).cell? ⟨w.heap.size + 1, 0, none⟩ = some (.int .i64 0) := OUT.out.cell 0; have o1 : (wr).cell? ⟨w.heap.size + 1, 1, none⟩ = some (.string ⟨#[]⟩) := OUT.out.cell 1; have o2 : (wr).cell? ⟨w.heap.size + 1, 2, none⟩ = some (.int .i64 0) := OUT.out.cell 2; have o3 : (wr).cell? ⟨w.heap.size + 1, 3, none⟩ = some (.slice none 0 0) := OUT.out.cell 3; have g0 := OUT.out.frozen 0; have g1 := OUT.out.frozen 1; have g2 := OUT.out.frozen 2; have g3 := OUT.out.frozen 3
      go_wp2
      go_quiet (fail)
      go_wp2
      exact ret_type rfl (by rfl) (set4_blk (OUT.out.drewN nq)) rfl ⟨⟨_, rfl, (ht.out.drewN nq).keep (w' := _) (fun k hk hl => ⟨set4_other (w := wr.drewN nq) (by omega), hk⟩)⟩, set4_below (below_drewN hB.out nq) (by omega)⟩
end Go.Proofs.Ytnlifgcnmhakiaa
