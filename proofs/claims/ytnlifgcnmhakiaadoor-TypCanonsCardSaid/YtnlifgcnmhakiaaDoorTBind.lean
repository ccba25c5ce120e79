/-
  THE WALK OF links.bind: a variable is bound, or not.
-/
import Derived.Test.YtnlifgcnmhakiaaDoorTEachA
import Derived.Test.YtnlifgcnmhakiaaDoorTTwin
import Derived.Deep.RegionHeld3
namespace Go.Proofs.YtnlifgcnmhakiaaDoor
open Go.ChangeShapes Go.WideShapes Go.ChangeAt Go.RowKit

/-- What is written out has no fewer nodes. -/
theorem wr_nodes {σ : Sg} {nv : Nat} : ∀ {k : Nat} {t u : Ty}, goodT nv t = true → wrF σ k t = some u → nodes t ≤ nodes u := by
  intro k
  induction k with
  | zero => intro t u _ h; cases h
  | succ k ih =>
    intro t u hg h
    obtain ⟨q, s, n, us⟩ := t
    by_cases hq : q = 2
    · subst hq
      obtain ⟨_, rfl, _, _⟩ := good_var hg
      rw [nodes, nodesL]
      exact nodes_pos u
    · rw [wrF_node hq] at h
      cases h2 : wrL (wrF σ k) us with
      | none => rw [h2] at h; cases h
      | some vs =>
        rw [h2] at h
        injection h with h
        subst h
        have hgl := (goodT_iff.1 hg).2
        have key : ∀ (us vs : List Ty), goodL nv us = true → wrL (wrF σ k) us = some vs → nodesL us ≤ nodesL vs := by
          intro us
          induction us with
          | nil => intro vs _ h; rw [nodesL]; omega
          | cons t ts ihl =>
            intro vs hg h
            obtain ⟨u, us', rfl, h3, h4⟩ := wrL_cons h
            rw [goodL, Bool.and_eq_true] at hg
            have := ih hg.1 h3
            have := ihl _ hg.2 h4
            rw [nodesL, nodesL]
            omega
        have := key us vs hgl h2
        rw [nodes, nodes]
        omega
theorem Wr.nodes {σ : Sg} {nv : Nat} {t u : Ty} (hg : goodT nv t = true) (h : Wr σ t u) : Go.Proofs.YtnlifgcnmhakiaaDoor.nodes t ≤ Go.Proofs.YtnlifgcnmhakiaaDoor.nodes u := by
  obtain ⟨k, h⟩ := h
  exact wr_nodes hg h
/-- Five cells, set. -/
theorem set5_blk {w : World} {g : Nat} {ty : TypeId} {cs : Array Value} (h : Blk w g ty cs) (o : Nat) (v0 v1 v2 v3 v4 : Value) :
    Blk (((((w.setCell ⟨g, o, none⟩ v0).setCell ⟨g, o + 1, none⟩ v1).setCell ⟨g, o + 2, none⟩ v2).setCell ⟨g, o + 3, none⟩ v3).setCell ⟨g, o + 4, none⟩ v4) g ty
      (((((cs.setIfInBounds o v0).setIfInBounds (o + 1) v1).setIfInBounds (o + 2) v2).setIfInBounds (o + 3) v3).setIfInBounds (o + 4) v4) :=
  ((((h.set_ _ _).set_ _ _).set_ _ _).set_ _ _).set_ _ _
theorem set5_other {w : World} {g k o : Nat} {v0 v1 v2 v3 v4 : Value} (hk : k ≠ g) : (((((w.setCell ⟨g, o, none⟩ v0).setCell ⟨g, o + 1, none⟩ v1).setCell ⟨g, o + 2, none⟩ v2).setCell ⟨g, o + 3, none⟩ v3).setCell ⟨g, o + 4, none⟩ v4).heap[k]? = w.heap[k]? :=
  (Below.heap_setCell _ ⟨g, o + 4, none⟩ _ k hk).trans ((Below.heap_setCell _ ⟨g, o + 3, none⟩ _ k hk).trans ((Below.heap_setCell _ ⟨g, o + 2, none⟩ _ k hk).trans ((Below.heap_setCell _ ⟨g, o + 1, none⟩ _ k hk).trans (Below.heap_setCell _ ⟨g, o, none⟩ _ k hk))))
theorem Kept.set5 {S : Nat → Prop} {A w : World} (h : Kept S A w) {g o : Nat} {v0 v1 v2 v3 v4 : Value} (hg : S g ∨ A.heap.size ≤ g) : Kept S A (((((w.setCell ⟨g, o, none⟩ v0).setCell ⟨g, o + 1, none⟩ v1).setCell ⟨g, o + 2, none⟩ v2).setCell ⟨g, o + 3, none⟩ v3).setCell ⟨g, o + 4, none⟩ v4) :=
  ((((h.setCell (p := ⟨g, o, none⟩) hg v0).setCell (p := ⟨g, o + 1, none⟩) hg v1).setCell (p := ⟨g, o + 2, none⟩) hg v2).setCell (p := ⟨g, o + 3, none⟩) hg v3).setCell (p := ⟨g, o + 4, none⟩) hg v4
theorem set5_cell {w : World} {g o : Nat} {v0 v1 v2 v3 v4 : Value} {a : Addr} (hk : a.block ≠ g) : (((((w.setCell ⟨g, o, none⟩ v0).setCell ⟨g, o + 1, none⟩ v1).setCell ⟨g, o + 2, none⟩ v2).setCell ⟨g, o + 3, none⟩ v3).setCell ⟨g, o + 4, none⟩ v4).cell? a = w.cell? a := World.cell?_of_block (set5_other hk)
def five (cs : Array Value) (o : Nat) (v0 v1 v2 v3 v4 : Value) : Array Value := ((((cs.setIfInBounds o v0).setIfInBounds (o + 1) v1).setIfInBounds (o + 2) v2).setIfInBounds (o + 3) v3).setIfInBounds (o + 4) v4
theorem five_size (cs : Array Value) (o : Nat) (v0 v1 v2 v3 v4 : Value) : (five cs o v0 v1 v2 v3 v4).size = cs.size := by simp [five]
theorem five_ne (cs : Array Value) (o : Nat) (v0 v1 v2 v3 v4 : Value) {k : Nat} (hk : k < o ∨ o + 4 < k) : (five cs o v0 v1 v2 v3 v4)[k]? = cs[k]? := by
  unfold five
  rw [Array.getElem?_setIfInBounds_ne (by omega), Array.getElem?_setIfInBounds_ne (by omega), Array.getElem?_setIfInBounds_ne (by omega), Array.getElem?_setIfInBounds_ne (by omega), Array.getElem?_setIfInBounds_ne (by omega)]
theorem five_at (cs : Array Value) (o : Nat) (v0 v1 v2 v3 v4 : Value) (h : o + 4 < cs.size) : (five cs o v0 v1 v2 v3 v4)[o]? = some v0 ∧ (five cs o v0 v1 v2 v3 v4)[o + 1]? = some v1 ∧ (five cs o v0 v1 v2 v3 v4)[o + 2]? = some v2 ∧ (five cs o v0 v1 v2 v3 v4)[o + 3]? = some v3 ∧ (five cs o v0 v1 v2 v3 v4)[o + 4]? = some v4 := by
  unfold five
  refine ⟨?_, ?_, ?_, ?_, ?_⟩
  · rw [Array.getElem?_setIfInBounds_ne (by omega), Array.getElem?_setIfInBounds_ne (by omega), Array.getElem?_setIfInBounds_ne (by omega), Array.getElem?_setIfInBounds_ne (by omega), Array.getElem?_setIfInBounds_self_of_lt (by omega)]
  · rw [Array.getElem?_setIfInBounds_ne (by omega), Array.getElem?_setIfInBounds_ne (by omega), Array.getElem?_setIfInBounds_ne (by omega), Array.getElem?_setIfInBounds_self_of_lt (by simp; omega)]
  · rw [Array.getElem?_setIfInBounds_ne (by omega), Array.getElem?_setIfInBounds_ne (by omega), Array.getElem?_setIfInBounds_self_of_lt (by simp; omega)]
  · rw [Array.getElem?_setIfInBounds_ne (by omega), Array.getElem?_setIfInBounds_self_of_lt (by simp; omega)]
  · rw [Array.getElem?_setIfInBounds_self_of_lt (by simp; omega)]
/-- A variable's link, set. -/
theorem Tb.put {S : Nat → Prop} {w w' : World} {p pv c : Nat} {σ : Sg} {cur : Array Value} (h : Tb S w p pv c σ cur) {i : Nat} (hi : i < σ.length) {k n : Int} {s : ByteArray} {A : Option Addr} {m c' : Nat} {t : Ty} (ht : TAt w S t (.agg #[.int .i64 k, .string s, .int .i64 n, .slice A m c']))
    (hb : Blk w' pv 85 (five cur (i * 5) (.int .i64 k) (.string s) (.int .i64 n) (.slice A m c') (.bool true))) (hk : ∀ b, b < w.heap.size → b ≠ pv → w'.heap[b]? = w.heap[b]?) :
    Tb S w' p pv c (upd σ ((i : Int) + 1) t) (five cur (i * 5) (.int .i64 k) (.string s) (.int .i64 n) (.slice A m c') (.bool true)) := by
  have e : ((i : Int) + 1 - 1).toNat = i := by omega
  have hS : ∀ b, S b → b < w.heap.size → w'.heap[b]? = w.heap[b]? ∧ S b := fun b hb hl => ⟨hk b hl (fun e => h.vS (by rw [← e]; exact hb)), hb⟩
  have hcs : i * 5 + 4 < cur.size := by have h1 := h.size; have h2 := h.len; omega
  refine ⟨?_, hb, by rw [five_size]; exact h.size, by rw [upd_length]; exact h.len, h.cap, by rw [upd_length]; exact h.few, h.pS, h.vS, h.ne, fun j hj => ?_⟩
  · rw [upd_length]
    exact (hk p h.blk.lt h.ne).trans h.blk
  · rw [upd_length] at hj
    by_cases hji : j = i
    · subst hji
      obtain ⟨a0, a1, a2, a3, a4⟩ := five_at cur (j * 5) (.int .i64 k) (.string s) (.int .i64 n) (.slice A m c') (.bool true) hcs
      refine ⟨k, s, n, A, m, c', true, a0, a1, a2, a3, a4, (fun h => by cases h), fun _ => ⟨t, ?_, ht.keep hS⟩⟩
      unfold upd
      rw [e, List.getElem?_set_self (by omega)]
    · obtain ⟨k', s', n', A', m', c2, b, e0, e1, e2, e3, e4, h0, h1⟩ := h.ent j hj
      have hne : upd σ ((i : Int) + 1) t = σ.set i (some t) := by unfold upd; rw [e]
      refine ⟨k', s', n', A', m', c2, b, (five_ne _ _ _ _ _ _ _ (by omega)).trans e0, (five_ne _ _ _ _ _ _ _ (by omega)).trans e1, (five_ne _ _ _ _ _ _ _ (by omega)).trans e2, (five_ne _ _ _ _ _ _ _ (by omega)).trans e3, (five_ne _ _ _ _ _ _ _ (by omega)).trans e4, ?_, fun hb => ?_⟩
      · rw [hne, List.getElem?_set_ne (by omega)]; exact h0
      · rw [hne, List.getElem?_set_ne (by omega)]
        obtain ⟨t', h2, h3⟩ := h1 hb
        exact ⟨t', h2, h3.keep hS⟩
theorem TAt.narrow2 {S : Nat → Prop} {w : World} {t : Ty} {v : Value} (h : TAt w S t v) : TAt w (fun b => S b ∧ b < w.heap.size) t v := h.narrow (Nat.le_refl _)
theorem EB.start {w : World} {o : Obj} {n : Int} : EB (w.heap.size + 1 + 1) (w.heap.size + 1 + 1 + 1) w.heap.size n (0, 0) ((((w.alloc (.cells #[.int .i64 n] 3)).alloc o).alloc (.cells #[.int .i64 1024] 3)).alloc (.cells #[.int .i64 0] 27)) :=
  ⟨⟨1024, (Blk.new' (by simp) _ _).alloc _, fun _ => rfl⟩, Blk.new' (by simp) _ _, (((Blk.new' (by simp) _ _).alloc _).alloc _).alloc _, by omega, by omega, by omega⟩
theorem bne_zero {r : Int} (h : ¬ r = 0) : (r == 0) = false := by simpa using h
/-- What bind tells. -/
def BindP (S : Nat → Prop) (p pv c : Nat) (r : Int × Sg) (w : World) (e : Ending) (w' : World) : Prop := e = .returned (.int .i64 r.1) ∧ (∃ cur, Tb S w' p pv c r.2 cur) ∧ Kept (fun b => b = pv) w w'
noncomputable def bindR (σ : Sg) (n : Int) (b : Ty) : Int × Sg := ((bindF σ n b 0).1, (bindF σ n b 0).2.1)
set_option maxHeartbeats 8000000 in
set_option maxRecDepth 100000 in
theorem links_bind (S : Nat → Prop) (p pv c : Nat) (σ : Sg) (cur : Array Value) (n : Int) (t : Ty) (v : Value) (w : World) (hT : Tb S w p pv c σ cur) (hok : Ok σ) (hg : goodT σ.length t = true) (hv : TAt w S t v) (h0 : 1 ≤ n) (h1 : n ≤ σ.length) (hSn : ∀ b, w.heap.size ≤ b → S b) :
    Calls Tryd.prog 55 #[.pointer (some ⟨p, 0, none⟩), .int .i64 n, v] w (BindP S p pv c (bindR σ n t) w) := by
  obtain ⟨u, hu⟩ : ∃ u, u = wrT σ t := ⟨_, rfl⟩
  have hwr := hok.wr_ hg
  rw [← hu] at hwr
  obtain ⟨K, hK⟩ := hwr
  have hnod := wr_nodes hg hK
  have HV := hid hv
  obtain ⟨q, s, m, A, m9, c9, rfl⟩ := hv.agg
  have HT := hid hT
  have HL := hid (And.intro hT.blk.lt hT.row.lt)
  have HW := hid (And.intro (links_each (fun b => S b ∧ b < w.heap.size) p pv c σ cur (w.heap.size + 1 + 1) (w.heap.size + 1 + 1 + 1) w.heap.size n hok (by have := HL.out; omega) K) (And.intro hK (And.intro hg hnod)))
  unfold bindR bindF
  rw [← hu]
  have HN := hid hSn
  clear hu hv hT hok hg hK hnod hSn
  by_cases hr : (metT n u 0).2 = 0
  case neg =>
    rw [if_neg hr]
    have hz := bne_zero hr
    generalize hr2 : metT n u 0 = r at hr hz
    have Hr := hid hr2
    clear hr2
    go_enter Tryd.func55, Tryd.ntmps55
    go_wp2_with (go_at_call 45; go_must (refine (HW.out.1 t u _ _ 0 (by omega) HW.out.2.1 HW.out.2.2.1 (fun b hb => by have := hb.2; simp; omega) (HV.out.narrow2.up (by go_grown : Below w.heap.size w _)) (HT.out.narrow.up (by go_grown : Below w.heap.size w _)) EB.start).mono ?_); rintro e w1 ⟨rfl, hE, hK⟩; go_must (rw [Hr.out] at hE; have e0 : w1.cell? ⟨w.heap.size + 1 + 1 + 1, 0, none⟩ = some (.int .i64 r.2) := hE.err.cell 0; have b2 := hid (Below.trans (by go_grown : Below w.heap.size w _) (hK.below (n := w.heap.size) (by simp; omega) (fun b hb => by unfold EBf at hb; omega))); clear hE hK))
    go_ret
    exact ⟨rfl, ⟨cur, HT.out.up b2.out⟩, Kept.of_below b2.out _⟩
  rw [if_pos hr]
  have Hr := hid hr
  obtain ⟨i, rfl⟩ : ∃ i : Nat, n = (i : Int) + 1 := ⟨(n - 1).toNat, by omega⟩
  have hi : i < σ.length := by omega
  have q5 : IntKind.i64.wrap ((i : Int) + 1 - 1) = i := by rw [show (i : Int) + 1 - 1 = i from by omega]; exact IntWalk.i64_in _ (by have := HT.out.few; omega)
  have hlt' : (i : Int) < σ.length := by omega
  have hi0 : (0 : Int) ≤ (i : Int) := by omega
  have hfew := HT.out.few
  have q6 : IntKind.i64.wrap (i : Int) = i := IntWalk.i64_in _ (by omega)
  clear hr h0 h1
  go_enter Tryd.func55, Tryd.ntmps55
  go_wp2_with (go_at_call 45; go_must (refine (HW.out.1 t u _ _ 0 (by omega) HW.out.2.1 HW.out.2.2.1 (fun b hb => by have := hb.2; simp; omega) (HV.out.narrow2.up (by go_grown : Below w.heap.size w _)) (HT.out.narrow.up (by go_grown : Below w.heap.size w _)) EB.start).mono ?_); rintro e w1 ⟨rfl, hE, hK⟩; go_must (have e0 : w1.cell? ⟨w.heap.size + 1 + 1 + 1, 0, none⟩ = some (.int .i64 (metT (↑i + 1) u 0).2) := hE.err.cell 0; rw [Hr.out] at e0; have b2 := hid (Below.trans (by go_grown : Below w.heap.size w _) (hK.below (n := w.heap.size) (by simp; omega) (fun b hb => by unfold EBf at hb; omega))); have X1 : Blk w1 (w.heap.size + 1) 24 #[.int .i64 q, .string s, .int .i64 m, .slice A m9 c9] := (((Blk.new' (by simp) _ _).alloc _).alloc _).kept hK (by unfold EBf; omega); have x0 : w1.cell? ⟨w.heap.size + 1, 0, none⟩ = some (.int .i64 q) := X1.cell 0; have x1 : w1.cell? ⟨w.heap.size + 1, 1, none⟩ = some (.string s) := X1.cell 1; have x2 : w1.cell? ⟨w.heap.size + 1, 2, none⟩ = some (.int .i64 m) := X1.cell 2; have x3 : w1.cell? ⟨w.heap.size + 1, 3, none⟩ = some (.slice A m9 c9) := X1.cell 3; have n0 : w1.cell? ⟨w.heap.size, 0, none⟩ = some (.int .i64 (↑i + 1)) := hE.var.cell 0; have p1 : w1.cell? ⟨p, 1, none⟩ = some (.slice (some ⟨pv, 0, none⟩) σ.length c) := (HT.out.up b2.out).blk.cell 1; have HE := hid (And.intro hE X1); clear hE hK X1))
  go_region_held3 (fun w' => w'.cell? ⟨p, 1, none⟩ = some (.slice (some ⟨pv, 0, none⟩) σ.length c) ∧ w'.cell? ⟨w.heap.size, 0, none⟩ = some (.int .i64 (↑i + 1)) ∧ w'.cell? ⟨w.heap.size + 1, 0, none⟩ = some (.int .i64 q) ∧ w'.cell? ⟨w.heap.size + 1, 1, none⟩ = some (.string s) ∧ w'.cell? ⟨w.heap.size + 1, 2, none⟩ = some (.int .i64 m) ∧ w'.cell? ⟨w.heap.size + 1, 3, none⟩ = some (.slice A m9 c9)) (first | with_reducible exact ⟨p1, n0, x0, x1, x2, x3⟩ | with_reducible exact ⟨p1', n0', x0', x1', x2', x3'⟩ | with_reducible exact ⟨p1'', n0'', x0'', x1'', x2'', x3''⟩ | go_keep)
    (first | (go_at_call 63; go_must (refine (links_twin _ t (Nat.le_refl _) (by have h1 := HW.out.2.2.2; have h2 := (metT_ok (↑i + 1) u 0 (by omega) Hr.out).2.1; omega) _ S _ (TAt.up (w := w) HV.out (b2.out.drew))).mono ?_); rintro e w2 ⟨⟨v, rfl, hv⟩, b1⟩; go_must (obtain ⟨q9, s9, k9, A9, m8, c8, rfl⟩ := hv.agg; have hz := b2.out.size; have p1' : w2.cell? ⟨p, 1, none⟩ = _ := (b1.cell (p := ⟨p, 1, none⟩) (by have := HL.out.1; dsimp only; simp; omega)).trans p1; have n0' : w2.cell? ⟨w.heap.size, 0, none⟩ = _ := (b1.cell (p := ⟨w.heap.size, 0, none⟩) (by have := HE.out.1.var.lt; dsimp only; simp; omega)).trans n0; have X2 := HE.out.2.drew.below b1 HE.out.2.drew.lt; have e0' : w2.cell? ⟨w.heap.size + 1 + 1 + 1, 0, none⟩ = some (.int .i64 0) := (b1.cell (p := ⟨w.heap.size + 1 + 1 + 1, 0, none⟩) (by have := HE.out.1.err.lt; dsimp only; simp; omega)).trans e0; have x0' : w2.cell? ⟨w.heap.size + 1, 0, none⟩ = some (.int .i64 q) := X2.cell 0; have x1' : w2.cell? ⟨w.heap.size + 1, 1, none⟩ = some (.string s) := X2.cell 1; have x2' : w2.cell? ⟨w.heap.size + 1, 2, none⟩ = some (.int .i64 m) := X2.cell 2; have x3' : w2.cell? ⟨w.heap.size + 1, 3, none⟩ = some (.slice A m9 c9) := X2.cell 3; have b3 := hid (b2.out.drew.trans (b1.mono (by simp; omega))); have R2 := (HT.out.up b3.out).row; obtain ⟨k2, s2, n2, A2, m2, c3, bb, y0, y1, y2, y3, y4, _, _⟩ := (HT.out.up b3.out).bound hi; have f0 := R2.frozen (i * 5); have f1 := R2.frozen (i * 5 + 1); have f2 := R2.frozen (i * 5 + 2); have f3 := R2.frozen (i * 5 + 3); have f4 := R2.frozen (i * 5 + 4); clear R2; have e0'' : (((((w2.setCell ⟨pv, i * 5, none⟩ (.int .i64 q9)).setCell ⟨pv, i * 5 + 1, none⟩ (.string s9)).setCell ⟨pv, i * 5 + 2, none⟩ (.int .i64 k9)).setCell ⟨pv, i * 5 + 3, none⟩ (.slice A9 m8 c8)).setCell ⟨pv, i * 5 + 4, none⟩ (.bool true)).cell? ⟨w.heap.size + 1 + 1 + 1, 0, none⟩ = some (.int .i64 0) := (set5_cell (by have := HL.out; dsimp only; omega)).trans e0'; have p1'' : (((((w2.setCell ⟨pv, i * 5, none⟩ (.int .i64 q9)).setCell ⟨pv, i * 5 + 1, none⟩ (.string s9)).setCell ⟨pv, i * 5 + 2, none⟩ (.int .i64 k9)).setCell ⟨pv, i * 5 + 3, none⟩ (.slice A9 m8 c8)).setCell ⟨pv, i * 5 + 4, none⟩ (.bool true)).cell? ⟨p, 1, none⟩ = _ := (set5_cell (by have := HT.out.ne; have := HL.out; dsimp only; omega)).trans p1'; have n0'' : (((((w2.setCell ⟨pv, i * 5, none⟩ (.int .i64 q9)).setCell ⟨pv, i * 5 + 1, none⟩ (.string s9)).setCell ⟨pv, i * 5 + 2, none⟩ (.int .i64 k9)).setCell ⟨pv, i * 5 + 3, none⟩ (.slice A9 m8 c8)).setCell ⟨pv, i * 5 + 4, none⟩ (.bool true)).cell? ⟨w.heap.size, 0, none⟩ = _ := (set5_cell (by have := HT.out.ne; have := HL.out; dsimp only; omega)).trans n0'; have x0'' : (((((w2.setCell ⟨pv, i * 5, none⟩ (.int .i64 q9)).setCell ⟨pv, i * 5 + 1, none⟩ (.string s9)).setCell ⟨pv, i * 5 + 2, none⟩ (.int .i64 k9)).setCell ⟨pv, i * 5 + 3, none⟩ (.slice A9 m8 c8)).setCell ⟨pv, i * 5 + 4, none⟩ (.bool true)).cell? ⟨w.heap.size + 1, 0, none⟩ = _ := (set5_cell (by have := HT.out.ne; have := HL.out; dsimp only; omega)).trans x0'; have x1'' : (((((w2.setCell ⟨pv, i * 5, none⟩ (.int .i64 q9)).setCell ⟨pv, i * 5 + 1, none⟩ (.string s9)).setCell ⟨pv, i * 5 + 2, none⟩ (.int .i64 k9)).setCell ⟨pv, i * 5 + 3, none⟩ (.slice A9 m8 c8)).setCell ⟨pv, i * 5 + 4, none⟩ (.bool true)).cell? ⟨w.heap.size + 1, 1, none⟩ = _ := (set5_cell (by have := HT.out.ne; have := HL.out; dsimp only; omega)).trans x1'; have x2'' : (((((w2.setCell ⟨pv, i * 5, none⟩ (.int .i64 q9)).setCell ⟨pv, i * 5 + 1, none⟩ (.string s9)).setCell ⟨pv, i * 5 + 2, none⟩ (.int .i64 k9)).setCell ⟨pv, i * 5 + 3, none⟩ (.slice A9 m8 c8)).setCell ⟨pv, i * 5 + 4, none⟩ (.bool true)).cell? ⟨w.heap.size + 1, 2, none⟩ = _ := (set5_cell (by have := HT.out.ne; have := HL.out; dsimp only; omega)).trans x2'; have x3'' : (((((w2.setCell ⟨pv, i * 5, none⟩ (.int .i64 q9)).setCell ⟨pv, i * 5 + 1, none⟩ (.string s9)).setCell ⟨pv, i * 5 + 2, none⟩ (.int .i64 k9)).setCell ⟨pv, i * 5 + 3, none⟩ (.slice A9 m8 c8)).setCell ⟨pv, i * 5 + 4, none⟩ (.bool true)).cell? ⟨w.heap.size + 1, 3, none⟩ = _ := (set5_cell (by have := HT.out.ne; have := HL.out; dsimp only; omega)).trans x3';  have HJ := hid hv; clear hv b1 hz X2)))
  go_wp2
  go_ret
  exact ⟨rfl, ⟨_, (HT.out.up b3.out).put hi (HJ.out.mono (fun b hb _ => HN.out b (by have := b2.out.size; simp at hb; omega))) (set5_blk (HT.out.up b3.out).row _ _ _ _ _ _) (fun b _ hne => set5_other hne)⟩, Kept.set5 (S := fun b => b = pv) (Kept.of_below b3.out _) (.inl rfl)⟩
end Go.Proofs.YtnlifgcnmhakiaaDoor
