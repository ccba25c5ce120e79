/-
  THE WALKS OF Fresh, New and Vars, links and typ.
-/
import Derived.Test.YtnlifgcnmhakiaaDoorTApply
import Derived.Laws.LoneSync
namespace Go.Proofs.YtnlifgcnmhakiaaDoor
open Go.ChangeShapes Go.WideShapes Go.ChangeAt Go.RowKit

set_option maxRecDepth 100000 in
/-- append of one element onto a row of one's own: the row lies where it lay, or in a new block. -/
theorem run_appG {TS TE : TypeId} {z : Value} {sz by_ : Nat} (hu : Tryd.prog.underlying TS = some (.slice TE)) (hinfo : InfoIs Tryd.prog TE z sz by_) (hzc : z.cells.size = sz) (hsz : 0 < sz) (hby : by_ ≤ 100)
    (w : World) (ty : TypeId) (B : Nat) {v : Value} {n : Nat} {xs : List Value} (hown : w.ownsRow B TE sz v n xs) {ad : Addr} {c : Nat} {news : List Value} (hl : news.length = sz) (hcell : ∀ j u, news[j]? = some u → w.cell? (ad.add j) = some u) (h1 : ∀ u ∈ news, u.oneCell' = true) (hlen : n + 1 ≤ 1000000) (hB : B ≤ w.heap.size) :
    ∃ v' w', (Builtin.append_ #[TS, TS] ty #[v, .slice (some ad) 1 c]).run Tryd.prog w = .ok v' w' ∧ w'.ownsRow B TE sz v' (n + 1) (xs ++ news) ∧ w.grownBy w' v.ownBlock ∧
      (∀ g, v'.ownBlock = some g → v.ownBlock = some g ∨ w.heap.size ≤ g) := by
  obtain ⟨i, hi1, hz, hs1, hs2⟩ := hinfo.parts
  have hbig : (n + 1) * by_ ≤ 140737488355328 := Nat.le_trans (Nat.mul_le_mul hlen hby) (by omega)
  obtain ⟨v', w', hr, h2, h3, _⟩ := run_append_own (P := Tryd.prog) w B TS ty TE i _ sz by_ hu hi1 hz hs1 hs2 hzc hsz v n _ hown ad 1 c news (by omega) hcell h1 (by unfold maxLen; omega) hbig hB
  refine ⟨v', w', hr, h2, h3, fun g hg => ?_⟩
  rcases hown.2 with ⟨rfl, hn0⟩ | ⟨g0, cap, cur, rfl, hbg, hgg, hnc, hcm, hcs, htake⟩
  · right
    subst hn0
    have hx : xs = [] := List.length_eq_zero_iff.1 (by have := hown.1; simpa using this)
    subst hx
    obtain ⟨v2, w2, hr2, h22, _, _⟩ := run_append_own (P := Tryd.prog) w w.heap.size TS ty TE i _ sz by_ hu hi1 hz hs1 hs2 hzc hsz (.slice none 0 0) 0 [] (World.ownsRow_nil w w.heap.size TE sz) ad 1 c news (by omega) hcell h1 (by unfold maxLen; omega) hbig (Nat.le_refl _)
    rw [hr] at hr2
    injection hr2 with e1 e2
    subst e1
    exact (h22.lt g hg).1
  · by_cases hroom : n + 1 ≤ cap
    · left
      have hr2 := run_append_room (P := Tryd.prog) w TS ty TE i hu hi1 g0 n cap cur hgg ad 1 c news (by omega) hcell h1 hroom (by rw [hs1, hl, hcs, ← Nat.succ_mul]; exact Nat.mul_le_mul_right _ hroom)
      rw [hr] at hr2
      injection hr2 with e1 e2
      subst e1
      exact hg
    · right
      have hr2 := run_append_grow (P := Tryd.prog) w TS ty TE i _ hu hi1 hz ⟨g0, 0, none⟩ n cap xs (by rw [hs1]; exact hown.1) (hown.cells (g := g0) rfl) ad 1 c news (by omega) hcell (by omega) (by omega) (growslice_fits (by omega) (by rw [hs2]; exact hbig))
      rw [hr] at hr2
      injection hr2 with e1 e2
      subst e1
      simp [Value.ownBlock] at hg
      omega
set_option maxRecDepth 100000 in
theorem wpList_appG {TS TE : TypeId} {z : Value} {sz by_ : Nat} (hu : Tryd.prog.underlying TS = some (.slice TE)) (hinfo : InfoIs Tryd.prog TE z sz by_) (hzc : z.cells.size = sz) (hsz : 0 < sz) (hby : by_ ≤ 100)
    {w : World} {ops : Array Oper} {rest : List Oper} {o : Oper} {a : Act} {Q : Exit → Act → World → Prop} (hgd : o.guard = none) (s x : Operand)
    (ho : o.op = .call { callee := .builtin .append, args := #[s, x], argTypes := #[TS, TS] })
    (B : Nat) {v : Value} {n : Nat} {xs : List Value} (hs : a.eval s = v) (hown : w.ownsRow B TE sz v n xs) {ad : Addr} {c : Nat} {news : List Value} (hx : a.eval x = .slice (some ad) 1 c) (hl : news.length = sz) (hcell : ∀ j u, news[j]? = some u → w.cell? (ad.add j) = some u) (h1 : ∀ u ∈ news, u.oneCell' = true)
    (hlen : n + 1 ≤ 1000000) (hB : B ≤ w.heap.size)
    (h : ∀ v' w', w'.ownsRow B TE sz v' (n + 1) (xs ++ news) → w.grownBy w' v.ownBlock → (∀ g, v'.ownBlock = some g → v.ownBlock = some g ∨ w.heap.size ≤ g) → wpList Tryd.prog ops Q rest (a.put o.dst v') w') : wpList Tryd.prog ops Q (o :: rest) a w := by
  refine wpList_plain hgd fun _ hK => ?_
  obtain ⟨v', w', hr, r1, r2, r3⟩ := run_appG hu hinfo hzc hsz hby w o.type B hown hl hcell h1 hlen hB
  unfold Oper.wp execOp
  simp only [ho, resolve, invoke, builtin, Sem.run_bind, Sem.run_pure, Result.andThen_ok, List.map_toArray, List.map_cons, List.map_nil, hs, hx]
  rw [hr]
  exact hK _ _ (h v' w' r1 r2 r3)
set_option maxRecDepth 100000 in
theorem step_appG {TS TE : TypeId} {z : Value} {sz by_ : Nat} (hu : Tryd.prog.underlying TS = some (.slice TE)) (hinfo : InfoIs Tryd.prog TE z sz by_) (hzc : z.cells.size = sz) (hsz : 0 < sz) (hby : by_ ≤ 100)
    {w : World} {ops : Array Oper} {o : Oper} {a : Act} {K : Act → World → Prop} {Q : Exit → Act → World → Prop} {E : Prop} (hgd : o.guard = none) (s x : Operand)
    (ho : o.op = .call { callee := .builtin .append, args := #[s, x], argTypes := #[TS, TS] })
    (B : Nat) {v : Value} {n : Nat} {xs : List Value} (hs : a.eval s = v) (hown : w.ownsRow B TE sz v n xs) {ad : Addr} {c : Nat} {news : List Value} (hx : a.eval x = .slice (some ad) 1 c) (hl : news.length = sz) (hcell : ∀ j u, news[j]? = some u → w.cell? (ad.add j) = some u) (h1 : ∀ u ∈ news, u.oneCell' = true)
    (hlen : n + 1 ≤ 1000000) (hB : B ≤ w.heap.size)
    (h : ∀ v' w', w'.ownsRow B TE sz v' (n + 1) (xs ++ news) → w.grownBy w' v.ownBlock → (∀ g, v'.ownBlock = some g → v.ownBlock = some g ∨ w.heap.size ≤ g) → K (a.put o.dst v') w') : if Region.wanted o (yielded ops a.tmps) = true then Oper.wp Tryd.prog o a w K Q else E := by
  have hw : Region.wanted o (yielded ops a.tmps) = true := by simp [Region.wanted, hgd]
  rw [if_pos hw]
  obtain ⟨v', w', hr, r1, r2, r3⟩ := run_appG hu hinfo hzc hsz hby w o.type B hown hl hcell h1 hlen hB
  unfold Oper.wp execOp
  simp only [ho, resolve, invoke, builtin, Sem.run_bind, Sem.run_pure, Result.andThen_ok, List.map_toArray, List.map_cons, List.map_nil, hs, hx]
  rw [hr]
  exact h v' w' r1 r2 r3
theorem info_var : InfoIs Tryd.prog 85 (.agg #[.int .i64 0, .string ⟨#[]⟩, .int .i64 0, .slice none 0 0, .bool false]) 5 64 := by unfold InfoIs; kernel_rfl
/-- Free variables, in cells. -/
def freeV : List Value := [.int .i64 0, .string ⟨#[]⟩, .int .i64 0, .slice none 0 0, .bool false]
def frees : Nat → List Value
  | 0 => []
  | n + 1 => frees n ++ freeV
theorem frees_length (n : Nat) : (frees n).length = n * 5 := by
  induction n with
  | zero => rfl
  | succ n ih => rw [frees, List.length_append, ih]; simp [freeV]; omega
theorem frees_get {n i j : Nat} (hi : i < n) (hj : j < 5) : (frees n)[i * 5 + j]? = freeV[j]? := by
  induction n with
  | zero => omega
  | succ n ih =>
    rw [frees]
    by_cases h : i = n
    · subst h
      rw [List.getElem?_append_right (by rw [frees_length]; omega), frees_length, Nat.add_sub_cancel_left]
    · rw [List.getElem?_append_left (by rw [frees_length]; omega)]
      exact ih (by omega)
/-- A solver whose variables are all free. -/
structure Fr (w : World) (p B n : Nat) (v : Value) : Prop where
  blk : Blk w p 71 #[.int .i64 n, v]
  row : w.ownsRow B 85 5 v n (frees n)
theorem Fr.keep {w w' : World} {p B n : Nat} {v : Value} (h : Fr w p B n v) (h1 : w'.heap[p]? = w.heap[p]?) (h2 : ∀ g, v.ownBlock = some g → w'.heap[g]? = w.heap[g]?) : Fr w' p B n v := ⟨h1.trans h.blk, row_keep h.row h2⟩
theorem Fr.ne {w : World} {p B n : Nat} {v : Value} (h : Fr w p B n v) : v.ownBlock ≠ some p := by
  intro e
  rcases h.row.2 with ⟨rfl, _⟩ | ⟨g, cap, cur, rfl, _, hg, _⟩
  · cases e
  · have e2 : g = p := by simpa [Value.ownBlock] using e
    subst e2
    have := hg.symm.trans h.blk
    simp at this
/-- Free variables make a table. -/
theorem Fr.table {w : World} {p B n : Nat} {v : Value} (h : Fr w p B n v) (hn : 0 < n) (hn2 : n ≤ 1000) (S : Nat → Prop) (hp : ¬ S p) (hS : ∀ g, v.ownBlock = some g → ¬ S g) : ∃ pv c cur, v = .slice (some ⟨pv, 0, none⟩) n c ∧ B ≤ pv ∧ Tb S w p pv c (List.replicate n none) cur := by
  have hne := h.ne
  rcases h.row.2 with ⟨rfl, h0⟩ | ⟨g, cap, cur, rfl, hB, hg, h1, h2, h3, h4⟩
  · omega
  · refine ⟨g, cap, cur, rfl, hB, ?_, hg, h3, by simpa using h1, h2, by simpa using hn2, hp, hS g rfl, fun e => hne (by simp [Value.ownBlock, e]), fun i hi => ?_⟩
    · rw [List.length_replicate]; exact h.blk
    · have hi2 : i < n := by simpa using hi
      have key : ∀ j, j < 5 → cur[i * 5 + j]? = freeV[j]? := fun j hj => by
        rw [← frees_get hi2 hj, ← h4, List.getElem?_take_of_lt (by omega)]
        simp
      refine ⟨0, ⟨#[]⟩, 0, none, 0, 0, false, key 0 (by omega), key 1 (by omega), key 2 (by omega), key 3 (by omega), key 4 (by omega), fun _ => ?_, fun h => (by cases h)⟩
      rw [List.getElem?_replicate, if_pos hi2]
theorem int64_Add (p : Nat) (n : Int) (v : Value) (w : World) (hb : Blk w p 71 #[.int .i64 n, v]) (h0 : 0 ≤ n) (h1 : n ≤ 1000) :
    Calls Tryd.prog 48 #[.pointer (some ⟨p, 0, none⟩), .int .i64 1] w fun e w' => e = .returned (.int .i64 (n + 1)) ∧ w' = w.setCell ⟨p, 0, none⟩ (.int .i64 (n + 1)) := by
  have h0 : w.cell? ⟨p, 0, none⟩ = some (.int .i64 n) := hb.cell 0
  have hadd := run_call_add (P := Tryd.prog) Tryd.func56 (by kernel_rfl) (by kernel_rfl) (by kernel_rfl) .i64 (by kernel_rfl) (a := ⟨p, 0, none⟩) (x := n) (y := 1) (s := n + 1) (w := w) h0 (hb.frozen 0) (by simp [go_sem, IntKind.wrap]; omega)
  go_enter Tryd.func48, Tryd.ntmps48
  go_wp2
  go_ret
  exact ⟨rfl, rfl⟩
theorem cells_lit5 (w : World) {g : Nat} (hg : g = w.heap.size) (t : TypeId) (v0 v1 v2 v3 v4 : Value) : ∀ j u, [v0, v1, v2, v3, v4][j]? = some u → (w.alloc (.cells #[v0, v1, v2, v3, v4] t)).cell? ((⟨g, 0, none⟩ : Addr).add j) = some u := by
  subst hg
  intro j u hj
  have hp : (⟨w.heap.size, 0, none⟩ : Addr).add j = ⟨w.heap.size, j, none⟩ := by unfold Addr.add; split <;> simp_all
  rw [hp, (Blk.new w t #[v0, v1, v2, v3, v4]).cell j]
  simpa using hj
/-- What Fresh tells. -/
def FreshP (p B n : Nat) (v : Value) (w : World) (e : Ending) (w' : World) : Prop :=
  e = .returned (.agg #[.int .i64 2, .string ⟨#[]⟩, .int .i64 ((n : Int) + 1), .slice none 0 0]) ∧ (∃ v', Fr w' p B (n + 1) v' ∧ (∀ g, v'.ownBlock = some g → v.ownBlock = some g ∨ w.heap.size ≤ g)) ∧ Kept (fun b => b = p ∨ v.ownBlock = some b) w w'
set_option maxHeartbeats 4000000 in
set_option maxRecDepth 100000 in
theorem links_Fresh (p B n : Nat) (v : Value) (w : World) (h : Fr w p B n v) (hn : n ≤ 900) (hB : B ≤ w.heap.size) : Calls Tryd.prog 33 #[.pointer (some ⟨p, 0, none⟩)] w (FreshP p B n v w) := by
  have H := hid h
  have HB := hid hB
  have hne := hid h.ne
  have hpl := h.blk.lt
  have a1 : ∀ o, (w.alloc o).cell? ⟨p, 1, none⟩ = some v := fun o => (h.blk.alloc o).cell 1
  have hnv : ∃ A m c, v = .slice A m c := by rcases h.row.2 with ⟨rfl, _⟩ | ⟨g, cap, cur, rfl, _⟩; exact ⟨_, _, _, rfl⟩; exact ⟨_, _, _, rfl⟩
  obtain ⟨A, m, c, rfl⟩ := hnv
  have HP := hid hpl
  have hrl := hid (fun g (hg : (Value.slice A m c).ownBlock = some g) => (h.row.lt g hg).2)
  clear h hB hpl
  go_enter Tryd.func33, Tryd.ntmps33
  go_wp2_with (first
    | (at_builtin; go_must (refine wpList_appG Tryd.underlying67 info_var rfl (by omega) (by omega) (by rfl) _ _ (by rfl) B (by rfl) (n := n) (xs := frees n) ((H.out.row.alloc _).alloc _) (by rfl) (news := freeV) (by rfl) (cells_lit5 _ (by simp) _ _ _ _ _ _) (by simp [freeV, Value.oneCell']) (by omega) (by have := HB.out; simp; omega) ?_); intro v' w2 hr2 hg2 hn2; go_must (
        obtain ⟨A2, m2, c2, rfl⟩ : ∃ A2 m2 c2, v' = .slice A2 m2 c2 := (by rcases hr2.2 with ⟨rfl, _⟩ | ⟨g, cap, cur, rfl, _⟩; exact ⟨_, _, _, rfl⟩; exact ⟨_, _, _, rfl⟩)
        have P2 := ((H.out.blk.alloc _).alloc _).grown hg2 (fun e => hne.out e.symm)
        have K2 := (((Kept.refl (fun b => b = p ∨ (Value.slice A m c).ownBlock = some b) w).alloc _).alloc _).grown hg2 (fun k e => .inl (.inr e))
        have O2 : Blk w2 w.heap.size 24 #[.int .i64 0, .string ⟨#[]⟩, .int .i64 0, .slice none 0 0] := ((Blk.new _ _ _).alloc _).grown hg2 (fun e => by have := hrl.out _ e.symm; omega)
        have hnep : (Value.slice A2 m2 c2).ownBlock ≠ some p := (fun e => by rcases hn2 p e with e | e; exact hne.out e; have := HP.out; simp at e; omega)
        have p1 : w2.cell? ⟨p, 1, none⟩ = some (.slice A m c) := P2.cell 1
        have f1 := P2.frozen 1
        have P3 := P2.set_ 1 (.slice A2 m2 c2)
        have P4 := hid (P3.set_ 0 (.int .i64 ((n : Int) + 1)))
        have HC := hid (int64_Add p n (.slice A2 m2 c2) _ P3 (by omega) (by omega))
        have O4 : Blk ((w2.setCell ⟨p, 1, none⟩ (.slice A2 m2 c2)).setCell ⟨p, 0, none⟩ (.int .i64 ((n : Int) + 1))) w.heap.size 24 #[.int .i64 0, .string ⟨#[]⟩, .int .i64 0, .slice none 0 0] := (O2.far (p := ⟨p, 1, none⟩) (by have := HP.out; dsimp only; omega) _).far (p := ⟨p, 0, none⟩) (by have := HP.out; dsimp only; omega) _
        have x0 : _ = some (Value.int .i64 0) := O4.cell 0
        have x1 : _ = some (Value.string ⟨#[]⟩) := O4.cell 1
        have x2 : _ = some (Value.int .i64 0) := O4.cell 2
        have x3 : _ = some (Value.slice none 0 0) := O4.cell 3
        have g0 := O4.frozen 0
        have g1 := O4.frozen 1
        have g2 := O4.frozen 2
        have g3 := O4.frozen 3
        have HR := hid (And.intro (hr2 : w2.ownsRow B 85 5 (.slice A2 m2 c2) (n + 1) (frees (n + 1))) (And.intro hn2 (And.intro hnep (And.intro K2 O4))))
        clear hr2 hg2 hn2 P2 P3 K2 O2 O4 hnep))
    | (go_at_call 48; go_must (refine HC.out.mono ?_); rintro e w3 ⟨rfl, rfl⟩))
  have hr := HR.out
  have key : ∀ k, k ≠ p → k ≠ w.heap.size → (((((((w2.setCell ⟨p, 1, none⟩ (.slice A2 m2 c2)).setCell ⟨p, 0, none⟩ (.int .i64 ((n : Int) + 1))).setCell ⟨w.heap.size, 0, none⟩ (.int .i64 2)).setCell ⟨w.heap.size, 1, none⟩ (.string ⟨#[]⟩)).setCell ⟨w.heap.size, 2, none⟩ (.int .i64 ((n : Int) + 1))).setCell ⟨w.heap.size, 3, none⟩ (.slice none 0 0))).heap[k]? = w2.heap[k]? :=
    fun k h1 h2 => (set4_other h2).trans ((Below.heap_setCell _ ⟨p, 0, none⟩ _ k h1).trans (Below.heap_setCell _ ⟨p, 1, none⟩ _ k h1))
  have hpw : p ≠ w.heap.size := by have := HP.out; omega
  refine ret_type rfl (by rfl) (set4_blk hr.2.2.2.2) rfl ⟨rfl, ⟨.slice A2 m2 c2, ⟨(set4_other hpw).trans P4.out, row_keep hr.1 (fun g hg => key g (fun e => hr.2.2.1 (by rw [← e]; exact hg)) (fun e => ?_))⟩, fun g hg => ?_⟩, ?_⟩
  · rcases hr.2.1 g hg with h | h
    · have := hrl.out g h; omega
    · simp at h; omega
  · rcases hr.2.1 g hg with h | h
    · exact .inl h
    · right; simp at h; omega
  · exact (((hr.2.2.2.1.setCell (p := ⟨p, 1, none⟩) (.inl (.inl rfl)) _).setCell (p := ⟨p, 0, none⟩) (.inl (.inl rfl)) _).set4 (Nat.le_refl _))
set_option maxHeartbeats 4000000 in
set_option maxRecDepth 100000 in
theorem typ_Fresh (p B n : Nat) (v : Value) (w : World) (h : Fr w p B n v) (hn : n ≤ 900) (hB : B ≤ w.heap.size) : Calls Tryd.prog 19 #[.pointer (some ⟨p, 0, none⟩)] w (FreshP p B n v w) := by
  have hrl := hid (fun g (hg : v.ownBlock = some g) => (h.row.lt g hg).2)
  have hpl := hid h.blk.lt
  have C := hid (links_Fresh p B n v (w.alloc (.cells #[.int .i64 0, .string ⟨#[]⟩, .int .i64 0, .slice none 0 0] 24)) (h.keep (Below.heap_alloc _ _ _ h.blk.lt) (fun g hg => Below.heap_alloc _ _ _ (h.row.lt g hg).2)) hn (by simp; omega))
  clear h hn hB
  go_enter Tryd.func19, Tryd.ntmps19
  go_wp2_with (first
    | (go_at_call 33; go_must (refine C.out.mono ?_); rintro e w1 ⟨rfl, ⟨v', hf, hn2⟩, hk⟩; go_must (
        have O4 := (Blk.new w 24 #[.int .i64 0, .string ⟨#[]⟩, .int .i64 0, .slice none 0 0]).kept hk (fun e => by rcases e with e | e; have := hpl.out; omega; have := hrl.out _ e; omega)
        have x0 : w1.cell? ⟨w.heap.size, 0, none⟩ = some (Value.int .i64 0) := O4.cell 0
        have x1 : w1.cell? ⟨w.heap.size, 1, none⟩ = some (Value.string ⟨#[]⟩) := O4.cell 1
        have x2 : w1.cell? ⟨w.heap.size, 2, none⟩ = some (Value.int .i64 0) := O4.cell 2
        have x3 : w1.cell? ⟨w.heap.size, 3, none⟩ = some (Value.slice none 0 0) := O4.cell 3
        have g0 := O4.frozen 0
        have g1 := O4.frozen 1
        have g2 := O4.frozen 2
        have g3 := O4.frozen 3
        have HR := hid (And.intro hf (And.intro hn2 (And.intro hk O4)))
        clear hf hn2 hk O4)))
  have hr := HR.out
  have hpw : p ≠ w.heap.size := by have := hpl.out; omega
  have hvw : ∀ g, v'.ownBlock = some g → v.ownBlock = some g ∨ w.heap.size + 1 ≤ g := fun g hg => by have := hr.2.1 g hg; simpa using this
  refine ret_type rfl (by rfl) (set4_blk hr.2.2.2) rfl ⟨rfl, ⟨v', hr.1.keep (set4_other hpw) (fun g hg => set4_other (by rcases hvw g hg with h | h; have := hrl.out g h; omega; omega)), fun g hg => by rcases hvw g hg with h | h; exact .inl h; right; omega⟩, ?_⟩
  exact (hr.2.2.1.hop ((Kept.refl _ w).alloc _)).set4 (Nat.le_refl _)
set_option maxHeartbeats 4000000 in
theorem typ_Fresh_nil (w : World) : Calls Tryd.prog 19 #[.pointer none] w fun e w' => e = .returned (.agg #[.int .i64 0, .string ⟨#[]⟩, .int .i64 0, .slice none 0 0]) ∧ Below w.heap.size w w' := by
  go_enter Tryd.func19, Tryd.ntmps19
  go_wp2
  exact ret_type rfl (by rfl) (Blk.new _ _ _) rfl ⟨rfl, (Below.refl _ _).alloc (Nat.le_refl _) _⟩
theorem typ_New (w : World) : Calls Tryd.prog 18 #[] w fun e w' => e = .returned (.pointer (some ⟨w.heap.size, 0, none⟩)) ∧ w' = w.alloc (.cells #[.int .i64 0, .slice none 0 0] 71) := by
  go_enter Tryd.func18, Tryd.ntmps18
  go_wp2
  go_ret
  exact ⟨rfl, rfl⟩
theorem Fr.new (w : World) (B : Nat) : Fr (w.alloc (.cells #[.int .i64 0, .slice none 0 0] 71)) w.heap.size B 0 (.slice none 0 0) := ⟨Blk.new _ _ _, World.ownsRow_nil _ _ _ _⟩
theorem int64_Load (p : Nat) (n : Int) (v : Value) (w : World) (hb : Blk w p 71 #[.int .i64 n, v]) :
    Calls Tryd.prog 49 #[.pointer (some ⟨p, 0, none⟩)] w fun e w' => e = .returned (.int .i64 n) ∧ w = w' := by
  have h0 : w.cell? ⟨p, 0, none⟩ = some (.int .i64 n) := hb.cell 0
  have hadd := run_call_load (P := Tryd.prog) Tryd.func57 (by kernel_rfl) (by kernel_rfl) (by kernel_rfl) .i64 (by kernel_rfl) (a := ⟨p, 0, none⟩) (x := n) (w := w) h0
  go_enter Tryd.func49, Tryd.ntmps49
  go_wp2
  go_ret
  exact ⟨rfl, rfl⟩
theorem links_Vars (p : Nat) (n : Int) (v : Value) (w : World) (hb : Blk w p 71 #[.int .i64 n, v]) :
    Calls Tryd.prog 34 #[.pointer (some ⟨p, 0, none⟩)] w fun e w' => e = .returned (.int .i64 n) ∧ w = w' := by
  have C := hid (int64_Load p n v w hb)
  go_enter Tryd.func34, Tryd.ntmps34
  go_wp2_with (go_at_call 49; refine C.out.mono ?_; rintro e w1 ⟨rfl, rfl⟩)
  go_ret
  exact ⟨rfl, rfl⟩
theorem typ_Vars (p : Nat) (n : Int) (v : Value) (w : World) (hb : Blk w p 71 #[.int .i64 n, v]) :
    Calls Tryd.prog 22 #[.pointer (some ⟨p, 0, none⟩)] w fun e w' => e = .returned (.int .i64 n) ∧ w = w' := by
  have C := hid (links_Vars p n v w hb)
  go_enter Tryd.func22, Tryd.ntmps22
  go_wp2_with (go_at_call 34; refine C.out.mono ?_; rintro e w1 ⟨rfl, rfl⟩)
  go_ret
  exact ⟨rfl, rfl⟩
theorem typ_Vars_nil (w : World) : Calls Tryd.prog 22 #[.pointer none] w fun e w' => e = .returned (.int .i64 0) ∧ w = w' := by
  go_enter Tryd.func22, Tryd.ntmps22
  go_wp2
  go_ret
  exact ⟨rfl, rfl⟩
end Go.Proofs.YtnlifgcnmhakiaaDoor
