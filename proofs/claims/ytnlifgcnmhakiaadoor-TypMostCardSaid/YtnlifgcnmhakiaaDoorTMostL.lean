/-
  TWO ROWS OF TYPES THAT ARE BUILT SIDE BY SIDE; append of one type as one step.
-/
import Derived.Test.YtnlifgcnmhakiaaDoorTRNam
import Derived.Test.YtnlifgcnmhakiaaDoorTTwo2
namespace Go.Proofs.YtnlifgcnmhakiaaDoor
open Go.ChangeShapes Go.WideShapes Go.ChangeAt Go.RowKit

theorem ap4_core {X W : World} (hb : Below X.heap.size X W)
    {ops : Array Oper} {o : Oper} {a : Act} {K : Act → World → Prop} {Q : Exit → Act → World → Prop} {E : Prop} (hgd : o.guard = none) (s x : Operand) (ho : o.op = .call { callee := .builtin .append, args := #[s, x], argTypes := #[22, 22] })
    {B : Nat} {v : Value} {n : Nat} {xs : List Value} (hs : a.eval s = v) (hown : X.ownsRow B 24 4 v n xs) {g : Nat} {v0 v1 v2 v3 : Value} (hx : a.eval x = .slice (some ⟨g, 0, none⟩) 1 1) (hL : Blk W g 24 #[v0, v1, v2, v3]) (h1 : ∀ u ∈ [v0, v1, v2, v3], u.oneCell' = true) (hlen : n + 1 ≤ 1000000) (hB : B ≤ X.heap.size)
    (h : ∀ v' w', w'.ownsRow B 24 4 v' (n + 1) (xs ++ [v0, v1, v2, v3]) → Kept (fun b => v.ownBlock = some b) X w' → (∀ g, v'.ownBlock = some g → v.ownBlock = some g ∨ X.heap.size ≤ g) → (∀ j t c, Blk W j t c → v.ownBlock ≠ some j → Blk w' j t c) → K (a.put o.dst v') w') :
    if Region.wanted o (yielded ops a.tmps) = true then Oper.wp Tryd.prog o a W K Q else E :=
  step_appG Tryd.underlying22 info_type (by rfl) (by omega) (by omega) hgd s x ho B hs (row_keep hown (fun g hg => hb.block g (hown.lt g hg).2)) hx (news := [v0, v1, v2, v3]) rfl
    (fun j y hj => by
      have hp : (⟨g, 0, none⟩ : Addr).add j = ⟨g, j, none⟩ := by unfold Addr.add; split <;> simp_all
      rw [hp, hL.cell j]
      simpa using hj) h1 hlen (Nat.le_trans hB hb.size)
    (fun v' w' hr hg hn => h v' w' hr ((Kept.of_below hb _).grown hg (fun k e => .inl e)) (fun g e => (hn g e).imp id (fun e => Nat.le_trans hb.size e)) (fun j t c hj hne => hj.grown hg (fun e => hne e.symm)))
theorem ap4_ne {X : World} {B n sz j : Nat} {TE : TypeId} {v : Value} {xs : List Value} (h : X.ownsRow B TE sz v n xs) (hj : X.heap.size ≤ j) : v.ownBlock ≠ some j := fun e => by have := h.lt j e; omega
theorem aq_d1 {X W : World} {v0 v1 v2 v3 : Value}  (hW : W = (X.alloc (.cells #[v0, v1, v2, v3] 24)).drew)
    {ops : Array Oper} {o : Oper} {a : Act} {K : Act → World → Prop} {Q : Exit → Act → World → Prop} {E : Prop} (hgd : o.guard = none) (s x : Operand) (ho : o.op = .call { callee := .builtin .append, args := #[s, x], argTypes := #[22, 22] })
    {B : Nat} {v : Value} {n : Nat} {xs : List Value} (hs : a.eval s = v) (hown : X.ownsRow B 24 4 v n xs)  (hx : a.eval x = .slice (some ⟨X.heap.size, 0, none⟩) 1 1) (h1 : ∀ u ∈ [v0, v1, v2, v3], u.oneCell' = true) (hlen : n + 1 ≤ 1000000) (hB : B ≤ X.heap.size)
    (h : ∀ v' w', w'.ownsRow B 24 4 v' (n + 1) (xs ++ [v0, v1, v2, v3]) → Kept (fun b => v.ownBlock = some b) X w' → (∀ g, v'.ownBlock = some g → v.ownBlock = some g ∨ X.heap.size ≤ g) → (∀ j t c, Blk X j t c → v.ownBlock ≠ some j → Blk w' j t c) → True → K (a.put o.dst v') w') :
    if Region.wanted o (yielded ops a.tmps) = true then Oper.wp Tryd.prog o a W K Q else E := by
  subst hW
  exact ap4_core (ad1 _ _) hgd s x ho hs hown hx ((bk10 X _ _).drew) h1 hlen hB (fun v' w' r1 r2 r3 r4 => h v' w' r1 r2 r3 (fun j t c hj hn => r4 j t c (hj.below (ad1 _ _) hj.lt) hn) (trivial))
theorem aq_d20 {X W : World} {v0 v1 v2 v3 : Value} {t : TypeId} {c : Array Value} (hW : W = ((X.alloc (.cells #[v0, v1, v2, v3] 24)).alloc (.cells c t)).drew)
    {ops : Array Oper} {o : Oper} {a : Act} {K : Act → World → Prop} {Q : Exit → Act → World → Prop} {E : Prop} (hgd : o.guard = none) (s x : Operand) (ho : o.op = .call { callee := .builtin .append, args := #[s, x], argTypes := #[22, 22] })
    {B : Nat} {v : Value} {n : Nat} {xs : List Value} (hs : a.eval s = v) (hown : X.ownsRow B 24 4 v n xs)  (hx : a.eval x = .slice (some ⟨X.heap.size, 0, none⟩) 1 1) (h1 : ∀ u ∈ [v0, v1, v2, v3], u.oneCell' = true) (hlen : n + 1 ≤ 1000000) (hB : B ≤ X.heap.size)
    (h : ∀ v' w', w'.ownsRow B 24 4 v' (n + 1) (xs ++ [v0, v1, v2, v3]) → Kept (fun b => v.ownBlock = some b) X w' → (∀ g, v'.ownBlock = some g → v.ownBlock = some g ∨ X.heap.size ≤ g) → (∀ j t c, Blk X j t c → v.ownBlock ≠ some j → Blk w' j t c) → (Blk w' (X.heap.size + 1) t c ∧ X.heap.size ≤ X.heap.size + 1) → K (a.put o.dst v') w') :
    if Region.wanted o (yielded ops a.tmps) = true then Oper.wp Tryd.prog o a W K Q else E := by
  subst hW
  exact ap4_core (ad2 _ _ _) hgd s x ho hs hown hx ((bk20 X _ _ _).drew) h1 hlen hB (fun v' w' r1 r2 r3 r4 => h v' w' r1 r2 r3 (fun j t c hj hn => r4 j t c (hj.below (ad2 _ _ _) hj.lt) hn) (⟨r4 _ _ _ (bk21 X t c _).drew (ap4_ne hown (by omega)), by omega⟩))
theorem aq_d21 {X W : World} {v0 v1 v2 v3 : Value} {t : TypeId} {c : Array Value} (hW : W = ((X.alloc (.cells c t)).alloc (.cells #[v0, v1, v2, v3] 24)).drew)
    {ops : Array Oper} {o : Oper} {a : Act} {K : Act → World → Prop} {Q : Exit → Act → World → Prop} {E : Prop} (hgd : o.guard = none) (s x : Operand) (ho : o.op = .call { callee := .builtin .append, args := #[s, x], argTypes := #[22, 22] })
    {B : Nat} {v : Value} {n : Nat} {xs : List Value} (hs : a.eval s = v) (hown : X.ownsRow B 24 4 v n xs)  (hx : a.eval x = .slice (some ⟨X.heap.size + 1, 0, none⟩) 1 1) (h1 : ∀ u ∈ [v0, v1, v2, v3], u.oneCell' = true) (hlen : n + 1 ≤ 1000000) (hB : B ≤ X.heap.size)
    (h : ∀ v' w', w'.ownsRow B 24 4 v' (n + 1) (xs ++ [v0, v1, v2, v3]) → Kept (fun b => v.ownBlock = some b) X w' → (∀ g, v'.ownBlock = some g → v.ownBlock = some g ∨ X.heap.size ≤ g) → (∀ j t c, Blk X j t c → v.ownBlock ≠ some j → Blk w' j t c) → (Blk w' X.heap.size t c ∧ X.heap.size ≤ X.heap.size) → K (a.put o.dst v') w') :
    if Region.wanted o (yielded ops a.tmps) = true then Oper.wp Tryd.prog o a W K Q else E := by
  subst hW
  exact ap4_core (ad2 _ _ _) hgd s x ho hs hown hx ((bk21 X _ _ _).drew) h1 hlen hB (fun v' w' r1 r2 r3 r4 => h v' w' r1 r2 r3 (fun j t c hj hn => r4 j t c (hj.below (ad2 _ _ _) hj.lt) hn) (⟨r4 _ _ _ (bk20 X t c _).drew (ap4_ne hown (Nat.le_refl _)), Nat.le_refl _⟩))
theorem aq_n0 {X W : World} {v0 v1 v2 v3 : Value}  (hW : W = X)
    {ops : Array Oper} {o : Oper} {a : Act} {K : Act → World → Prop} {Q : Exit → Act → World → Prop} {E : Prop} (hgd : o.guard = none) (s x : Operand) (ho : o.op = .call { callee := .builtin .append, args := #[s, x], argTypes := #[22, 22] })
    {B : Nat} {v : Value} {n : Nat} {xs : List Value} (hs : a.eval s = v) (hown : X.ownsRow B 24 4 v n xs) {g0 : Nat} (hL : Blk X g0 24 #[v0, v1, v2, v3]) (hx : a.eval x = .slice (some ⟨g0, 0, none⟩) 1 1) (h1 : ∀ u ∈ [v0, v1, v2, v3], u.oneCell' = true) (hlen : n + 1 ≤ 1000000) (hB : B ≤ X.heap.size)
    (h : ∀ v' w', w'.ownsRow B 24 4 v' (n + 1) (xs ++ [v0, v1, v2, v3]) → Kept (fun b => v.ownBlock = some b) X w' → (∀ g, v'.ownBlock = some g → v.ownBlock = some g ∨ X.heap.size ≤ g) → (∀ j t c, Blk X j t c → v.ownBlock ≠ some j → Blk w' j t c) → True → K (a.put o.dst v') w') :
    if Region.wanted o (yielded ops a.tmps) = true then Oper.wp Tryd.prog o a W K Q else E := by
  subst hW
  exact ap4_core (Below.refl _ _) hgd s x ho hs hown hx (hL) h1 hlen hB (fun v' w' r1 r2 r3 r4 => h v' w' r1 r2 r3 (fun j t c hj hn => r4 j t c (hj.below (Below.refl _ _) hj.lt) hn) (trivial))
theorem aq_n1 {X W : World} {v0 v1 v2 v3 : Value}  (hW : W = X.alloc (.cells #[v0, v1, v2, v3] 24))
    {ops : Array Oper} {o : Oper} {a : Act} {K : Act → World → Prop} {Q : Exit → Act → World → Prop} {E : Prop} (hgd : o.guard = none) (s x : Operand) (ho : o.op = .call { callee := .builtin .append, args := #[s, x], argTypes := #[22, 22] })
    {B : Nat} {v : Value} {n : Nat} {xs : List Value} (hs : a.eval s = v) (hown : X.ownsRow B 24 4 v n xs)  (hx : a.eval x = .slice (some ⟨X.heap.size, 0, none⟩) 1 1) (h1 : ∀ u ∈ [v0, v1, v2, v3], u.oneCell' = true) (hlen : n + 1 ≤ 1000000) (hB : B ≤ X.heap.size)
    (h : ∀ v' w', w'.ownsRow B 24 4 v' (n + 1) (xs ++ [v0, v1, v2, v3]) → Kept (fun b => v.ownBlock = some b) X w' → (∀ g, v'.ownBlock = some g → v.ownBlock = some g ∨ X.heap.size ≤ g) → (∀ j t c, Blk X j t c → v.ownBlock ≠ some j → Blk w' j t c) → True → K (a.put o.dst v') w') :
    if Region.wanted o (yielded ops a.tmps) = true then Oper.wp Tryd.prog o a W K Q else E := by
  subst hW
  exact ap4_core (al1 _ _) hgd s x ho hs hown hx (bk10 X _ _) h1 hlen hB (fun v' w' r1 r2 r3 r4 => h v' w' r1 r2 r3 (fun j t c hj hn => r4 j t c (hj.below (al1 _ _) hj.lt) hn) (trivial))
section
variable {R i : Nat} {ts us : List Ty} {va vb va' : Value} {xs ys : List Value} {wr w' : World}
/-- One type more in the one row. -/
theorem Bn.more {t : Ty} {i2 : Nat} {v0 v1 v2 v3 : Value} (h : Bn R ts i va xs vb wr) (hb : Bn R us i2 vb ys va wr) (ht : TAt wr (fun b => R ≤ b ∧ va.ownBlock ≠ some b ∧ vb.ownBlock ≠ some b) t (.agg #[v0, v1, v2, v3]))
    (r1 : w'.ownsRow R 24 4 va' (i + 1) (xs ++ [v0, v1, v2, v3])) (r2 : Kept (fun b => va.ownBlock = some b) wr w') (r3 : ∀ g, va'.ownBlock = some g → va.ownBlock = some g ∨ wr.heap.size ≤ g) : Bn R (ts ++ [t]) (i + 1) va' (xs ++ [v0, v1, v2, v3]) vb w' := by
  have hil := h.len
  have hlen : xs.length = i * 4 := h.row.1
  refine ⟨by simp [hil], r1, fun g e e2 => ?_, fun j hj => ?_⟩
  · rcases r3 g e with e | e
    · exact h.sep g e e2
    · have := hb.row.lt g e2; omega
  · by_cases hjj : j < ts.length
    · obtain ⟨u0, u1, u2, u3, e0, e1, e2, e3, hv⟩ := h.kids j hjj
      refine ⟨u0, u1, u2, u3, by rw [List.getElem?_append_left (by omega)]; exact e0, by rw [List.getElem?_append_left (by omega)]; exact e1, by rw [List.getElem?_append_left (by omega)]; exact e2, by rw [List.getElem?_append_left (by omega)]; exact e3, ?_⟩
      rw [List.getElem_append_left hjj]
      exact hv.keep (fun k hk1 hk2 => ⟨r2.block k hk2 hk1.2.1, hk1.1, fun e => (r3 k e).elim hk1.2.1 (fun e => by omega), hk1.2.2⟩)
    · obtain rfl : j = ts.length := by simp at hj; omega
      refine ⟨v0, v1, v2, v3, by rw [List.getElem?_append_right (by omega)]; simp [hlen, hil], by rw [List.getElem?_append_right (by omega)]; simp [hlen, hil], by rw [List.getElem?_append_right (by omega)]; simp [hlen, hil], by rw [List.getElem?_append_right (by omega)]; simp [hlen, hil], ?_⟩
      rw [List.getElem_append_right (Nat.le_refl _)]
      simp only [Nat.sub_self, List.getElem_cons_zero]
      exact ht.keep (fun k hk1 hk2 => ⟨r2.block k hk2 hk1.2.1, hk1.1, fun e => (r3 k e).elim hk1.2.1 (fun e => by omega), hk1.2.2⟩)
/-- The other row beside it. -/
theorem Bn.beside (hb : Bn R us i vb ys va wr) (r2 : Kept (fun b => va.ownBlock = some b) wr w') (r3 : ∀ g, va'.ownBlock = some g → va.ownBlock = some g ∨ wr.heap.size ≤ g) : Bn R us i vb ys va' w' := by
  refine ⟨hb.len, row_keep hb.row (fun g hg => r2.block g (hb.row.lt g hg).2 (hb.sep g hg)), fun g e e2 => ?_, fun j hj => ?_⟩
  · rcases r3 g e2 with e2 | e2
    · exact hb.sep g e e2
    · have := hb.row.lt g e; omega
  · obtain ⟨u0, u1, u2, u3, e0, e1, e2, e3, hv⟩ := hb.kids j hj
    exact ⟨u0, u1, u2, u3, e0, e1, e2, e3, hv.keep (fun k hk1 hk2 => ⟨r2.block k hk2 hk1.2.2, hk1.1, hk1.2.1, fun e => (r3 k e).elim hk1.2.2 (fun e => by omega)⟩)⟩
theorem bn_type {u : Ty} {v : Value} (ht : TAt wr (fun b => R ≤ b ∧ va.ownBlock ≠ some b ∧ vb.ownBlock ≠ some b) u v) (r2 : Kept (fun b => va.ownBlock = some b) wr w') (r3 : ∀ g, va'.ownBlock = some g → va.ownBlock = some g ∨ wr.heap.size ≤ g) : TAt w' (fun b => R ≤ b ∧ vb.ownBlock ≠ some b ∧ va'.ownBlock ≠ some b) u v :=
  ht.keep (fun k hk1 hk2 => ⟨r2.block k hk2 hk1.2.1, hk1.1, hk1.2.2, fun e => (r3 k e).elim hk1.2.1 (fun e => by omega)⟩)
/-- Below the rows all may turn. -/
theorem Bn.far (h : Bn R ts i va xs vb wr) (hk : ∀ k, R ≤ k → k < wr.heap.size → w'.heap[k]? = wr.heap[k]?) : Bn R ts i va xs vb w' := by
  refine ⟨h.len, row_keep h.row (fun g hg => hk g (h.row.lt g hg).1 (h.row.lt g hg).2), h.sep, fun j hj => ?_⟩
  obtain ⟨u0, u1, u2, u3, e0, e1, e2, e3, hv⟩ := h.kids j hj
  exact ⟨u0, u1, u2, u3, e0, e1, e2, e3, hv.keep (fun k hk1 hk2 => ⟨hk k hk1.1 hk2, hk1⟩)⟩
theorem Bn.upB (h : Bn R ts i va xs vb wr) (hb : Below wr.heap.size wr w') : Bn R ts i va xs vb w' := h.far (fun k _ hk => hb.block k hk)
end
/-- The two solvers, when nothing binds any more. -/
structure L2 (F : Nat → Prop) (R : Nat) (w : World) (p1 pv1 c1 p2 pv2 c2 : Nat) (σ τ : Sg) (wx : World) : Prop where
  hb : Below w.heap.size w wx
  t1 : ∃ cur, Tb F wx p1 pv1 c1 σ cur
  t2 : ∃ cur, Tb F wx p2 pv2 c2 τ cur
  ok1 : Ok σ
  ok2 : Ok τ
  fR : ∀ b, F b → b < R
  lt : p1 < R ∧ pv1 < R ∧ p2 < R ∧ pv2 < R
  le : w.heap.size ≤ R ∧ R ≤ wx.heap.size
section
variable {F : Nat → Prop} {B R : Nat} {w : World} {p1 pv1 c1 p2 pv2 c2 : Nat} {σ τ : Sg} {wx wy : World}
theorem TS2.still (h : TS2 F B w p1 pv1 c1 p2 pv2 c2 σ τ wx) : L2 (fun b => F b ∧ b < wx.heap.size) wx.heap.size w p1 pv1 c1 p2 pv2 c2 σ τ wx := by
  obtain ⟨cur, t1⟩ := h.s1.tab
  obtain ⟨cur2, t2⟩ := h.s2.tab
  have l1 := h.s1.lt
  have l2 := h.s2.lt
  exact ⟨h.hb, ⟨cur, t1.narrow⟩, ⟨cur2, t2.narrow⟩, h.s1.ok, h.s2.ok, fun b e => e.2, ⟨l1.1, l1.2.1, l2.1, l2.2.1⟩, h.hb.size, Nat.le_refl _⟩
theorem L2.kept (h : L2 F R w p1 pv1 c1 p2 pv2 c2 σ τ wx) {S : Nat → Prop} (hk : Kept S wx wy) (hS : ∀ b, S b → R ≤ b) : L2 F R w p1 pv1 c1 p2 pv2 c2 σ τ wy := by
  obtain ⟨cur, t1⟩ := h.t1
  obtain ⟨cur2, t2⟩ := h.t2
  have hl := h.lt
  have hle := h.le
  have hF : ∀ b, F b → ¬ S b := fun b e s => by have := h.fR b e; have := hS b s; omega
  have hn : ∀ b, b < R → ¬ S b := fun b e s => by have := hS b s; omega
  exact ⟨h.hb.trans (hk.below (by omega) (fun b e => by have := hS b e; omega)), ⟨cur, t1.kept hk hF (hn _ hl.1) (hn _ hl.2.1)⟩, ⟨cur2, t2.kept hk hF (hn _ hl.2.2.1) (hn _ hl.2.2.2)⟩, h.ok1, h.ok2, h.fR, hl, hle.1, Nat.le_trans hle.2 hk.size⟩
theorem L2.up (h : L2 F R w p1 pv1 c1 p2 pv2 c2 σ τ wx) (hb : Below wx.heap.size wx wy) : L2 F R w p1 pv1 c1 p2 pv2 c2 σ τ wy := h.kept (S := fun b => R ≤ b) (Kept.of_below hb _) (fun _ e => e)
theorem var_t {S : Nat → Prop} {n : Int} (hn : (Lit.int .i64 n).wf = true) : TAt wx S (vT n) (.agg #[.int .i64 2, .string ⟨#[]⟩, .int .i64 n, .slice none 0 0]) :=
  TAt.make rfl (Nat.le_refl _) (Nat.zero_le _) (fun _ => ⟨rfl, rfl⟩) (by rw [TRow]; trivial) (by decide) hn
theorem L2.app1 (h : L2 F R w p1 pv1 c1 p2 pv2 c2 σ τ wx) {n : Int} (hn : (Lit.int .i64 n).wf = true) : Calls Tryd.prog 16 #[.pointer (some ⟨p1, 0, none⟩), .agg #[.int .i64 2, .string ⟨#[]⟩, .int .i64 n, .slice none 0 0]] wx (ApplyP (applyF σ (vT n)) wx) := by
  obtain ⟨cur, t1⟩ := h.t1
  exact typ_Apply F p1 pv1 c1 σ cur (vT n) _ wx t1 h.ok1 (var_t hn)
theorem L2.app2 (h : L2 F R w p1 pv1 c1 p2 pv2 c2 σ τ wx) {n : Int} (hn : (Lit.int .i64 n).wf = true) : Calls Tryd.prog 16 #[.pointer (some ⟨p2, 0, none⟩), .agg #[.int .i64 2, .string ⟨#[]⟩, .int .i64 n, .slice none 0 0]] wx (ApplyP (applyF τ (vT n)) wx) := by
  obtain ⟨cur, t2⟩ := h.t2
  exact typ_Apply F p2 pv2 c2 τ cur (vT n) _ wx t2 h.ok2 (var_t hn)
end
theorem most_end {R n c : Nat} {A : Option Addr} {xs : List Value} {vb : Value} {σ : Sg} {s : ByteArray} {wx : World} (h : Bn R (mostL σ n) n (.slice A n c) xs vb wx) : TAt wx (fun b => b < wx.heap.size) (allT s (mostL σ n)) (.agg #[.int .i64 4, .string s, .int .i64 0, .slice A n c]) := by
  obtain ⟨g1, g2, g3, g4, g5⟩ := h.done
  exact TAt.make g1 g2 g3 g4 (g5.mono (fun b _ hl => hl)) (by decide) (by decide)
end Go.Proofs.YtnlifgcnmhakiaaDoor
