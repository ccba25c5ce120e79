/-
  THE DOCUMENT's NAMES IN MEMORY: four rows behind one pointer; append as one step, wherever the literals were built.
-/
import Derived.Test.YtnlifgcnmhakiaaDoorTFresh
import Derived.Test.YtnlifgcnmhakiaaDoorTOfL
namespace Go.Proofs.YtnlifgcnmhakiaaDoor
open Go.ChangeShapes Go.WideShapes Go.ChangeAt Go.RowKit

theorem al1 (X : World) (o : Obj) : Below X.heap.size X (X.alloc o) := (Below.refl _ _).alloc (Nat.le_refl _) _
theorem al2 (X : World) (o o2 : Obj) : Below X.heap.size X ((X.alloc o).alloc o2) := (al1 X o).alloc (by simp) _
theorem al3 (X : World) (o o2 o3 : Obj) : Below X.heap.size X (((X.alloc o).alloc o2).alloc o3) := (al2 X o o2).alloc (by simp; omega) _
theorem ad1 (X : World) (o : Obj) : Below X.heap.size X (X.alloc o).drew := (al1 X o).drew
theorem ad2 (X : World) (o o2 : Obj) : Below X.heap.size X ((X.alloc o).alloc o2).drew := (al2 X o o2).drew
theorem ad3 (X : World) (o o2 o3 : Obj) : Below X.heap.size X (((X.alloc o).alloc o2).alloc o3).drew := (al3 X o o2 o3).drew
section
variable (X : World) (t t2 t3 : TypeId) (c c2 c3 : Array Value) (o o2 : Obj)
theorem bk10 : Blk (X.alloc (.cells c t)) X.heap.size t c := Blk.new _ _ _
theorem bk20 : Blk ((X.alloc (.cells c t)).alloc o) X.heap.size t c := (Blk.new _ _ _).alloc _
theorem bk21 : Blk ((X.alloc o).alloc (.cells c t)) (X.heap.size + 1) t c := Blk.new' (by simp) _ _
theorem bk30 : Blk (((X.alloc (.cells c t)).alloc o).alloc o2) X.heap.size t c := ((Blk.new _ _ _).alloc _).alloc _
theorem bk31 : Blk (((X.alloc o).alloc (.cells c t)).alloc o2) (X.heap.size + 1) t c := (Blk.new' (by simp) _ _).alloc _
theorem bk32 : Blk (((X.alloc o).alloc o2).alloc (.cells c t)) (X.heap.size + 1 + 1) t c := Blk.new' (by simp) _ _
end
theorem own_ne {w : World} {B1 B2 n1 n2 sz1 sz2 : Nat} {T1 T2 : TypeId} {v1 v2 : Value} {x1 x2 : List Value} (h1 : w.ownsRow B1 T1 sz1 v1 n1 x1) (h2 : w.ownsRow B2 T2 sz2 v2 n2 x2) (hT : T1 ≠ T2) : ∀ g, v1.ownBlock = some g → v2.ownBlock ≠ some g := by
  intro g e1 e2
  rcases h1.2 with ⟨rfl, _⟩ | ⟨g1, _, _, rfl, _, k1, _⟩
  · cases e1
  · rcases h2.2 with ⟨rfl, _⟩ | ⟨g2, _, _, rfl, _, k2, _⟩
    · cases e2
    · have a1 : g1 = g := by simpa [Value.ownBlock] using e1
      have a2 : g2 = g := by simpa [Value.ownBlock] using e2
      subst a1 a2
      rw [k1] at k2
      simp at k2
      exact hT k2.2
/-- Four rows. -/
structure RR (w : World) (p : Nat) (v1 v2 v3 v4 : Value) (n1 n2 n3 n4 : Nat) (x1 x2 x3 x4 : List Value) : Prop where
  r1 : w.ownsRow (p + 1) 3 1 v1 n1 x1
  r2 : w.ownsRow (p + 1) 9 1 v2 n2 x2
  r3 : w.ownsRow (p + 1) 9 1 v3 n3 x3
  r4 : w.ownsRow (p + 1) 3 1 v4 n4 x4
  s14 : ∀ g, v1.ownBlock = some g → v4.ownBlock ≠ some g
  s23 : ∀ g, v2.ownBlock = some g → v3.ownBlock ≠ some g
section
variable {w w' : World} {p : Nat} {v1 v2 v3 v4 : Value} {n1 n2 n3 n4 : Nat} {x1 x2 x3 x4 : List Value}
theorem RR.keep (h : RR w p v1 v2 v3 v4 n1 n2 n3 n4 x1 x2 x3 x4) (hk : ∀ g, p < g → g < w.heap.size → w'.heap[g]? = w.heap[g]?) : RR w' p v1 v2 v3 v4 n1 n2 n3 n4 x1 x2 x3 x4 :=
  ⟨row_keep h.r1 (fun g e => by have := h.r1.lt g e; exact hk g (by omega) (by omega)), row_keep h.r2 (fun g e => by have := h.r2.lt g e; exact hk g (by omega) (by omega)), row_keep h.r3 (fun g e => by have := h.r3.lt g e; exact hk g (by omega) (by omega)), row_keep h.r4 (fun g e => by have := h.r4.lt g e; exact hk g (by omega) (by omega)), h.s14, h.s23⟩
theorem RR.up (h : RR w p v1 v2 v3 v4 n1 n2 n3 n4 x1 x2 x3 x4) (hb : Below w.heap.size w w') : RR w' p v1 v2 v3 v4 n1 n2 n3 n4 x1 x2 x3 x4 := h.keep (fun g _ hl => hb.block g hl)
theorem RR.set (h : RR w p v1 v2 v3 v4 n1 n2 n3 n4 x1 x2 x3 x4) (j : Nat) (u : Value) : RR (w.setCell ⟨p, j, none⟩ u) p v1 v2 v3 v4 n1 n2 n3 n4 x1 x2 x3 x4 := h.keep (fun g hg _ => Below.heap_setCell _ ⟨p, j, none⟩ _ g (by dsimp only; omega))
theorem int_str_ne : (3 : TypeId) ≠ 9 := by decide
theorem RR.app1 {v' : Value} {xs : List Value} {n : Nat} (h : RR w p v1 v2 v3 v4 n1 n2 n3 n4 x1 x2 x3 x4) (hr : w'.ownsRow (p + 1) 3 1 v' n xs) (hk : Kept (fun b => v1.ownBlock = some b) w w') (hn : ∀ g, v'.ownBlock = some g → v1.ownBlock = some g ∨ w.heap.size ≤ g) : RR w' p v' v2 v3 v4 n n2 n3 n4 xs x2 x3 x4 :=
  ⟨hr, row_keep h.r2 (fun g e => hk.block g (h.r2.lt g e).2 (fun e2 => own_ne h.r1 h.r2 int_str_ne g e2 e)), row_keep h.r3 (fun g e => hk.block g (h.r3.lt g e).2 (fun e2 => own_ne h.r1 h.r3 int_str_ne g e2 e)), row_keep h.r4 (fun g e => hk.block g (h.r4.lt g e).2 (fun e2 => h.s14 g e2 e)),
    fun g e e2 => (hn g e).elim (fun e3 => h.s14 g e3 e2) (fun e3 => by have := (h.r4.lt g e2).2; omega), h.s23⟩
theorem RR.app2 {v' : Value} {xs : List Value} {n : Nat} (h : RR w p v1 v2 v3 v4 n1 n2 n3 n4 x1 x2 x3 x4) (hr : w'.ownsRow (p + 1) 9 1 v' n xs) (hk : Kept (fun b => v2.ownBlock = some b) w w') (hn : ∀ g, v'.ownBlock = some g → v2.ownBlock = some g ∨ w.heap.size ≤ g) : RR w' p v1 v' v3 v4 n1 n n3 n4 x1 xs x3 x4 :=
  ⟨row_keep h.r1 (fun g e => hk.block g (h.r1.lt g e).2 (fun e2 => own_ne h.r1 h.r2 int_str_ne g e e2)), hr, row_keep h.r3 (fun g e => hk.block g (h.r3.lt g e).2 (fun e2 => h.s23 g e2 e)), row_keep h.r4 (fun g e => hk.block g (h.r4.lt g e).2 (fun e2 => own_ne h.r4 h.r2 int_str_ne g e e2)),
    h.s14, fun g e e2 => (hn g e).elim (fun e3 => h.s23 g e3 e2) (fun e3 => by have := (h.r3.lt g e2).2; omega)⟩
theorem RR.app3 {v' : Value} {xs : List Value} {n : Nat} (h : RR w p v1 v2 v3 v4 n1 n2 n3 n4 x1 x2 x3 x4) (hr : w'.ownsRow (p + 1) 9 1 v' n xs) (hk : Kept (fun b => v3.ownBlock = some b) w w') (hn : ∀ g, v'.ownBlock = some g → v3.ownBlock = some g ∨ w.heap.size ≤ g) : RR w' p v1 v2 v' v4 n1 n2 n n4 x1 x2 xs x4 :=
  ⟨row_keep h.r1 (fun g e => hk.block g (h.r1.lt g e).2 (fun e2 => own_ne h.r1 h.r3 int_str_ne g e e2)), row_keep h.r2 (fun g e => hk.block g (h.r2.lt g e).2 (fun e2 => h.s23 g e e2)), hr, row_keep h.r4 (fun g e => hk.block g (h.r4.lt g e).2 (fun e2 => own_ne h.r4 h.r3 int_str_ne g e e2)),
    h.s14, fun g e e2 => (hn g e2).elim (fun e3 => h.s23 g e e3) (fun e3 => by have := (h.r2.lt g e).2; omega)⟩
theorem RR.app4 {v' : Value} {xs : List Value} {n : Nat} (h : RR w p v1 v2 v3 v4 n1 n2 n3 n4 x1 x2 x3 x4) (hr : w'.ownsRow (p + 1) 3 1 v' n xs) (hk : Kept (fun b => v4.ownBlock = some b) w w') (hn : ∀ g, v'.ownBlock = some g → v4.ownBlock = some g ∨ w.heap.size ≤ g) : RR w' p v1 v2 v3 v' n1 n2 n3 n x1 x2 x3 xs :=
  ⟨row_keep h.r1 (fun g e => hk.block g (h.r1.lt g e).2 (fun e2 => h.s14 g e e2)), row_keep h.r2 (fun g e => hk.block g (h.r2.lt g e).2 (fun e2 => own_ne h.r4 h.r2 int_str_ne g e2 e)), row_keep h.r3 (fun g e => hk.block g (h.r3.lt g e).2 (fun e2 => own_ne h.r4 h.r3 int_str_ne g e2 e)), hr,
    fun g e e2 => (hn g e2).elim (fun e3 => h.s14 g e e3) (fun e3 => by have := (h.r1.lt g e).2; omega), h.s23⟩
end
theorem info_str : InfoIs Tryd.prog 9 (.string ⟨#[]⟩) 1 16 := by unfold InfoIs; kernel_rfl
theorem info_int1 : InfoIs Tryd.prog 3 (.int .i64 0) 1 8 := by unfold InfoIs; kernel_rfl
/-- append of one value as a step: W is X with literals more. -/
theorem ap_core {TS TE : TypeId} {z : Value} {by_ : Nat} (hu : Tryd.prog.underlying TS = some (.slice TE)) (hinfo : InfoIs Tryd.prog TE z 1 by_) (hzc : z.cells.size = 1) (hby : by_ ≤ 100) {X W : World} (hb : Below X.heap.size X W)
    {ops : Array Oper} {o : Oper} {a : Act} {K : Act → World → Prop} {Q : Exit → Act → World → Prop} {E : Prop} (hgd : o.guard = none) (s x : Operand) (ho : o.op = .call { callee := .builtin .append, args := #[s, x], argTypes := #[TS, TS] })
    {B : Nat} {v : Value} {n : Nat} {xs : List Value} (hs : a.eval s = v) (hown : X.ownsRow B TE 1 v n xs) {g : Nat} {u : Value} (hx : a.eval x = .slice (some ⟨g, 0, none⟩) 1 1) (hL : Blk W g TE #[u]) (h1 : u.oneCell' = true) (hlen : n + 1 ≤ 1000000) (hB : B ≤ X.heap.size)
    (h : ∀ v' w', w'.ownsRow B TE 1 v' (n + 1) (xs ++ [u]) → Kept (fun b => v.ownBlock = some b) X w' → (∀ g, v'.ownBlock = some g → v.ownBlock = some g ∨ X.heap.size ≤ g) → (∀ j t c, Blk W j t c → v.ownBlock ≠ some j → Blk w' j t c) → K (a.put o.dst v') w') :
    if Region.wanted o (yielded ops a.tmps) = true then Oper.wp Tryd.prog o a W K Q else E :=
  step_appG hu hinfo hzc (by omega) hby hgd s x ho B hs (row_keep hown (fun g hg => hb.block g (hown.lt g hg).2)) hx (news := [u]) rfl
    (fun j y hj => by
      cases j with
      | zero => simp at hj; subst hj; exact hL.cell 0
      | succ j => simp at hj) (by simpa using h1) hlen (Nat.le_trans hB hb.size)
    (fun v' w' hr hg hn => h v' w' hr ((Kept.of_below hb _).grown hg (fun k e => .inl e)) (fun g e => (hn g e).imp id (fun e => Nat.le_trans hb.size e)) (fun j t c hj hne => hj.grown hg (fun e => hne e.symm)))
end Go.Proofs.YtnlifgcnmhakiaaDoor
