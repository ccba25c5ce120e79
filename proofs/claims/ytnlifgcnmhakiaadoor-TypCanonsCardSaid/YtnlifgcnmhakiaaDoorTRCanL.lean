/-
  WHAT THE DOCUMENT's RENAMING TURNS IN MEMORY; A ROW OF RENAMED TYPES THAT IS BEING BUILT.
-/
import Derived.Test.YtnlifgcnmhakiaaDoorTRGetB
namespace Go.Proofs.YtnlifgcnmhakiaaDoor
open Go.ChangeShapes Go.WideShapes Go.ChangeAt Go.RowKit

theorem RR.keep2 {w w' : World} {p : Nat} {v1 v2 v3 v4 : Value} {n1 n2 n3 n4 : Nat} {x1 x2 x3 x4 : List Value} (h : RR w p v1 v2 v3 v4 n1 n2 n3 n4 x1 x2 x3 x4) (hk : ∀ g, g < w.heap.size → own4 v1 v2 v3 v4 g → w'.heap[g]? = w.heap[g]?) : RR w' p v1 v2 v3 v4 n1 n2 n3 n4 x1 x2 x3 x4 :=
  ⟨row_keep h.r1 (fun g e => hk g (h.r1.lt g e).2 (.inl e)), row_keep h.r2 (fun g e => hk g (h.r2.lt g e).2 (.inr (.inl e))), row_keep h.r3 (fun g e => hk g (h.r3.lt g e).2 (.inr (.inr (.inl e)))), row_keep h.r4 (fun g e => hk g (h.r4.lt g e).2 (.inr (.inr (.inr e)))), h.s14, h.s23⟩
theorem RNs.keep {w w' : World} {p : Nat} {es : List (ByteArray × Int)} {v1 v2 v3 v4 : Value} (h : RNs w p es v1 v2 v3 v4) (hk : ∀ g, g < w.heap.size → (g = p ∨ own4 v1 v2 v3 v4 g) → w'.heap[g]? = w.heap[g]?) : RNs w' p es v1 v2 v3 v4 :=
  ⟨(hk p h.blk.lt (.inl rfl)).trans h.blk, h.rows.keep2 (fun g hl ho => hk g hl (.inr ho))⟩
structure RT (p : Nat) (w : World) (O : Nat → Prop) (w' : World) (O' : Nat → Prop) : Prop where
  kept : Kept (fun b => b = p ∨ O b) w w'
  new : ∀ g, O' g → O g ∨ w.heap.size ≤ g
theorem RT.refl (p : Nat) (w : World) (O : Nat → Prop) : RT p w O w O := ⟨Kept.refl _ _, fun _ h => .inl h⟩
theorem RT.trans {p : Nat} {w w1 w2 : World} {O O1 O2 : Nat → Prop} (h : RT p w O w1 O1) (k : RT p w1 O1 w2 O2) : RT p w O w2 O2 :=
  ⟨h.kept.then k.kept (fun _ _ e => e) (fun b hb e => e.elim .inl (fun e => .inr ((h.new b e).resolve_right (by omega)))), fun g e => (k.new g e).elim (fun e => h.new g e) (fun e => .inr (Nat.le_trans h.kept.size e))⟩
theorem RT.after {p : Nat} {w w1 w2 : World} {O O1 : Nat → Prop} (h : RT p w O w1 O1) (hb : Below w1.heap.size w1 w2) : RT p w O w2 O1 := ⟨Kept.after hb h.kept, h.new⟩
theorem RT.own {p : Nat} {w w1 w2 : World} {O O1 : Nat → Prop} {S : Nat → Prop} (h : RT p w O w1 O1) (hk : Kept S w1 w2) (hS : ∀ g, S g → w.heap.size ≤ g) : RT p w O w2 O1 :=
  ⟨h.kept.then hk (fun _ _ e => e) (fun b hb e => by have := hS b e; omega), h.new⟩
theorem RT.pre {p : Nat} {w w1 w2 : World} {O O1 : Nat → Prop} (h : RT p w1 O w2 O1) (hb : Below w.heap.size w w1) : RT p w O w2 O1 := ((RT.refl p w O).after hb).trans h
def FarO (O : Nat → Prop) (n : Nat) : Prop := ∀ g, O g → g < n ∨ n + 2 ≤ g
theorem FarO.of {w : World} {p n : Nat} {es : List (ByteArray × Int)} {v1 v2 v3 v4 : Value} (h : RNs w p es v1 v2 v3 v4) (hn : w.heap.size ≤ n) : FarO (own4 v1 v2 v3 v4) n := fun g e => by have := h.lt g e; omega
theorem FarO.tt {p n : Nat} {w w1 : World} {O O1 : Nat → Prop} (h : FarO O n) (k : RT p w O w1 O1) (hn : n + 2 ≤ w.heap.size) : FarO O1 n := fun g e => (k.new g e).elim (h g) (fun e => by omega)
theorem rt_box {p n j : Nat} {w w1 : World} {O O1 : Nat → Prop} {t : TypeId} {cs : Array Value} (h : Blk w j t cs) (k : RT p w O w1 O1) (hf : FarO O n) (hj : j = n ∨ j = n + 1) (hp : p < n) : Blk w1 j t cs :=
  h.kept k.kept (fun e => e.elim (fun e => by omega) (fun e => by have := hf _ e; omega))
theorem rt_type {p : Nat} {w w1 : World} {O1 : Nat → Prop} {es : List (ByteArray × Int)} {v1 v2 v3 v4 : Value} {us : List Ty} {A : Option Addr} (h : TRow w (fun b => b < p) us A 0) (hn : RNs w p es v1 v2 v3 v4) (k : RT p w (own4 v1 v2 v3 v4) w1 O1) : TRow w1 (fun b => b < p) us A 0 :=
  h.kept k.kept (fun b hb e => e.elim (fun e => by omega) (fun e => by have := hn.lt _ e; omega))
structure RBn (R : Nat) (rs : List Ty) (i : Nat) (v : Value) (xs : List Value) (O : Nat → Prop) (wr : World) : Prop where
  len : rs.length = i
  row : wr.ownsRow R 24 4 v i xs
  sep : ∀ g, v.ownBlock = some g → ¬ O g
  kids : ∀ j, (hj : j < rs.length) → ∃ v0 v1 v2 v3, xs[j * 4]? = some v0 ∧ xs[j * 4 + 1]? = some v1 ∧ xs[j * 4 + 2]? = some v2 ∧ xs[j * 4 + 3]? = some v3 ∧ TAt wr (fun b => R ≤ b ∧ v.ownBlock ≠ some b ∧ ¬ O b) rs[j] (.agg #[v0, v1, v2, v3])
theorem RBn.start (w : World) (R : Nat) (O : Nat → Prop) : RBn R [] 0 (.slice none 0 0) [] O w := ⟨rfl, World.ownsRow_nil _ _ _ _, fun g e => by simp [Value.ownBlock] at e, fun j hj => by simp at hj⟩
theorem RBn.row1 {R p : Nat} {rs : List Ty} {i : Nat} {v : Value} {O O1 : Nat → Prop} {xs : List Value} {wr w1 : World} (h : RBn R rs i v xs O wr) (hp : p < R) (ht : RT p wr O w1 O1) : w1.ownsRow R 24 4 v i xs :=
  row_keep h.row (fun g hg => by have := h.row.lt g hg; exact ht.kept.block g (by omega) (fun e => e.elim (fun e => by omega) (fun e => h.sep g hg e)))
theorem RBn.next {R p : Nat} {rs : List Ty} {r : Ty} {i : Nat} {v v' : Value} {O O1 : Nat → Prop} {xs : List Value} {wr w1 w2 : World} {o : Obj} {v0 v1 v2 v3 : Value} (h : RBn R rs i v xs O wr) (hR : R ≤ wr.heap.size) (hp : p < R) (ht : RT p wr O w1 O1)
    (hk : TAt w1 (fun b => wr.heap.size ≤ b ∧ ¬ O1 b) r (.agg #[v0, v1, v2, v3])) (hn1 : ∀ g, O1 g → g < w1.heap.size)
    (hr : w2.ownsRow R 24 4 v' (i + 1) (xs ++ [v0, v1, v2, v3])) (hg : (w1.alloc o).grownBy w2 v.ownBlock) (hn : ∀ g, v'.ownBlock = some g → v.ownBlock = some g ∨ (w1.alloc o).heap.size ≤ g) :
    RBn R (rs ++ [r]) (i + 1) v' (xs ++ [v0, v1, v2, v3]) O1 w2 ∧ Kept (fun b => v.ownBlock = some b) w1 w2 := by
  have hsz : (w1.alloc o).heap.size = w1.heap.size + 1 := by simp
  have hs1 := ht.kept.size
  have hlen : xs.length = i * 4 := h.row.1
  have hil := h.len
  have hgb : ∀ g, v.ownBlock = some g → g < wr.heap.size ∧ R ≤ g := fun g hg => by have := h.row.lt g hg; omega
  have hall : ∀ k, k < w1.heap.size → v.ownBlock ≠ some k → w2.heap[k]? = w1.heap[k]? := fun k hk hne => (hg.block k (by omega) (fun e => hne e.symm)).trans (Below.heap_alloc _ _ _ hk)
  refine ⟨⟨by simp [hil], hr, ?_, ?_⟩, ?_⟩
  · intro g e e2
    have h3 := hn1 g e2
    rcases hn g e with e | e
    · rcases ht.new g e2 with e2 | e2
      · exact h.sep g e e2
      · have := hgb g e; omega
    · omega
  · intro j hj
    by_cases hjj : j < rs.length
    · obtain ⟨u0, u1, u2, u3, e0, e1, e2, e3, hv⟩ := h.kids j hjj
      refine ⟨u0, u1, u2, u3, by rw [List.getElem?_append_left (by omega)]; exact e0, by rw [List.getElem?_append_left (by omega)]; exact e1, by rw [List.getElem?_append_left (by omega)]; exact e2, by rw [List.getElem?_append_left (by omega)]; exact e3, ?_⟩
      rw [List.getElem_append_left hjj]
      refine hv.keep (fun k hk1 hk2 => ⟨(hall k (by omega) hk1.2.1).trans (ht.kept.block k hk2 (fun e => e.elim (fun e => by omega) hk1.2.2)), hk1.1, fun e => ?_, fun e => ?_⟩)
      · rcases hn k e with e | e
        · exact hk1.2.1 e
        · omega
      · rcases ht.new k e with e | e
        · exact hk1.2.2 e
        · omega
    · obtain rfl : j = rs.length := by simp at hj; omega
      refine ⟨v0, v1, v2, v3, by rw [List.getElem?_append_right (by omega)]; simp [hlen, hil], by rw [List.getElem?_append_right (by omega)]; simp [hlen, hil], by rw [List.getElem?_append_right (by omega)]; simp [hlen, hil], by rw [List.getElem?_append_right (by omega)]; simp [hlen, hil], ?_⟩
      rw [List.getElem_append_right (Nat.le_refl _)]
      simp only [Nat.sub_self, List.getElem_cons_zero]
      refine hk.keep (fun k hk1 hk2 => ⟨hall k hk2 (fun e => by have := hgb k e; omega), by omega, fun e => ?_, hk1.2⟩)
      rcases hn k e with e | e
      · have := hgb k e; omega
      · omega
  · exact ((Kept.refl _ w1).alloc o).grown hg (fun k e => .inl e)
theorem RBn.done {R : Nat} {rs : List Ty} {n m c : Nat} {A : Option Addr} {xs : List Value} {O : Nat → Prop} {w : World} (h : RBn R rs n (.slice A m c) xs O w) : m = rs.length ∧ rs.length ≤ c ∧ c ≤ maxLen ∧ (A = none → rs = [] ∧ c = 0) ∧ TRow w (fun b => R ≤ b ∧ ¬ O b) rs A 0 := by
  obtain ⟨A5, c5, e5, l1, l2, l3, l4⟩ := row_slice h.row
  have hl := h.len
  injection e5 with e6 e8 e7
  subst e6 e7 e8
  subst hl
  refine ⟨rfl, l1, l2, fun h => ⟨List.length_eq_zero_iff.1 (l3 h).1, (l3 h).2⟩, ?_⟩
  cases hA : A with
  | none =>
    have : rs = [] := List.length_eq_zero_iff.1 (l3 hA).1
    rw [this, TRow]; trivial
  | some a =>
    subst hA
    have hab := h.row.lt a.block rfl
    obtain ⟨h1, h2⟩ := l4 a rfl
    have ha : a = ⟨a.block, 0, none⟩ := by obtain ⟨x, y, z⟩ := a; simp_all
    have hcell : ∀ j u, xs[j]? = some u → w.cell? (a.add j) = some u := by rw [ha]; exact h.row.cells (g := a.block) rfl
    refine TRow.mk ⟨by omega, h.sep _ rfl⟩ rs 0 (fun j hj => ?_)
    rw [Nat.zero_add]
    obtain ⟨u0, u1, u2, u3, e0, e1, e2, e3, hv⟩ := h.kids j hj
    refine ⟨u0, u1, u2, u3, hcell _ _ e0, ?_, ?_, ?_, hv.mono (fun k hk _ => ⟨hk.1, hk.2.2⟩)⟩
    · rw [add_four _ _ _ (by omega)]; exact hcell _ _ e1
    · rw [add_four _ _ _ (by omega)]; exact hcell _ _ e2
    · rw [add_four _ _ _ (by omega)]; exact hcell _ _ e3
theorem RBn.step {p : Nat} {w wr w1 w2 : World} {rs : List Ty} {r : Ty} {i : Nat} {v v' : Value} {O Ob : Nat → Prop} {xs : List Value} {es1 : List (ByteArray × Int)} {a1 a2 a3 a4 : Value} {o : Obj} {v0 v1 v2 v3 : Value} {cs1 cs2 : Array Value} {t1 t2 : TypeId}
    (h : RBn (w.heap.size + 2) rs i v xs Ob wr) (hp : p < w.heap.size) (hb1 : Blk wr w.heap.size t1 cs1) (hb2 : Blk wr (w.heap.size + 1) t2 cs2) (hT : RT p w O wr Ob) (hF : FarO Ob w.heap.size) (ht : RT p wr Ob w1 (own4 a1 a2 a3 a4))
    (hk : TAt w1 (fun b => wr.heap.size ≤ b ∧ ¬ own4 a1 a2 a3 a4 b) r (.agg #[v0, v1, v2, v3])) (hN : RNs w1 p es1 a1 a2 a3 a4)
    (hr : w2.ownsRow (w.heap.size + 2) 24 4 v' (i + 1) (xs ++ [v0, v1, v2, v3])) (hg : (w1.alloc o).grownBy w2 v.ownBlock) (hn : ∀ g, v'.ownBlock = some g → v.ownBlock = some g ∨ (w1.alloc o).heap.size ≤ g) :
    RBn (w.heap.size + 2) (rs ++ [r]) (i + 1) v' (xs ++ [v0, v1, v2, v3]) (own4 a1 a2 a3 a4) w2 ∧ RNs w2 p es1 a1 a2 a3 a4 ∧ RT p w O w2 (own4 a1 a2 a3 a4) ∧ FarO (own4 a1 a2 a3 a4) w.heap.size ∧ Blk w2 w.heap.size t1 cs1 ∧ Blk w2 (w.heap.size + 1) t2 cs2 := by
  have hlt := hb2.lt
  obtain ⟨h1, h2⟩ := h.next (by omega) (by omega) ht hk (fun g hg => (hN.lt g hg).2) hr hg hn
  have hgb : ∀ g, v.ownBlock = some g → w.heap.size + 2 ≤ g := fun g hg => (h.row.lt g hg).1
  refine ⟨h1, hN.keep (fun b hb hs => h2.block b hb (fun e => ?_)), (hT.trans ht).own h2 (fun g hg => by have := hgb g hg; omega), hF.tt ht (by omega),
    (rt_box hb1 ht hF (.inl rfl) hp).kept h2 (fun e => by have := hgb _ e; omega), (rt_box hb2 ht hF (.inr rfl) hp).kept h2 (fun e => by have := hgb _ e; omega)⟩
  have h3 := h.row.lt b e
  rcases hs with hs | hs
  · omega
  · rcases ht.new b hs with h4 | h4
    · exact h.sep b e h4
    · omega
theorem RBn.end_ {p n : Nat} {w wr w' : World} {rs : List Ty} {i m c : Nat} {A : Option Addr} {O : Nat → Prop} {xs : List Value} {es1 : List (ByteArray × Int)} {a1 a2 a3 a4 : Value} {q k : Int} {s : ByteArray} (h : RBn (n + 2) rs i (.slice A m c) xs (own4 a1 a2 a3 a4) wr) (hN : RNs wr p es1 a1 a2 a3 a4) (hT : RT p w O wr (own4 a1 a2 a3 a4)) (hF : FarO (own4 a1 a2 a3 a4) n) (hn : n = w.heap.size) (hp : p < n)
    (K : Kept (fun b => b = n ∨ b = n + 1) wr w') (hq : (Lit.int .i64 q).wf = true) (hk : (Lit.int .i64 k).wf = true) :
    TAt w' (fun b => w.heap.size ≤ b ∧ ¬ own4 a1 a2 a3 a4 b) (.mk q s k rs) (.agg #[.int .i64 q, .string s, .int .i64 k, .slice A m c]) ∧ RNs w' p es1 a1 a2 a3 a4 ∧ RT p w O w' (own4 a1 a2 a3 a4) := by
  obtain ⟨g1, g2, g3, g4, g5⟩ := h.done
  refine ⟨TAt.make g1 g2 g3 g4 (TRow.keep (fun b hb hl => ⟨K.block b hl (fun e => by have := hb.1; omega), by have := hb.1; omega, hb.2⟩) _ _ _ g5) hq hk, hN.keep (fun b hb hs => K.block b hb (fun e => ?_)), hT.own K (fun g hg => by omega)⟩
  rcases hs with hs | hs
  · omega
  · have := hF b hs; omega
def CnoP (p : Nat) (t : Ty) (es : List (ByteArray × Int)) (v1 v2 v3 v4 : Value) (w : World) (e : Ending) (w' : World) : Prop :=
  ∃ vr es' u1 u2 u3 u4, e = .returned vr ∧ TAt w' (fun b => w.heap.size ≤ b ∧ ¬ own4 u1 u2 u3 u4 b) (canF (keysOf es) t).2 vr ∧ RNs w' p es' u1 u2 u3 u4 ∧ keysOf es' = (canF (keysOf es) t).1 ∧ RT p w (own4 v1 v2 v3 v4) w' (own4 u1 u2 u3 u4)
def CnoC (p N : Nat) : Prop := ∀ (t : Ty) (es : List (ByteArray × Int)) (v1 v2 v3 v4 v : Value) (w : World), SizeOf.sizeOf t ≤ N → TAt w (fun b => b < p) t v → RNs w p es v1 v2 v3 v4 → es.length + nodes t ≤ 1050 →
  Calls Tryd.prog 27 #[.pointer (some ⟨p, 0, none⟩), v] w (CnoP p t es v1 v2 v3 v4 w)
end Go.Proofs.YtnlifgcnmhakiaaDoor
