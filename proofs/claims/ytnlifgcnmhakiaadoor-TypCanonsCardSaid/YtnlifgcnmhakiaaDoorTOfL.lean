/-
  WHAT A RENAMING TURNS IN MEMORY; A ROW OF RENAMED TYPES THAT IS BEING BUILT.
-/
import Derived.Test.YtnlifgcnmhakiaaDoorTNames
namespace Go.Proofs.YtnlifgcnmhakiaaDoor
open Go.ChangeShapes Go.WideShapes Go.ChangeAt Go.RowKit

/-- From w to w' only the names' struct and their row have turned. -/
structure TT (p : Nat) (w : World) (va : Value) (w' : World) (va' : Value) : Prop where
  kept : Kept (fun b => b = p ∨ va.ownBlock = some b) w w'
  new : ∀ g, va'.ownBlock = some g → va.ownBlock = some g ∨ w.heap.size ≤ g
theorem TT.refl (p : Nat) (w : World) (va : Value) : TT p w va w va := ⟨Kept.refl _ _, fun _ h => .inl h⟩
theorem TT.trans {p : Nat} {w w1 w2 : World} {va va1 va2 : Value} (h : TT p w va w1 va1) (k : TT p w1 va1 w2 va2) : TT p w va w2 va2 :=
  ⟨h.kept.then k.kept (fun _ _ e => e) (fun b hb e => e.elim .inl (fun e => .inr ((h.new b e).resolve_right (by omega)))), fun g e => (k.new g e).elim (fun e => h.new g e) (fun e => .inr (Nat.le_trans h.kept.size e))⟩
theorem TT.after {p : Nat} {w w1 w2 : World} {va va1 : Value} (h : TT p w va w1 va1) (hb : Below w1.heap.size w1 w2) : TT p w va w2 va1 := ⟨Kept.after hb h.kept, h.new⟩
theorem TT.own {p : Nat} {w w1 w2 : World} {va va1 : Value} {S : Nat → Prop} (h : TT p w va w1 va1) (hk : Kept S w1 w2) (hS : ∀ g, S g → w.heap.size ≤ g) : TT p w va w2 va1 :=
  ⟨h.kept.then hk (fun _ _ e => e) (fun b hb e => by have := hS b e; omega), h.new⟩
theorem TT.pre {p : Nat} {w w1 w2 : World} {va va1 : Value} (h : TT p w1 va w2 va1) (hb : Below w.heap.size w w1) : TT p w va w2 va1 :=
  (TT.refl p w va).after hb |>.trans h
/-- The row lies off two boxes. -/
def Far (v : Value) (n : Nat) : Prop := ∀ g, v.ownBlock = some g → g < n ∨ n + 2 ≤ g
theorem Far.of {w : World} {p n : Nat} {ks : List (ByteArray × Int)} {v : Value} (h : NL w p ks v) (hn : w.heap.size ≤ n) : Far v n := fun g e => by have := h.row.lt g e; omega
theorem Far.tt {p n : Nat} {w w1 : World} {va va1 : Value} (h : Far va n) (k : TT p w va w1 va1) (hn : n + 2 ≤ w.heap.size) : Far va1 n := fun g e => (k.new g e).elim (h g) (fun e => by omega)
theorem tt_box {p n j : Nat} {w w1 : World} {va va1 : Value} {t : TypeId} {cs : Array Value} (h : Blk w j t cs) (k : TT p w va w1 va1) (hf : Far va n) (hj : j = n ∨ j = n + 1) (hp : p < n) : Blk w1 j t cs :=
  h.kept k.kept (fun e => e.elim (fun e => by omega) (fun e => by have := hf _ e; omega))
theorem tt_type {p : Nat} {w w1 : World} {va va1 : Value} {ks : List (ByteArray × Int)} {us : List Ty} {A : Option Addr} (h : TRow w (fun b => b < p) us A 0) (hn : NL w p ks va) (k : TT p w va w1 va1) : TRow w1 (fun b => b < p) us A 0 :=
  h.kept k.kept (fun b hb e => e.elim (fun e => by omega) (fun e => by have := hn.row.lt _ e; omega))
/-- A row of renamed types that is being built. -/
structure Bn (R : Nat) (rs : List Ty) (i : Nat) (v : Value) (xs : List Value) (va : Value) (wr : World) : Prop where
  len : rs.length = i
  row : wr.ownsRow R 24 4 v i xs
  sep : ∀ g, v.ownBlock = some g → va.ownBlock ≠ some g
  kids : ∀ j, (hj : j < rs.length) → ∃ v0 v1 v2 v3, xs[j * 4]? = some v0 ∧ xs[j * 4 + 1]? = some v1 ∧ xs[j * 4 + 2]? = some v2 ∧ xs[j * 4 + 3]? = some v3 ∧ TAt wr (fun b => R ≤ b ∧ v.ownBlock ≠ some b ∧ va.ownBlock ≠ some b) rs[j] (.agg #[v0, v1, v2, v3])
theorem Bn.start (w : World) (R : Nat) (va : Value) : Bn R [] 0 (.slice none 0 0) [] va w := ⟨rfl, World.ownsRow_nil _ _ _ _, fun g e => by simp [Value.ownBlock] at e, fun j hj => by simp at hj⟩
theorem Bn.row1 {R p : Nat} {rs : List Ty} {i : Nat} {v va va1 : Value} {xs : List Value} {wr w1 : World} (h : Bn R rs i v xs va wr) (hp : p < R) (ht : TT p wr va w1 va1) : w1.ownsRow R 24 4 v i xs :=
  row_keep h.row (fun g hg => by have := h.row.lt g hg; exact ht.kept.block g (by omega) (fun e => e.elim (fun e => by omega) (fun e => h.sep g hg e)))
theorem Bn.next {R p : Nat} {rs : List Ty} {r : Ty} {i : Nat} {v va va1 v' : Value} {xs : List Value} {wr w1 w2 : World} {o : Obj} {v0 v1 v2 v3 : Value} (h : Bn R rs i v xs va wr) (hR : R ≤ wr.heap.size) (hp : p < R) (ht : TT p wr va w1 va1)
    (hk : TAt w1 (fun b => wr.heap.size ≤ b ∧ va1.ownBlock ≠ some b) r (.agg #[v0, v1, v2, v3])) (hn1 : ∀ g, va1.ownBlock = some g → g < w1.heap.size)
    (hr : w2.ownsRow R 24 4 v' (i + 1) (xs ++ [v0, v1, v2, v3])) (hg : (w1.alloc o).grownBy w2 v.ownBlock) (hn : ∀ g, v'.ownBlock = some g → v.ownBlock = some g ∨ (w1.alloc o).heap.size ≤ g) :
    Bn R (rs ++ [r]) (i + 1) v' (xs ++ [v0, v1, v2, v3]) va1 w2 ∧ Kept (fun b => v.ownBlock = some b) w1 w2 := by
  have hsz : (w1.alloc o).heap.size = w1.heap.size + 1 := by simp
  have hs1 := ht.kept.size
  have hlen : xs.length = i * 4 := h.row.1
  have hil := h.len
  have hgb : ∀ g, v.ownBlock = some g → g < wr.heap.size ∧ R ≤ g := fun g hg => by have := h.row.lt g hg; omega
  have hall : ∀ k, k < w1.heap.size → v.ownBlock ≠ some k → w2.heap[k]? = w1.heap[k]? := fun k hk hne => (hg.block k (by omega) (fun e => hne e.symm)).trans (Below.heap_alloc _ _ _ hk)
  refine ⟨⟨by simp [hil], hr, ?_, ?_⟩, ?_⟩
  · intro g e e2
    have h3 := hn1 g e2
    rcases hn g e with e | e
    · rcases ht.new g e2 with e2 | e2
      · exact h.sep g e e2
      · have := hgb g e; omega
    · omega
  · intro j hj
    by_cases hjj : j < rs.length
    · obtain ⟨u0, u1, u2, u3, e0, e1, e2, e3, hv⟩ := h.kids j hjj
      refine ⟨u0, u1, u2, u3, by rw [List.getElem?_append_left (by omega)]; exact e0, by rw [List.getElem?_append_left (by omega)]; exact e1, by rw [List.getElem?_append_left (by omega)]; exact e2, by rw [List.getElem?_append_left (by omega)]; exact e3, ?_⟩
      rw [List.getElem_append_left hjj]
      refine hv.keep (fun k hk1 hk2 => ⟨(hall k (by omega) hk1.2.1).trans (ht.kept.block k hk2 (fun e => e.elim (fun e => by omega) hk1.2.2)), hk1.1, fun e => ?_, fun e => ?_⟩)
      · rcases hn k e with e | e
        · exact hk1.2.1 e
        · omega
      · rcases ht.new k e with e | e
        · exact hk1.2.2 e
        · omega
    · obtain rfl : j = rs.length := by simp at hj; omega
      refine ⟨v0, v1, v2, v3, by rw [List.getElem?_append_right (by omega)]; simp [hlen, hil], by rw [List.getElem?_append_right (by omega)]; simp [hlen, hil], by rw [List.getElem?_append_right (by omega)]; simp [hlen, hil], by rw [List.getElem?_append_right (by omega)]; simp [hlen, hil], ?_⟩
      rw [List.getElem_append_right (Nat.le_refl _)]
      simp only [Nat.sub_self, List.getElem_cons_zero]
      refine hk.keep (fun k hk1 hk2 => ⟨hall k hk2 (fun e => by have := hgb k e; omega), by omega, fun e => ?_, hk1.2⟩)
      rcases hn k e with e | e
      · have := hgb k e; omega
      · omega
  · exact ((Kept.refl _ w1).alloc o).grown hg (fun k e => .inl e)
theorem Bn.done {R : Nat} {rs : List Ty} {n m c : Nat} {A : Option Addr} {xs : List Value} {va : Value} {w : World} (h : Bn R rs n (.slice A m c) xs va w) : m = rs.length ∧ rs.length ≤ c ∧ c ≤ maxLen ∧ (A = none → rs = [] ∧ c = 0) ∧ TRow w (fun b => R ≤ b ∧ va.ownBlock ≠ some b) rs A 0 := by
  obtain ⟨A5, c5, e5, l1, l2, l3, l4⟩ := row_slice h.row
  have hl := h.len
  injection e5 with e6 e8 e7
  subst e6 e7 e8
  subst hl
  refine ⟨rfl, l1, l2, fun h => ⟨List.length_eq_zero_iff.1 (l3 h).1, (l3 h).2⟩, ?_⟩
  cases hA : A with
  | none =>
    have : rs = [] := List.length_eq_zero_iff.1 (l3 hA).1
    rw [this, TRow]; trivial
  | some a =>
    subst hA
    have hab := h.row.lt a.block rfl
    obtain ⟨h1, h2⟩ := l4 a rfl
    have ha : a = ⟨a.block, 0, none⟩ := by obtain ⟨x, y, z⟩ := a; simp_all
    have hcell : ∀ j u, xs[j]? = some u → w.cell? (a.add j) = some u := by rw [ha]; exact h.row.cells (g := a.block) rfl
    refine TRow.mk ⟨by omega, h.sep _ rfl⟩ rs 0 (fun j hj => ?_)
    rw [Nat.zero_add]
    obtain ⟨u0, u1, u2, u3, e0, e1, e2, e3, hv⟩ := h.kids j hj
    refine ⟨u0, u1, u2, u3, hcell _ _ e0, ?_, ?_, ?_, hv.mono (fun k hk _ => ⟨hk.1, hk.2.2⟩)⟩
    · rw [add_four _ _ _ (by omega)]; exact hcell _ _ e1
    · rw [add_four _ _ _ (by omega)]; exact hcell _ _ e2
    · rw [add_four _ _ _ (by omega)]; exact hcell _ _ e3
theorem Bn.names {R p : Nat} {rs : List Ty} {i : Nat} {v va va1 : Value} {xs : List Value} {wr w1 w2 : World} {ks : List (ByteArray × Int)} (h : Bn R rs i v xs va wr) (hp : p < R) (ht : TT p wr va w1 va1) (hn : NL w1 p ks va1) (K : Kept (fun b => v.ownBlock = some b) w1 w2) : NL w2 p ks va1 :=
  hn.keep (fun b hb hs => K.block b hb (fun e => by
    have h1 := h.row.lt b e
    rcases hs with hs | hs
    · omega
    · rcases ht.new b hs with h2 | h2
      · exact h.sep b e h2
      · omega))
theorem row_some {w : World} {B n : Nat} {v : Value} {xs : List Value} (h : w.ownsRow B 24 4 v (n + 1) xs) : ∃ g c, v = .slice (some ⟨g, 0, none⟩) (n + 1) c ∧ n + 1 ≤ c := by
  obtain ⟨A, c, rfl, h1, _, h3, h4⟩ := row_slice h
  cases A with
  | none => have := (h3 rfl).1; omega
  | some a =>
    obtain ⟨e1, e2⟩ := h4 a rfl
    exact ⟨a.block, c, by obtain ⟨x, y, z⟩ := a; simp_all, h1⟩
theorem NL.app {p : Nat} {w1 wL w2 : World} {ks : List (ByteArray × Int)} {va v' : Value} {s : ByteArray} {m : Int} (h : NL w1 p ks va) (hL : Below w1.heap.size w1 wL) (hr : w2.ownsRow (p + 1) 24 4 v' (ks.length + 1) (flatK ks ++ [.int .i64 2, .string s, .int .i64 m, .slice none 0 0]))
    (hg : wL.grownBy w2 va.ownBlock) (hn : ∀ g, v'.ownBlock = some g → va.ownBlock = some g ∨ wL.heap.size ≤ g) : NL (w2.setCell ⟨p, 0, none⟩ v') p (ks ++ [(s, m)]) v' ∧ TT p w1 va (w2.setCell ⟨p, 0, none⟩ v') v' ∧ Blk w2 p 53 #[va] := by
  have hlt := h.blk.lt
  have hsz := hL.size
  have hb2 : Blk w2 p 53 #[va] := (h.blk.below hL hlt).grown hg (fun e => by have := h.row.lt _ e.symm; omega)
  refine ⟨⟨hb2.set0 _, ?_⟩, ⟨(((Kept.of_below hL _).grown hg (fun k e => .inl (.inr e))).setCell (p := ⟨p, 0, none⟩) (.inl (.inl rfl)) _), fun g e => ?_⟩, hb2⟩
  · rw [flatK_append, List.length_append]
    exact row_keep hr (fun g hg => Below.heap_setCell _ ⟨p, 0, none⟩ _ g (by have := hr.lt g hg; dsimp only; omega))
  · rcases hn g e with e | e
    · exact .inl e
    · exact .inr (by omega)
/-- append of a zero, and the type stored behind it. -/
theorem NL.appA {p g c : Nat} {w1 wL w2 : World} {ks : List (ByteArray × Int)} {va u0 u1 u2 u3 : Value} {s : ByteArray} {m : Int} (h : NL w1 p ks va) (hL : Below w1.heap.size w1 wL) (hr : w2.ownsRow (p + 1) 24 4 (.slice (some ⟨g, 0, none⟩) (ks.length + 1) c) (ks.length + 1) (flatK ks ++ [u0, u1, u2, u3]))
    (hg : wL.grownBy w2 va.ownBlock) (hn : ∀ b, (Value.slice (some ⟨g, 0, none⟩) (ks.length + 1) c).ownBlock = some b → va.ownBlock = some b ∨ wL.heap.size ≤ b) :
    let W := (((((w2.setCell ⟨p, 0, none⟩ (.slice (some ⟨g, 0, none⟩) (ks.length + 1) c)).setCell ⟨g, ks.length * 4, none⟩ (.int .i64 2)).setCell ⟨g, ks.length * 4 + 1, none⟩ (.string s)).setCell ⟨g, ks.length * 4 + 2, none⟩ (.int .i64 m)).setCell ⟨g, ks.length * 4 + 3, none⟩ (.slice none 0 0))
    NL W p (ks ++ [(s, m)]) (.slice (some ⟨g, 0, none⟩) (ks.length + 1) c) ∧ TT p w1 va W (.slice (some ⟨g, 0, none⟩) (ks.length + 1) c) ∧ (∀ b, b < w1.heap.size → b ≠ p → va.ownBlock ≠ some b → W.heap[b]? = w1.heap[b]?) := by
  intro W
  have hlt := h.blk.lt
  have hsz := hL.size
  have hgl := hr.lt g rfl
  have hgn := hn g rfl
  have hb2 : Blk w2 p 53 #[va] := (h.blk.below hL hlt).grown hg (fun e => by have := h.row.lt _ e.symm; omega)
  have hlen : (flatK ks).length = ks.length * 4 := h.row.1
  have r1 := row_keep (w' := w2.setCell ⟨p, 0, none⟩ (.slice (some ⟨g, 0, none⟩) (ks.length + 1) c)) hr (fun b hb => Below.heap_setCell _ ⟨p, 0, none⟩ _ b (by have := hr.lt b hb; dsimp only; omega))
  have r5 := ((((r1.stored (ks.length * 4) (.int .i64 2)).1.stored (ks.length * 4 + 1) (.string s)).1.stored (ks.length * 4 + 2) (.int .i64 m)).1.stored (ks.length * 4 + 3) (.slice none 0 0)).1
  have e5 : ((((flatK ks ++ [u0, u1, u2, u3]).set (ks.length * 4) (.int .i64 2)).set (ks.length * 4 + 1) (.string s)).set (ks.length * 4 + 2) (.int .i64 m)).set (ks.length * 4 + 3) (.slice none 0 0) = flatK (ks ++ [(s, m)]) := by
    rw [flatK_append, ← hlen]
    simp [flatK]
  rw [e5] at r5
  have key : ∀ b, b ≠ p → b ≠ g → W.heap[b]? = w2.heap[b]? := fun b h1 h2 =>
    (Below.heap_setCell _ ⟨g, ks.length * 4 + 3, none⟩ _ b h2).trans ((Below.heap_setCell _ ⟨g, ks.length * 4 + 2, none⟩ _ b h2).trans ((Below.heap_setCell _ ⟨g, ks.length * 4 + 1, none⟩ _ b h2).trans ((Below.heap_setCell _ ⟨g, ks.length * 4, none⟩ _ b h2).trans (Below.heap_setCell _ ⟨p, 0, none⟩ _ b h1))))
  have hpg : p ≠ g := by omega
  have bp : Blk W p 53 #[.slice (some ⟨g, 0, none⟩) (ks.length + 1) c] := ((((hb2.set0 _).far (p := ⟨g, ks.length * 4, none⟩) hpg _).far (p := ⟨g, ks.length * 4 + 1, none⟩) hpg _).far (p := ⟨g, ks.length * 4 + 2, none⟩) hpg _).far (p := ⟨g, ks.length * 4 + 3, none⟩) hpg _
  have hSg : va.ownBlock = some g ∨ w1.heap.size ≤ g := hgn.imp id (fun e => by omega)
  have hSg2 : (g = p ∨ va.ownBlock = some g) ∨ w1.heap.size ≤ g := hSg.imp .inr id
  refine ⟨⟨bp, by rw [List.length_append]; exact r5⟩, ⟨?_, fun b e => ?_⟩, fun b hb h1 h2 => ?_⟩
  · exact (((((((Kept.of_below hL _).grown hg (fun k e => .inl (.inr e))).setCell (p := ⟨p, 0, none⟩) (.inl (.inl rfl)) _).setCell (p := ⟨g, ks.length * 4, none⟩) hSg2 _).setCell (p := ⟨g, ks.length * 4 + 1, none⟩) hSg2 _).setCell (p := ⟨g, ks.length * 4 + 2, none⟩) hSg2 _).setCell (p := ⟨g, ks.length * 4 + 3, none⟩) hSg2 _)
  · rcases hn b e with e | e
    · exact .inl e
    · exact .inr (by omega)
  · exact (key b h1 (fun e => by subst e; exact hSg.elim h2 (fun e => by omega))).trans ((hg.block b (by omega) (fun e => h2 e.symm)).trans (hL.block b hb))
/-- One more. -/
theorem Bn.step {p : Nat} {w wr w1 w2 : World} {rs : List Ty} {r : Ty} {i : Nat} {v va vb vb1 v' : Value} {xs : List Value} {ks1 : List (ByteArray × Int)} {o : Obj} {v0 v1 v2 v3 : Value} {cs1 cs2 : Array Value} {t1 t2 : TypeId}
    (h : Bn (w.heap.size + 2) rs i v xs vb wr) (hp : p < w.heap.size) (hb1 : Blk wr w.heap.size t1 cs1) (hb2 : Blk wr (w.heap.size + 1) t2 cs2) (hT : TT p w va wr vb) (hF : Far vb w.heap.size) (ht : TT p wr vb w1 vb1)
    (hk : TAt w1 (fun b => wr.heap.size ≤ b ∧ vb1.ownBlock ≠ some b) r (.agg #[v0, v1, v2, v3])) (hN : NL w1 p ks1 vb1)
    (hr : w2.ownsRow (w.heap.size + 2) 24 4 v' (i + 1) (xs ++ [v0, v1, v2, v3])) (hg : (w1.alloc o).grownBy w2 v.ownBlock) (hn : ∀ g, v'.ownBlock = some g → v.ownBlock = some g ∨ (w1.alloc o).heap.size ≤ g) :
    Bn (w.heap.size + 2) (rs ++ [r]) (i + 1) v' (xs ++ [v0, v1, v2, v3]) vb1 w2 ∧ NL w2 p ks1 vb1 ∧ TT p w va w2 vb1 ∧ Far vb1 w.heap.size ∧ Blk w2 w.heap.size t1 cs1 ∧ Blk w2 (w.heap.size + 1) t2 cs2 := by
  have hlt := hb2.lt
  obtain ⟨h1, h2⟩ := h.next (by omega) (by omega) ht hk (fun g hg => (hN.row.lt g hg).2) hr hg hn
  have hgb : ∀ g, v.ownBlock = some g → w.heap.size + 2 ≤ g := fun g hg => (h.row.lt g hg).1
  exact ⟨h1, h.names (by omega) ht hN h2, (hT.trans ht).own h2 (fun g hg => by have := hgb g hg; omega), hF.tt ht (by omega),
    (tt_box hb1 ht hF (.inl rfl) hp).kept h2 (fun e => by have := hgb _ e; omega), (tt_box hb2 ht hF (.inr rfl) hp).kept h2 (fun e => by have := hgb _ e; omega)⟩
/-- The end. -/
theorem Bn.end_ {p n : Nat} {w wr w' : World} {rs : List Ty} {i m c : Nat} {A : Option Addr} {va vb : Value} {xs : List Value} {ks1 : List (ByteArray × Int)} {q k : Int} {s : ByteArray} (h : Bn (n + 2) rs i (.slice A m c) xs vb wr) (hN : NL wr p ks1 vb) (hT : TT p w va wr vb) (hF : Far vb n) (hn : n = w.heap.size) (hp : p < n)
    (K : Kept (fun b => b = n ∨ b = n + 1) wr w') (hq : (Lit.int .i64 q).wf = true) (hk : (Lit.int .i64 k).wf = true) :
    TAt w' (fun b => w.heap.size ≤ b ∧ vb.ownBlock ≠ some b) (.mk q s k rs) (.agg #[.int .i64 q, .string s, .int .i64 k, .slice A m c]) ∧ NL w' p ks1 vb ∧ TT p w va w' vb := by
  obtain ⟨g1, g2, g3, g4, g5⟩ := h.done
  refine ⟨TAt.make g1 g2 g3 g4 (TRow.keep (fun b hb hl => ⟨K.block b hl (fun e => by have := hb.1; omega), by have := hb.1; omega, hb.2⟩) _ _ _ g5) hq hk, hN.keep (fun b hb hs => K.block b hb (fun e => ?_)), hT.own K (fun g hg => by omega)⟩
  rcases hs with hs | hs
  · omega
  · have := hF b hs; omega
theorem NL.two {p n : Nat} {w : World} {ks : List (ByteArray × Int)} {va : Value} (h : NL w p ks va) (hF : Far va n) (hp : p < n) (x y : Value) : NL ((w.setCell ⟨n, 1, none⟩ x).setCell ⟨n, 2, none⟩ y) p ks va :=
  h.keep (fun b _ hs => (Below.heap_setCell _ ⟨n, 2, none⟩ _ b (by dsimp only; rcases hs with hs | hs; omega; have := hF b hs; omega)).trans (Below.heap_setCell _ ⟨n, 1, none⟩ _ b (by dsimp only; rcases hs with hs | hs; omega; have := hF b hs; omega)))
theorem NL.one {p n j : Nat} {w : World} {ks : List (ByteArray × Int)} {va : Value} (h : NL w p ks va) (hF : Far va n) (hp : p < n) (x : Value) : NL (w.setCell ⟨n, j, none⟩ x) p ks va :=
  h.keep (fun b _ hs => (Below.heap_setCell _ ⟨n, j, none⟩ _ b (by dsimp only; rcases hs with hs | hs; omega; have := hF b hs; omega)))
theorem TT.one {p n j : Nat} {w w1 : World} {va va1 : Value} (h : TT p w va w1 va1) (hn : w.heap.size ≤ n) (x : Value) : TT p w va (w1.setCell ⟨n, j, none⟩ x) va1 :=
  h.own ((Kept.refl (fun b => b = n) w1).setCell (p := ⟨n, j, none⟩) (.inl rfl) x) (fun g e => by omega)
def OfP (p : Nat) (t : Ty) (ks : List (ByteArray × Int)) (va : Value) (w : World) (e : Ending) (w' : World) : Prop :=
  ∃ vr va', e = .returned vr ∧ TAt w' (fun b => w.heap.size ≤ b ∧ va'.ownBlock ≠ some b) (canF ks t).2 vr ∧ NL w' p (canF ks t).1 va' ∧ TT p w va w' va'
def OfC (p N : Nat) : Prop := ∀ (t : Ty) (ks : List (ByteArray × Int)) (va v : Value) (w : World), SizeOf.sizeOf t ≤ N → TAt w (fun b => b < p) t v → NL w p ks va → ks.length + nodes t ≤ 1050 →
  Calls Tryd.prog 24 #[.pointer (some ⟨p, 0, none⟩), v] w (OfP p t ks va w)
end Go.Proofs.YtnlifgcnmhakiaaDoor
