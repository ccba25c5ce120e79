/-
  append AS ONE STEP, FOR EACH PLACE AT WHICH LITERALS WERE BUILT BESIDE IT.
-/
import Derived.Test.YtnlifgcnmhakiaaDoorTRNam
namespace Go.Proofs.YtnlifgcnmhakiaaDoor
open Go.ChangeShapes Go.WideShapes Go.ChangeAt Go.RowKit

theorem ap_ne {X : World} {B n sz j : Nat} {TE : TypeId} {v : Value} {xs : List Value} (h : X.ownsRow B TE sz v n xs) (hj : X.heap.size ≤ j) : v.ownBlock ≠ some j := fun e => by have := h.lt j e; omega
theorem le_1 (n : Nat) : n ≤ n + 1 := by omega
theorem le_2 (n : Nat) : n ≤ n + 1 + 1 := by omega
theorem ap_d1 {TS TE : TypeId} {z : Value} {by_ : Nat} (hu : Tryd.prog.underlying TS = some (.slice TE)) (hinfo : InfoIs Tryd.prog TE z 1 by_) (hzc : z.cells.size = 1) (hby : by_ ≤ 100) {X W : World} {u : Value}  (hW : W = (X.alloc (.cells #[u] TE)).drew)
    {ops : Array Oper} {o : Oper} {a : Act} {K : Act → World → Prop} {Q : Exit → Act → World → Prop} {E : Prop} (hgd : o.guard = none) (s x : Operand) (ho : o.op = .call { callee := .builtin .append, args := #[s, x], argTypes := #[TS, TS] })
    {B : Nat} {v : Value} {n : Nat} {xs : List Value} (hs : a.eval s = v) (hown : X.ownsRow B TE 1 v n xs)  (hx : a.eval x = .slice (some ⟨X.heap.size, 0, none⟩) 1 1) (h1 : u.oneCell' = true) (hlen : n + 1 ≤ 1000000) (hB : B ≤ X.heap.size)
    (h : ∀ v' w', w'.ownsRow B TE 1 v' (n + 1) (xs ++ [u]) → Kept (fun b => v.ownBlock = some b) X w' → (∀ g, v'.ownBlock = some g → v.ownBlock = some g ∨ X.heap.size ≤ g) → (∀ j t c, Blk X j t c → v.ownBlock ≠ some j → Blk w' j t c) → True → K (a.put o.dst v') w') :
    if Region.wanted o (yielded ops a.tmps) = true then Oper.wp Tryd.prog o a W K Q else E := by
  subst hW
  exact ap_core hu hinfo hzc hby (ad1 _ _) hgd s x ho hs hown hx ((bk10 X TE #[u]).drew) h1 hlen hB (fun v' w' r1 r2 r3 r4 => h v' w' r1 r2 r3 (fun j t c hj hn => r4 j t c (hj.below (ad1 _ _) hj.lt) hn) (trivial))
theorem ap_d20 {TS TE : TypeId} {z : Value} {by_ : Nat} (hu : Tryd.prog.underlying TS = some (.slice TE)) (hinfo : InfoIs Tryd.prog TE z 1 by_) (hzc : z.cells.size = 1) (hby : by_ ≤ 100) {X W : World} {u : Value} {t : TypeId} {c : Array Value} (hW : W = ((X.alloc (.cells #[u] TE)).alloc (.cells c t)).drew)
    {ops : Array Oper} {o : Oper} {a : Act} {K : Act → World → Prop} {Q : Exit → Act → World → Prop} {E : Prop} (hgd : o.guard = none) (s x : Operand) (ho : o.op = .call { callee := .builtin .append, args := #[s, x], argTypes := #[TS, TS] })
    {B : Nat} {v : Value} {n : Nat} {xs : List Value} (hs : a.eval s = v) (hown : X.ownsRow B TE 1 v n xs)  (hx : a.eval x = .slice (some ⟨X.heap.size, 0, none⟩) 1 1) (h1 : u.oneCell' = true) (hlen : n + 1 ≤ 1000000) (hB : B ≤ X.heap.size)
    (h : ∀ v' w', w'.ownsRow B TE 1 v' (n + 1) (xs ++ [u]) → Kept (fun b => v.ownBlock = some b) X w' → (∀ g, v'.ownBlock = some g → v.ownBlock = some g ∨ X.heap.size ≤ g) → (∀ j t c, Blk X j t c → v.ownBlock ≠ some j → Blk w' j t c) → (Blk w' (X.heap.size + 1) t c ∧ X.heap.size ≤ X.heap.size + 1) → K (a.put o.dst v') w') :
    if Region.wanted o (yielded ops a.tmps) = true then Oper.wp Tryd.prog o a W K Q else E := by
  subst hW
  exact ap_core hu hinfo hzc hby (ad2 _ _ _) hgd s x ho hs hown hx ((bk20 X TE #[u] _).drew) h1 hlen hB (fun v' w' r1 r2 r3 r4 => h v' w' r1 r2 r3 (fun j t c hj hn => r4 j t c (hj.below (ad2 _ _ _) hj.lt) hn) (⟨r4 _ _ _ (bk21 X t c _).drew (ap_ne hown (le_1 _)), le_1 _⟩))
theorem ap_d21 {TS TE : TypeId} {z : Value} {by_ : Nat} (hu : Tryd.prog.underlying TS = some (.slice TE)) (hinfo : InfoIs Tryd.prog TE z 1 by_) (hzc : z.cells.size = 1) (hby : by_ ≤ 100) {X W : World} {u : Value} {t : TypeId} {c : Array Value} (hW : W = ((X.alloc (.cells c t)).alloc (.cells #[u] TE)).drew)
    {ops : Array Oper} {o : Oper} {a : Act} {K : Act → World → Prop} {Q : Exit → Act → World → Prop} {E : Prop} (hgd : o.guard = none) (s x : Operand) (ho : o.op = .call { callee := .builtin .append, args := #[s, x], argTypes := #[TS, TS] })
    {B : Nat} {v : Value} {n : Nat} {xs : List Value} (hs : a.eval s = v) (hown : X.ownsRow B TE 1 v n xs)  (hx : a.eval x = .slice (some ⟨X.heap.size + 1, 0, none⟩) 1 1) (h1 : u.oneCell' = true) (hlen : n + 1 ≤ 1000000) (hB : B ≤ X.heap.size)
    (h : ∀ v' w', w'.ownsRow B TE 1 v' (n + 1) (xs ++ [u]) → Kept (fun b => v.ownBlock = some b) X w' → (∀ g, v'.ownBlock = some g → v.ownBlock = some g ∨ X.heap.size ≤ g) → (∀ j t c, Blk X j t c → v.ownBlock ≠ some j → Blk w' j t c) → (Blk w' X.heap.size t c ∧ X.heap.size ≤ X.heap.size) → K (a.put o.dst v') w') :
    if Region.wanted o (yielded ops a.tmps) = true then Oper.wp Tryd.prog o a W K Q else E := by
  subst hW
  exact ap_core hu hinfo hzc hby (ad2 _ _ _) hgd s x ho hs hown hx ((bk21 X TE #[u] _).drew) h1 hlen hB (fun v' w' r1 r2 r3 r4 => h v' w' r1 r2 r3 (fun j t c hj hn => r4 j t c (hj.below (ad2 _ _ _) hj.lt) hn) (⟨r4 _ _ _ (bk20 X t c _).drew (ap_ne hown (Nat.le_refl _)), Nat.le_refl _⟩))
theorem ap_d30 {TS TE : TypeId} {z : Value} {by_ : Nat} (hu : Tryd.prog.underlying TS = some (.slice TE)) (hinfo : InfoIs Tryd.prog TE z 1 by_) (hzc : z.cells.size = 1) (hby : by_ ≤ 100) {X W : World} {u : Value} {t t2 : TypeId} {c c2 : Array Value} (hW : W = (((X.alloc (.cells #[u] TE)).alloc (.cells c t)).alloc (.cells c2 t2)).drew)
    {ops : Array Oper} {o : Oper} {a : Act} {K : Act → World → Prop} {Q : Exit → Act → World → Prop} {E : Prop} (hgd : o.guard = none) (s x : Operand) (ho : o.op = .call { callee := .builtin .append, args := #[s, x], argTypes := #[TS, TS] })
    {B : Nat} {v : Value} {n : Nat} {xs : List Value} (hs : a.eval s = v) (hown : X.ownsRow B TE 1 v n xs)  (hx : a.eval x = .slice (some ⟨X.heap.size, 0, none⟩) 1 1) (h1 : u.oneCell' = true) (hlen : n + 1 ≤ 1000000) (hB : B ≤ X.heap.size)
    (h : ∀ v' w', w'.ownsRow B TE 1 v' (n + 1) (xs ++ [u]) → Kept (fun b => v.ownBlock = some b) X w' → (∀ g, v'.ownBlock = some g → v.ownBlock = some g ∨ X.heap.size ≤ g) → (∀ j t c, Blk X j t c → v.ownBlock ≠ some j → Blk w' j t c) → ((Blk w' (X.heap.size + 1) t c ∧ X.heap.size ≤ X.heap.size + 1) ∧ (Blk w' (X.heap.size + 1 + 1) t2 c2 ∧ X.heap.size ≤ X.heap.size + 1 + 1)) → K (a.put o.dst v') w') :
    if Region.wanted o (yielded ops a.tmps) = true then Oper.wp Tryd.prog o a W K Q else E := by
  subst hW
  exact ap_core hu hinfo hzc hby (ad3 _ _ _ _) hgd s x ho hs hown hx ((bk30 X TE #[u] _ _).drew) h1 hlen hB (fun v' w' r1 r2 r3 r4 => h v' w' r1 r2 r3 (fun j t c hj hn => r4 j t c (hj.below (ad3 _ _ _ _) hj.lt) hn) (⟨⟨r4 _ _ _ (bk31 X t c _ _).drew (ap_ne hown (le_1 _)), le_1 _⟩, ⟨r4 _ _ _ (bk32 X t2 c2 _ _).drew (ap_ne hown (le_2 _)), le_2 _⟩⟩))
theorem ap_d31 {TS TE : TypeId} {z : Value} {by_ : Nat} (hu : Tryd.prog.underlying TS = some (.slice TE)) (hinfo : InfoIs Tryd.prog TE z 1 by_) (hzc : z.cells.size = 1) (hby : by_ ≤ 100) {X W : World} {u : Value} {t t2 : TypeId} {c c2 : Array Value} (hW : W = (((X.alloc (.cells c t)).alloc (.cells #[u] TE)).alloc (.cells c2 t2)).drew)
    {ops : Array Oper} {o : Oper} {a : Act} {K : Act → World → Prop} {Q : Exit → Act → World → Prop} {E : Prop} (hgd : o.guard = none) (s x : Operand) (ho : o.op = .call { callee := .builtin .append, args := #[s, x], argTypes := #[TS, TS] })
    {B : Nat} {v : Value} {n : Nat} {xs : List Value} (hs : a.eval s = v) (hown : X.ownsRow B TE 1 v n xs)  (hx : a.eval x = .slice (some ⟨X.heap.size + 1, 0, none⟩) 1 1) (h1 : u.oneCell' = true) (hlen : n + 1 ≤ 1000000) (hB : B ≤ X.heap.size)
    (h : ∀ v' w', w'.ownsRow B TE 1 v' (n + 1) (xs ++ [u]) → Kept (fun b => v.ownBlock = some b) X w' → (∀ g, v'.ownBlock = some g → v.ownBlock = some g ∨ X.heap.size ≤ g) → (∀ j t c, Blk X j t c → v.ownBlock ≠ some j → Blk w' j t c) → ((Blk w' X.heap.size t c ∧ X.heap.size ≤ X.heap.size) ∧ (Blk w' (X.heap.size + 1 + 1) t2 c2 ∧ X.heap.size ≤ X.heap.size + 1 + 1)) → K (a.put o.dst v') w') :
    if Region.wanted o (yielded ops a.tmps) = true then Oper.wp Tryd.prog o a W K Q else E := by
  subst hW
  exact ap_core hu hinfo hzc hby (ad3 _ _ _ _) hgd s x ho hs hown hx ((bk31 X TE #[u] _ _).drew) h1 hlen hB (fun v' w' r1 r2 r3 r4 => h v' w' r1 r2 r3 (fun j t c hj hn => r4 j t c (hj.below (ad3 _ _ _ _) hj.lt) hn) (⟨⟨r4 _ _ _ (bk30 X t c _ _).drew (ap_ne hown (Nat.le_refl _)), Nat.le_refl _⟩, ⟨r4 _ _ _ (bk32 X t2 c2 _ _).drew (ap_ne hown (le_2 _)), le_2 _⟩⟩))
theorem ap_d32 {TS TE : TypeId} {z : Value} {by_ : Nat} (hu : Tryd.prog.underlying TS = some (.slice TE)) (hinfo : InfoIs Tryd.prog TE z 1 by_) (hzc : z.cells.size = 1) (hby : by_ ≤ 100) {X W : World} {u : Value} {t t2 : TypeId} {c c2 : Array Value} (hW : W = (((X.alloc (.cells c t)).alloc (.cells c2 t2)).alloc (.cells #[u] TE)).drew)
    {ops : Array Oper} {o : Oper} {a : Act} {K : Act → World → Prop} {Q : Exit → Act → World → Prop} {E : Prop} (hgd : o.guard = none) (s x : Operand) (ho : o.op = .call { callee := .builtin .append, args := #[s, x], argTypes := #[TS, TS] })
    {B : Nat} {v : Value} {n : Nat} {xs : List Value} (hs : a.eval s = v) (hown : X.ownsRow B TE 1 v n xs)  (hx : a.eval x = .slice (some ⟨X.heap.size + 1 + 1, 0, none⟩) 1 1) (h1 : u.oneCell' = true) (hlen : n + 1 ≤ 1000000) (hB : B ≤ X.heap.size)
    (h : ∀ v' w', w'.ownsRow B TE 1 v' (n + 1) (xs ++ [u]) → Kept (fun b => v.ownBlock = some b) X w' → (∀ g, v'.ownBlock = some g → v.ownBlock = some g ∨ X.heap.size ≤ g) → (∀ j t c, Blk X j t c → v.ownBlock ≠ some j → Blk w' j t c) → ((Blk w' X.heap.size t c ∧ X.heap.size ≤ X.heap.size) ∧ (Blk w' (X.heap.size + 1) t2 c2 ∧ X.heap.size ≤ X.heap.size + 1)) → K (a.put o.dst v') w') :
    if Region.wanted o (yielded ops a.tmps) = true then Oper.wp Tryd.prog o a W K Q else E := by
  subst hW
  exact ap_core hu hinfo hzc hby (ad3 _ _ _ _) hgd s x ho hs hown hx ((bk32 X TE #[u] _ _).drew) h1 hlen hB (fun v' w' r1 r2 r3 r4 => h v' w' r1 r2 r3 (fun j t c hj hn => r4 j t c (hj.below (ad3 _ _ _ _) hj.lt) hn) (⟨⟨r4 _ _ _ (bk30 X t c _ _).drew (ap_ne hown (Nat.le_refl _)), Nat.le_refl _⟩, ⟨r4 _ _ _ (bk31 X t2 c2 _ _).drew (ap_ne hown (le_1 _)), le_1 _⟩⟩))
theorem ap_n0 {TS TE : TypeId} {z : Value} {by_ : Nat} (hu : Tryd.prog.underlying TS = some (.slice TE)) (hinfo : InfoIs Tryd.prog TE z 1 by_) (hzc : z.cells.size = 1) (hby : by_ ≤ 100) {X W : World} {u : Value}  (hW : W = X)
    {ops : Array Oper} {o : Oper} {a : Act} {K : Act → World → Prop} {Q : Exit → Act → World → Prop} {E : Prop} (hgd : o.guard = none) (s x : Operand) (ho : o.op = .call { callee := .builtin .append, args := #[s, x], argTypes := #[TS, TS] })
    {B : Nat} {v : Value} {n : Nat} {xs : List Value} (hs : a.eval s = v) (hown : X.ownsRow B TE 1 v n xs) {g0 : Nat} (hL : Blk X g0 TE #[u]) (hx : a.eval x = .slice (some ⟨g0, 0, none⟩) 1 1) (h1 : u.oneCell' = true) (hlen : n + 1 ≤ 1000000) (hB : B ≤ X.heap.size)
    (h : ∀ v' w', w'.ownsRow B TE 1 v' (n + 1) (xs ++ [u]) → Kept (fun b => v.ownBlock = some b) X w' → (∀ g, v'.ownBlock = some g → v.ownBlock = some g ∨ X.heap.size ≤ g) → (∀ j t c, Blk X j t c → v.ownBlock ≠ some j → Blk w' j t c) → True → K (a.put o.dst v') w') :
    if Region.wanted o (yielded ops a.tmps) = true then Oper.wp Tryd.prog o a W K Q else E := by
  subst hW
  exact ap_core hu hinfo hzc hby (Below.refl _ _) hgd s x ho hs hown hx (hL) h1 hlen hB (fun v' w' r1 r2 r3 r4 => h v' w' r1 r2 r3 (fun j t c hj hn => r4 j t c (hj.below (Below.refl _ _) hj.lt) hn) (trivial))
theorem ap_n1 {TS TE : TypeId} {z : Value} {by_ : Nat} (hu : Tryd.prog.underlying TS = some (.slice TE)) (hinfo : InfoIs Tryd.prog TE z 1 by_) (hzc : z.cells.size = 1) (hby : by_ ≤ 100) {X W : World} {u : Value}  (hW : W = X.alloc (.cells #[u] TE))
    {ops : Array Oper} {o : Oper} {a : Act} {K : Act → World → Prop} {Q : Exit → Act → World → Prop} {E : Prop} (hgd : o.guard = none) (s x : Operand) (ho : o.op = .call { callee := .builtin .append, args := #[s, x], argTypes := #[TS, TS] })
    {B : Nat} {v : Value} {n : Nat} {xs : List Value} (hs : a.eval s = v) (hown : X.ownsRow B TE 1 v n xs)  (hx : a.eval x = .slice (some ⟨X.heap.size, 0, none⟩) 1 1) (h1 : u.oneCell' = true) (hlen : n + 1 ≤ 1000000) (hB : B ≤ X.heap.size)
    (h : ∀ v' w', w'.ownsRow B TE 1 v' (n + 1) (xs ++ [u]) → Kept (fun b => v.ownBlock = some b) X w' → (∀ g, v'.ownBlock = some g → v.ownBlock = some g ∨ X.heap.size ≤ g) → (∀ j t c, Blk X j t c → v.ownBlock ≠ some j → Blk w' j t c) → True → K (a.put o.dst v') w') :
    if Region.wanted o (yielded ops a.tmps) = true then Oper.wp Tryd.prog o a W K Q else E := by
  subst hW
  exact ap_core hu hinfo hzc hby (al1 _ _) hgd s x ho hs hown hx (bk10 X TE #[u]) h1 hlen hB (fun v' w' r1 r2 r3 r4 => h v' w' r1 r2 r3 (fun j t c hj hn => r4 j t c (hj.below (al1 _ _) hj.lt) hn) (trivial))
theorem ap_n1o {TS TE : TypeId} {z : Value} {by_ : Nat} (hu : Tryd.prog.underlying TS = some (.slice TE)) (hinfo : InfoIs Tryd.prog TE z 1 by_) (hzc : z.cells.size = 1) (hby : by_ ≤ 100) {X W : World} {u : Value} {t : TypeId} {c : Array Value} (hW : W = X.alloc (.cells c t))
    {ops : Array Oper} {o : Oper} {a : Act} {K : Act → World → Prop} {Q : Exit → Act → World → Prop} {E : Prop} (hgd : o.guard = none) (s x : Operand) (ho : o.op = .call { callee := .builtin .append, args := #[s, x], argTypes := #[TS, TS] })
    {B : Nat} {v : Value} {n : Nat} {xs : List Value} (hs : a.eval s = v) (hown : X.ownsRow B TE 1 v n xs) {g0 : Nat} (hL : Blk X g0 TE #[u]) (hx : a.eval x = .slice (some ⟨g0, 0, none⟩) 1 1) (h1 : u.oneCell' = true) (hlen : n + 1 ≤ 1000000) (hB : B ≤ X.heap.size)
    (h : ∀ v' w', w'.ownsRow B TE 1 v' (n + 1) (xs ++ [u]) → Kept (fun b => v.ownBlock = some b) X w' → (∀ g, v'.ownBlock = some g → v.ownBlock = some g ∨ X.heap.size ≤ g) → (∀ j t c, Blk X j t c → v.ownBlock ≠ some j → Blk w' j t c) → (Blk w' X.heap.size t c ∧ X.heap.size ≤ X.heap.size) → K (a.put o.dst v') w') :
    if Region.wanted o (yielded ops a.tmps) = true then Oper.wp Tryd.prog o a W K Q else E := by
  subst hW
  exact ap_core hu hinfo hzc hby (al1 _ _) hgd s x ho hs hown hx (hL.alloc _) h1 hlen hB (fun v' w' r1 r2 r3 r4 => h v' w' r1 r2 r3 (fun j t c hj hn => r4 j t c (hj.below (al1 _ _) hj.lt) hn) (⟨r4 _ _ _ (bk10 X t c) (ap_ne hown (Nat.le_refl _)), Nat.le_refl _⟩))
theorem ap_n20 {TS TE : TypeId} {z : Value} {by_ : Nat} (hu : Tryd.prog.underlying TS = some (.slice TE)) (hinfo : InfoIs Tryd.prog TE z 1 by_) (hzc : z.cells.size = 1) (hby : by_ ≤ 100) {X W : World} {u : Value} {t : TypeId} {c : Array Value} (hW : W = (X.alloc (.cells #[u] TE)).alloc (.cells c t))
    {ops : Array Oper} {o : Oper} {a : Act} {K : Act → World → Prop} {Q : Exit → Act → World → Prop} {E : Prop} (hgd : o.guard = none) (s x : Operand) (ho : o.op = .call { callee := .builtin .append, args := #[s, x], argTypes := #[TS, TS] })
    {B : Nat} {v : Value} {n : Nat} {xs : List Value} (hs : a.eval s = v) (hown : X.ownsRow B TE 1 v n xs)  (hx : a.eval x = .slice (some ⟨X.heap.size, 0, none⟩) 1 1) (h1 : u.oneCell' = true) (hlen : n + 1 ≤ 1000000) (hB : B ≤ X.heap.size)
    (h : ∀ v' w', w'.ownsRow B TE 1 v' (n + 1) (xs ++ [u]) → Kept (fun b => v.ownBlock = some b) X w' → (∀ g, v'.ownBlock = some g → v.ownBlock = some g ∨ X.heap.size ≤ g) → (∀ j t c, Blk X j t c → v.ownBlock ≠ some j → Blk w' j t c) → (Blk w' (X.heap.size + 1) t c ∧ X.heap.size ≤ X.heap.size + 1) → K (a.put o.dst v') w') :
    if Region.wanted o (yielded ops a.tmps) = true then Oper.wp Tryd.prog o a W K Q else E := by
  subst hW
  exact ap_core hu hinfo hzc hby (al2 _ _ _) hgd s x ho hs hown hx (bk20 X TE #[u] _) h1 hlen hB (fun v' w' r1 r2 r3 r4 => h v' w' r1 r2 r3 (fun j t c hj hn => r4 j t c (hj.below (al2 _ _ _) hj.lt) hn) (⟨r4 _ _ _ (bk21 X t c _) (ap_ne hown (le_1 _)), le_1 _⟩))
theorem ap_n21 {TS TE : TypeId} {z : Value} {by_ : Nat} (hu : Tryd.prog.underlying TS = some (.slice TE)) (hinfo : InfoIs Tryd.prog TE z 1 by_) (hzc : z.cells.size = 1) (hby : by_ ≤ 100) {X W : World} {u : Value} {t : TypeId} {c : Array Value} (hW : W = (X.alloc (.cells c t)).alloc (.cells #[u] TE))
    {ops : Array Oper} {o : Oper} {a : Act} {K : Act → World → Prop} {Q : Exit → Act → World → Prop} {E : Prop} (hgd : o.guard = none) (s x : Operand) (ho : o.op = .call { callee := .builtin .append, args := #[s, x], argTypes := #[TS, TS] })
    {B : Nat} {v : Value} {n : Nat} {xs : List Value} (hs : a.eval s = v) (hown : X.ownsRow B TE 1 v n xs)  (hx : a.eval x = .slice (some ⟨X.heap.size + 1, 0, none⟩) 1 1) (h1 : u.oneCell' = true) (hlen : n + 1 ≤ 1000000) (hB : B ≤ X.heap.size)
    (h : ∀ v' w', w'.ownsRow B TE 1 v' (n + 1) (xs ++ [u]) → Kept (fun b => v.ownBlock = some b) X w' → (∀ g, v'.ownBlock = some g → v.ownBlock = some g ∨ X.heap.size ≤ g) → (∀ j t c, Blk X j t c → v.ownBlock ≠ some j → Blk w' j t c) → (Blk w' X.heap.size t c ∧ X.heap.size ≤ X.heap.size) → K (a.put o.dst v') w') :
    if Region.wanted o (yielded ops a.tmps) = true then Oper.wp Tryd.prog o a W K Q else E := by
  subst hW
  exact ap_core hu hinfo hzc hby (al2 _ _ _) hgd s x ho hs hown hx (bk21 X TE #[u] _) h1 hlen hB (fun v' w' r1 r2 r3 r4 => h v' w' r1 r2 r3 (fun j t c hj hn => r4 j t c (hj.below (al2 _ _ _) hj.lt) hn) (⟨r4 _ _ _ (bk20 X t c _) (ap_ne hown (Nat.le_refl _)), Nat.le_refl _⟩))
end Go.Proofs.YtnlifgcnmhakiaaDoor
