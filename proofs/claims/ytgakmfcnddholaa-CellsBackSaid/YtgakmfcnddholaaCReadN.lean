/-
  THE WALK OF (*cells.reader).read: an object's value.
-/
import Derived.Test.YtgakmfcnddholaaCRead
import Derived.Deep.RegionLaw
namespace Go.Proofs.Ytgakmfcnddholaa
open Go.ChangeShapes Go.WideShapes Go.ChangeAt Go.RowKit

theorem step_appV {w : World} {ops : Array Oper} {o : Oper} {a : Act} {K : Act → World → Prop} {Q : Exit → Act → World → Prop} {E : Prop} (hgd : o.guard = none) (s x : Operand)
    (ho : o.op = .call { callee := .builtin .append, args := #[s, x], argTypes := #[31, 31] })
    (B : Nat) {v : Value} {n : Nat} {xs : List Value} (hs : a.eval s = v) (hown : w.ownsRow B 33 3 v n xs) {ad : Addr} {c : Nat} {news : List Value} (hx : a.eval x = .slice (some ad) 1 c) (hl : news.length = 3) (hcell : ∀ j u, news[j]? = some u → w.cell? (ad.add j) = some u) (h1 : ∀ u ∈ news, u.oneCell' = true)
    (hlen : n + 1 ≤ 1000000) (hB : B ≤ w.heap.size)
    (h : ∀ v' w', w'.ownsRow B 33 3 v' (n + 1) (xs ++ news) → w.grownBy w' v.ownBlock → (∀ g, v'.ownBlock = some g → v.ownBlock = some g ∨ w.heap.size ≤ g) → K (a.put o.dst v') w') : if Region.wanted o (yielded ops a.tmps) = true then Oper.wp Try.prog o a w K Q else E := by
  have hw : Region.wanted o (yielded ops a.tmps) = true := by simp [Region.wanted, hgd]
  rw [if_pos hw]
  obtain ⟨v', w', hr, r1, r2, r3⟩ := run_appV w o.type B hown hl hcell h1 hlen hB
  unfold Oper.wp execOp
  simp only [ho, resolve, invoke, builtin, Sem.run_bind, Sem.run_pure, Result.andThen_ok, List.map_toArray, List.map_cons, List.map_nil, hs, hx]
  rw [hr]
  exact h v' w' r1 r2 r3

theorem kidsF_left {f : Int → Int → Option (Tr × Int)} (hf : ∀ y l t l', f y l = some (t, l') → l' ≤ l) : ∀ (ys : List Int) (l : Int) (us : List Tr) (l' : Int), kidsF f ys l = some (us, l') → l' ≤ l
  | [], l, us, l', h => by simp only [kidsF, Option.some.injEq, Prod.mk.injEq] at h; omega
  | y :: ys, l, us, l', h => by
    rw [kidsF] at h
    cases h1 : f y l with
    | none => rw [h1] at h; simp at h
    | some r =>
      obtain ⟨t, l1⟩ := r
      rw [h1] at h
      dsimp only at h
      cases h2 : kidsF f ys l1 with
      | none => rw [h2] at h; simp at h
      | some r2 =>
        obtain ⟨us2, l2⟩ := r2
        rw [h2] at h
        simp only [Option.some.injEq, Prod.mk.injEq] at h
        have := hf _ _ _ _ h1
        have := kidsF_left hf ys l1 us2 l2 h2
        omega
/-- What read's loop keeps: f: the reader of a level below; ks: the words of the fields; l0: what was left ahead of them. -/
structure RInv (f : Int → Int → Option (Tr × Int)) (ks : List Int) (l0 : Int) (pr : Nat) (sl : Value) (tag : Int) (W : World) (i : Nat) (l : Int) (v : Value) (xs : List Value) (us : List Tr) (wr : World) : Prop where
  rd : Blk wr pr 68 #[sl, .int .i64 l]
  vb : Blk wr (W.heap.size + 1) 33 #[.bool false, .int .i64 tag, v]
  rb : Blk wr W.heap.size 33 #[.bool false, .int .i64 0, .slice none 0 0]
  row : wr.ownsRow (W.heap.size + 2) 33 3 v i xs
  kids : ∀ j, (hj : j < us.length) → ∃ v0 v1 v2, xs[j * 3]? = some v0 ∧ xs[j * 3 + 1]? = some v1 ∧ xs[j * 3 + 2]? = some v2 ∧ VAtS wr (fun b => W.heap.size + 2 ≤ b ∧ v.ownBlock ≠ some b) us[j] (.agg #[v0, v1, v2])
  ul : us.length = i
  kf : kidsF f ks l0 = match kidsF f (ks.drop i) l with
    | none => none
    | some (us2, l2) => some (us ++ us2, l2)
  kept : Kept (fun b => b = pr) W wr
  lb : 0 ≤ l ∧ l ≤ 2048
theorem RInv.next {f : Int → Int → Option (Tr × Int)} {ks : List Int} {l0 : Int} {pr : Nat} {sl : Value} {tag : Int} {W : World} {i : Nat} {l : Int} {v : Value} {xs : List Value} {us : List Tr} {wr : World} (h : RInv f ks l0 pr sl tag W i l v xs us wr)
    (hi : i < ks.length) (hpr : pr < W.heap.size) {w0 w1 w2 : World} {o : Obj} {v0 v1 v2 v' : Value} {t : Tr} {l1 : Int} (h0 : w0.heap = wr.heap) (h0o : w0.os = wr.os ∧ w0.tape = wr.tape ∧ w0.output = wr.output) (hf : f ks[i] l = some (t, l1)) (hl1 : 0 ≤ l1 ∧ l1 ≤ l)
    (hk : Kept (fun b => b = pr) w0 w1) (hv : VAtS w1 (fun b => w0.heap.size ≤ b) t (.agg #[v0, v1, v2])) (hrd : Blk w1 pr 68 #[sl, .int .i64 l1])
    (hr : w2.ownsRow (W.heap.size + 2) 33 3 v' (i + 1) (xs ++ [v0, v1, v2])) (hg : (w1.alloc o).grownBy w2 v.ownBlock) (hn : ∀ g, v'.ownBlock = some g → v.ownBlock = some g ∨ (w1.alloc o).heap.size ≤ g) :
    Blk w2 (W.heap.size + 1) 33 #[.bool false, .int .i64 tag, v] ∧ RInv f ks l0 pr sl tag W (i + 1) l1 v' (xs ++ [v0, v1, v2]) (us ++ [t]) (w2.setCell ⟨W.heap.size + 1, 2, none⟩ v') := by
  have hsz : (w1.alloc o).heap.size = w1.heap.size + 1 := by simp
  have hz0 : w0.heap.size = wr.heap.size := by rw [h0]
  have hs1 := hk.size
  have hlen : xs.length = i * 3 := h.row.1
  have hgb : ∀ g, v.ownBlock = some g → g < wr.heap.size ∧ W.heap.size + 2 ≤ g := fun g hg => by have := h.row.lt g hg; omega
  have hvb := h.vb.lt
  have hall : ∀ k, k < w1.heap.size → v.ownBlock ≠ some k → w2.heap[k]? = w1.heap[k]? := fun k hk1 hne => (hg.block k (by omega) (fun e => hne e.symm)).trans (Below.heap_alloc _ _ _ hk1)
  have hw1 : ∀ k, k < wr.heap.size → k ≠ pr → w1.heap[k]? = wr.heap[k]? := fun k hk1 hne => (hk.block k (by omega) hne).trans (by rw [h0])
  have hset : ∀ k, k ≠ W.heap.size + 1 → (w2.setCell ⟨W.heap.size + 1, 2, none⟩ v').heap[k]? = w2.heap[k]? := fun k hk1 => Below.heap_setCell _ ⟨W.heap.size + 1, 2, none⟩ _ k hk1
  have hne1 : ∀ g, v.ownBlock = some g → g ≠ W.heap.size + 1 := fun g hg => by have := hgb g hg; omega
  have hne2 : ∀ g, v'.ownBlock = some g → W.heap.size + 2 ≤ g := fun g hg2 => by
    rcases hn g hg2 with e | e
    · exact (hgb g e).2
    · omega
  have bvb : Blk w2 (W.heap.size + 1) 33 #[.bool false, .int .i64 tag, v] := (hall _ (by omega) (fun e => hne1 _ e rfl)).trans ((hw1 _ hvb (by omega)).trans h.vb)
  have hrb := h.rb.lt
  have ks2 : W.heap.size ≤ wr.heap.size := h.kept.size
  refine ⟨bvb, ?_, ?_, ?_, ?_, ?_, by simp [h.ul], ?_, ?_, by have := h.lb; omega⟩
  · exact (hset _ (by omega)).trans ((hall _ (by have := hrd.lt; exact this) (fun e => by have := hgb _ e; omega)).trans hrd)
  · exact bvb.set_ 2 v'
  · exact (hset _ (by omega)).trans ((hall _ (by omega) (fun e => by have := hgb _ e; omega)).trans ((hw1 _ hrb (by omega)).trans h.rb))
  · exact row_keep hr (fun g hg2 => hset _ (by have := hne2 g hg2; omega))
  · intro j hj
    rw [List.length_append, h.ul] at hj
    simp only [List.length_cons, List.length_nil] at hj
    by_cases hjj : j < i
    · have hj2 : j < us.length := by rw [h.ul]; exact hjj
      obtain ⟨u0, u1, u2, e0, e1, e2, hv2⟩ := h.kids j hj2
      refine ⟨u0, u1, u2, by rw [List.getElem?_append_left (by omega)]; exact e0, by rw [List.getElem?_append_left (by omega)]; exact e1, by rw [List.getElem?_append_left (by omega)]; exact e2, ?_⟩
      rw [List.getElem_append_left hj2]
      have hlv : VAtS wr (fun b => (W.heap.size + 2 ≤ b ∧ v.ownBlock ≠ some b) ∧ b < wr.heap.size) us[j] (.agg #[u0, u1, u2]) := hv2.keep (fun _ _ => rfl) (fun k hk1 hk2 => ⟨hk1, hk2⟩)
      refine hlv.keep (fun k hk1 => (hset k (by omega)).trans ((hall k (by omega) hk1.1.2).trans (hw1 k hk1.2 (by omega)))) (fun k hk1 _ => ⟨hk1.1.1, fun e => ?_⟩)
      rcases hn k e with e | e
      · exact hk1.1.2 e
      · omega
    · have hji : j = us.length := by rw [h.ul]; omega
      subst hji
      have hul := h.ul
      refine ⟨v0, v1, v2, by rw [List.getElem?_append_right (by omega)]; simp [hlen, hul], by rw [List.getElem?_append_right (by omega)]; simp [hlen, hul], by rw [List.getElem?_append_right (by omega)]; simp [hlen, hul], ?_⟩
      have hgt : (us ++ [t])[us.length]'(by simp) = t := by simp
      rw [hgt]
      have hlv : VAtS w1 (fun b => w0.heap.size ≤ b ∧ b < w1.heap.size) t (.agg #[v0, v1, v2]) := hv.keep (fun _ _ => rfl) (fun k hk1 hk2 => ⟨hk1, hk2⟩)
      refine hlv.keep (fun k hk1 => (hset k (by omega)).trans (hall k hk1.2 (fun e => by have := hgb k e; omega))) (fun k hk1 _ => ⟨by omega, fun e => ?_⟩)
      rcases hn k e with e | e
      · have := hgb k e; omega
      · omega
  · rw [h.kf, List.drop_eq_getElem_cons hi, kidsF, hf]
    dsimp only
    cases kidsF f (ks.drop (i + 1)) l1 with
    | none => rfl
    | some r => simp
  · have t0 : Kept (fun b => b = pr) W w0 := ⟨h0o.1.trans h.kept.os, h0o.2.1.trans h.kept.tape, h0o.2.2.trans h.kept.output, by rw [h0]; exact h.kept.size, fun k hk1 hk2 => by rw [h0]; exact h.kept.block k hk1 hk2⟩
    exact (((t0.then hk (fun _ _ e => e) (fun _ _ e => e)).alloc o).grown hg (fun g hg2 => .inr (by have := hgb g hg2; omega))).setCell (p := ⟨W.heap.size + 1, 2, none⟩) (.inr (by dsimp only; omega)) _

theorem add_form (ad : Addr) (p q : Nat) : ad.add (p + 1 + q) = ⟨ad.block, ad.off + (p + 1) + q, none⟩ := by
  unfold Addr.add; rw [if_neg (by omega)]; congr 1; omega
theorem RInv.start (f : Int → Int → Option (Tr × Int)) (ks : List Int) (l0 : Int) {pr : Nat} {sl : Value} (tag : Int) {W : World} {old : Value} (hb : Blk W pr 68 #[sl, old]) (hl : 0 ≤ l0 ∧ l0 ≤ 2048) :
    RInv f ks l0 pr sl tag W 0 l0 (.slice none 0 0) [] [] (((W.setCell ⟨pr, 1, none⟩ (.int .i64 l0)).alloc (.cells #[.bool false, .int .i64 0, .slice none 0 0] 33)).alloc (.cells #[.bool false, .int .i64 tag, .slice none 0 0] 33)) :=
  ⟨((hb.set_ 1 (.int .i64 l0)).alloc _).alloc _, Blk.new' (by simp) _ _, (Blk.new' (by simp) _ _).alloc _, World.ownsRow_nil _ _ _ _, fun j hj => by simp at hj, rfl, by rw [List.drop_zero]; cases kidsF f ks l0 <;> simp, (kept1 _ _ _ _).alloc _, hl⟩
theorem wf_word_ {x : Int} (h : 0 ≤ x ∧ x ≤ 4294967296) : (Lit.int .i64 x).wf = true := by simp [Lit.wf, IntKind.min, IntKind.max, IntKind.signed, IntKind.bits]; omega
theorem read_row {f : Int → Int → Option (Tr × Int)} {ks : List Int} {l0 : Int} {pr : Nat} {sl : Value} {tag : Int} {W : World} {i : Nat} {l : Int} {v : Value} {xs : List Value} {us : List Tr} {wr : World} (h : RInv f ks l0 pr sl tag W i l v xs us wr) (hpr : pr < W.heap.size) {w1 : World} {o : Obj} (hk : Kept (fun b => b = pr) wr.drew w1) :
    (w1.alloc o).ownsRow (W.heap.size + 2) 33 3 v i xs :=
  row_keep h.row (fun g hg => (Below.heap_alloc _ _ _ (by have := h.row.lt g hg; have := hk.size; have e : wr.drew.heap.size = wr.heap.size := rfl; omega)).trans (hk.block g (h.row.lt g hg).2 (by have := h.row.lt g hg; omega)))
theorem one3 (b : Bool) (n : Int) (A : Option Addr) (m c : Nat) : ∀ u ∈ [Value.bool b, .int .i64 n, .slice A m c], u.oneCell' = true := by simp [Value.oneCell']
theorem read_lt {f : Int → Int → Option (Tr × Int)} {ks : List Int} {l0 : Int} {pr : Nat} {sl : Value} {tag : Int} {W : World} {i : Nat} {l : Int} {v : Value} {xs : List Value} {us : List Tr} {wr : World} (h : RInv f ks l0 pr sl tag W i l v xs us wr) {w1 : World} (hk : Kept (fun b => b = pr) wr.drew w1) : W.heap.size + 1 < w1.heap.size := by
  have := h.vb.lt
  have := hk.size
  have e : wr.drew.heap.size = wr.heap.size := rfl
  omega
theorem read_sz {f : Int → Int → Option (Tr × Int)} {ks : List Int} {l0 : Int} {pr : Nat} {sl : Value} {tag : Int} {W : World} {i : Nat} {l : Int} {v : Value} {xs : List Value} {us : List Tr} {wr : World} (h : RInv f ks l0 pr sl tag W i l v xs us wr) {w1 : World} {o : Obj} (hk : Kept (fun b => b = pr) wr.drew w1) : W.heap.size + 2 ≤ (w1.alloc o).heap.size := by
  have := h.vb.lt
  have := hk.size
  have e : wr.drew.heap.size = wr.heap.size := rfl
  simp
  omega
theorem step_read {f : Int → Int → Option (Tr × Int)} {ks : List Int} {l0 : Int} {pr : Nat} {sl : Value} {tag : Int} {W : World} {i : Nat} {l : Int} {A' : Option Addr} {c' : Nat} {xs : List Value} {us : List Tr} {wr : World} (h : RInv f ks l0 pr sl tag W i l (.slice A' i c') xs us wr)
    (hi : i < ks.length) (hpr : pr < W.heap.size) {w1 : World} {b9 : Bool} {n9 : Int} {A9 : Option Addr} {m9 c9 : Nat} {ty : TypeId} {t : Tr} {l1 : Int} (hf : f ks[i] l = some (t, l1)) (hl1 : 0 ≤ l1 ∧ l1 ≤ l)
    (hk : Kept (fun b => b = pr) wr.drew w1) (hv : VAtS w1 (fun b => wr.drew.heap.size ≤ b) t (.agg #[.bool b9, .int .i64 n9, .slice A9 m9 c9])) (hrd : Blk w1 pr 68 #[sl, .int .i64 l1]) (hm : i + 1 ≤ 1000000)
    {ops : Array Oper} {o : Oper} {a : Act} {K : Act → World → Prop} {Q : Exit → Act → World → Prop} {E : Prop} (hgd : o.guard = none) (s x : Operand)
    (ho : o.op = .call { callee := .builtin .append, args := #[s, x], argTypes := #[31, 31] })
    {cc : Nat} (hs : a.eval s = .slice A' i c') (hx : a.eval x = .slice (some ⟨w1.heap.size, 0, none⟩) 1 cc)
    (hK : ∀ A4 c4 w2, w2.cell? ⟨W.heap.size + 1, 2, none⟩ = some (.slice A' i c') → w2.frozen? ⟨W.heap.size + 1, 2, none⟩ = false →
      RInv f ks l0 pr sl tag W (i + 1) l1 (.slice A4 (i + 1) c4) (xs ++ [.bool b9, .int .i64 n9, .slice A9 m9 c9]) (us ++ [t]) (w2.setCell ⟨W.heap.size + 1, 2, none⟩ (.slice A4 (i + 1) c4)) → K (a.put o.dst (.slice A4 (i + 1) c4)) w2) :
    if Region.wanted o (yielded ops a.tmps) = true then Oper.wp Try.prog o a (w1.alloc (.cells #[.bool b9, .int .i64 n9, .slice A9 m9 c9] ty)) K Q else E := by
  refine step_appV hgd s x ho (W.heap.size + 2) hs (n := i) (xs := xs) (read_row h hpr hk) hx rfl (cells_lit1 w1 ty _ _ _) (one3 _ _ _ _ _) hm (read_sz h hk) ?_
  intro v' w2 hr2 hg2 hn2
  obtain ⟨A4, c4, rfl, _⟩ := row_slice hr2
  have N := h.next hi hpr (w0 := wr.drew) rfl ⟨rfl, rfl, rfl⟩ hf hl1 hk hv hrd hr2 hg2 hn2
  exact hK A4 c4 w2 (N.1.cell 2) (N.1.frozen 2) N.2
/-- An object's value, out of its fields'. -/
def nodeR (tag : Nat) : Option (List Tr × Int) → Option (Tr × Int)
  | none => none
  | some (us, l) => some (.mk false tag us, l)
theorem kids_get {ws : List Int} {p s i : Nat} (hi : i < s) (hs : p + s < ws.length) : ∃ h : i < ((ws.drop (p + 1)).take s).length, ((ws.drop (p + 1)).take s)[i] = gw ws (p + 1 + i) := by
  refine ⟨by simp; omega, ?_⟩
  rw [List.getElem_take, List.getElem_drop]
  exact gw_get (by omega)
set_option maxHeartbeats 8000000 in
set_option maxRecDepth 100000 in
theorem read_node (k pr B p : Nat) (ad : Addr) (n c : Nat) (ws : List Int) (left x d : Int) (w : World) (hb : Blk w pr 68 #[.slice (some ad) n c, .int .i64 left]) (hi : Ints w B (some ad) n c ws) (hB : B ≤ pr) (hl2 : left ≤ 2048) (h : 0 ≤ left - 1) (hd : d = 256 - k) (hk : k ≤ 256) (hwx : (Lit.int .i64 x).wf = true) (hx : ¬ IntOk x) (hp : PlOk x) (hpe : plN x = p) (hp2 : p < n) (hn : n ≤ 1000000)
    (ho : OfOk (gw ws p)) (ho2 : ofT (gw ws p) < 32) (ho3 : ofS (gw ws p) ≤ 8) (ho4 : p + ofS (gw ws p) < n)
    (ih : ∀ (y l : Int) (d : Int) (W : World), (Lit.int .i64 y).wf = true → d = 257 - k → Blk W pr 68 #[.slice (some ad) n c, .int .i64 l] → Ints W B (some ad) n c ws → 0 ≤ l → l ≤ 2048 →
      Calls Try.prog 38 #[.pointer (some ⟨pr, 0, none⟩), .int .i64 y, .int .i64 d] W (ReadP (readF ws k y l) pr (.slice (some ad) n c) W))
    (hleft : ∀ y l t l', readF ws k y l = some (t, l') → 0 ≤ l' ∧ l' ≤ l) :
    Calls Try.prog 38 #[.pointer (some ⟨pr, 0, none⟩), .int .i64 x, .int .i64 d] w (ReadP (nodeR (ofT (gw ws p)) (kidsF (readF ws k) ((ws.drop (p + 1)).take (ofS (gw ws p))) (left - 1))) pr (.slice (some ad) n c) w) := by
  have hti := toV_no hx
  have hw := hid hwx
  have hpl := plV_yes hp
  rw [hpe] at hpl
  have hq := hi.cell hp2
  have hab : ad.block < B := by
    rcases hi.at_ with h0 | ⟨a, e1, e2, _⟩
    · omega
    · injection e1 with e1
      subst e1
      exact e2
  have hbk : (ad.add p).block ≠ pr := by have := add_block ad p; omega
  have hlb : (ad.add p).block < w.heap.size := by have := add_block ad p; have := hb.lt; omega
  have x0 : ∀ o, ((w.setCell ⟨pr, 1, none⟩ (.int .i64 (left - 1))).alloc o).cell? (ad.add p) = some (.int .i64 (gw ws p)) := fun o =>
    (World.cell?_of_block (w := w) ((Below.heap_alloc _ _ _ (by simpa using hlb)).trans (Below.heap_setCell _ ⟨pr, 1, none⟩ _ _ hbk))).trans hq
  have hwh := hid (hi.wf_at hp2)
  have hof := ofV_yes ho
  have hcap := hi.cap
  have hil := hid hi.len
  have HH := hid (And.intro hi (And.intro hB (And.intro hd (And.intro hk (And.intro ih (And.intro hleft hab))))))
  obtain ⟨s, hs⟩ : ∃ s, s = ofS (gw ws p) := ⟨_, rfl⟩
  rw [← hs] at hof ho3 ho4 ⊢
  obtain ⟨tg, htg⟩ : ∃ tg, tg = ofT (gw ws p) := ⟨_, rfl⟩
  rw [← htg] at hof ho2 ⊢
  have hd6 : d ≤ 256 := by omega
  clear hx hwx hi hp hpe hq hbk hlb ho hs htg hB hd hk ih hleft hab
  have y0 : ∀ o, (w.alloc o).cell? ⟨pr, 0, none⟩ = some (.slice (some ad) n c) := fun o => (hb.alloc o).cell 0
  have y1 : ∀ o, (w.alloc o).cell? ⟨pr, 1, none⟩ = some (.int .i64 left) := fun o => (hb.alloc o).cell 1
  have f1 : ∀ o, (w.alloc o).frozen? ⟨pr, 1, none⟩ = false := fun o => (hb.alloc o).frozen 1
  have yb : w.cell? ⟨pr, 1, none⟩ = some (.int .i64 left) := hb.cell 1
  have ya : w.cell? ⟨pr, 0, none⟩ = some (.slice (some ad) n c) := hb.cell 0
  have fb : w.frozen? ⟨pr, 1, none⟩ = false := hb.frozen 1
  have hlt_ := hb.lt
  have q1 : IntKind.i64.wrap (left - 1) = left - 1 := IntWalk.i64_in _ (by omega)
  have hne : pr ≠ w.heap.size := by omega
  have hne' : w.heap.size ≠ pr := by omega
  have HB := hid hb
  clear hb
  have q2 : IntKind.i64.wrap ((n : Int) - p) = n - p := IntWalk.i64_in _ (by omega)
  have g1 : ((tg : Nat) : Int) < 32 := by omega
  have g2 : ((s : Nat) : Int) ≤ 8 := by omega
  have g3 : ((s : Nat) : Int) < n - p := by omega
  by_cases hcp : p + 1 < c
  · go_enter Try.func38, Try.ntmps38
    go_wp2_with (first | (go_at_call 40; go_must (refine (cells_want _ _ _).mono ?_); (first | simp only [wantE_ok] | simp only [wantE_no]); rintro e w' ⟨rfl, rfl⟩) | (go_at_call 19; go_must (refine (cells_ToIntV _ _).mono ?_); rw [hti]; rintro e w' ⟨rfl, rfl⟩) | (go_at_call 21; go_must (refine (cells_Place _ hw.out _).mono ?_); rw [hpl]; rintro e w' ⟨rfl, rfl⟩) | (go_at_call 23; go_must (refine (cells_Of _ hwh.out _).mono ?_); rw [hof]; rintro e w' ⟨rfl, rfl⟩))
    have R0 := hid (RInv.start (readF ws k) ((ws.drop (p + 1)).take s) (left - 1) (tg : Int) HB.out (by omega))
    clear x0 y0 y1 f1 yb ya fb
    simp only [Nat.add_sub_cancel_left]
    go_loopg [104] s (fun g x wr => ∃ (i : Nat) (l : Int) (A' : Option Addr) (c' : Nat) (xs : List Value) (us : List Tr), i + g = s ∧ x = .int .i64 i ∧ Hid (RInv (readF ws k) ((ws.drop (p + 1)).take s) (left - 1) pr (.slice (some ad) n c) tg w i l (.slice A' i c') xs us wr))
    case atStart => exact ⟨0, _, none, 0, [], [], by omega, rfl, R0⟩
    case round =>
      obtain ⟨i, l, A', c', xs, us, hi, rfl, hr⟩ := hrel
      have Hi := hid hi
      by_cases hlt : i < s
      · have hlt' : (i : Int) < s := by omega
        obtain ⟨hkl, hke⟩ := kids_get hlt (by rw [← hil.out]; exact ho4)
        have z0 : wr.cell? ⟨ad.block, ad.off + (p + 1) + i, none⟩ = some (.int .i64 (gw ws (p + 1 + i))) := by
          have h1 := HH.out.1.cell (i := p + 1 + i) (by omega)
          rw [add_form] at h1
          have h2 := HH.out.2.2.2.2.2.2
          exact (World.cell?_of_block (w := w) (a := ⟨ad.block, ad.off + (p + 1) + i, none⟩) (hr.out.kept.block ad.block (by have := HH.out.2.1; omega) (by have := HH.out.2.1; omega))).trans h1
        have x2 : wr.cell? ⟨w.heap.size + 1, 2, none⟩ = some (.slice A' i c') := hr.out.vb.cell 2
        have hwy := hid (HH.out.1.wf_at (i := p + 1 + i) (by omega))
        have HK := hid (And.intro hkl hke)
        have q5 : IntKind.i64.wrap (d + 1) = d + 1 := IntWalk.i64_in _ (by have := HH.out.2.2.1; have := HH.out.2.2.2.1; omega)
        clear hi hke
        generalize gw ws (p + 1 + i) = y at *
        cases hrf : readF ws k y l with
        | some r =>
          obtain ⟨t, l1⟩ := r
          have HT := hid hrf
          clear hrf
          have hl1 := hid (HH.out.2.2.2.2.2.1 _ _ _ _ HT.out)
          have hkd : Kept (fun b => b = pr) w wr.drew := hr.out.kept.drew
          have HI0 : Hid (Ints wr.drew B (some ad) n c ws) := hid (HH.out.1.keep (Nat.le_refl _) (fun q hq => World.cell?_of_block (w := w) (hkd.block q.block (by have := HH.out.2.1; omega) (by have := HH.out.2.1; omega))))
          clear hkd
          go_wp2
          have hnp : ¬ (w.heap.size + 1 = pr) := by omega
          have hdd : d + 1 = 257 - (k : Int) := by have := HH.out.2.2.1; omega
          have hi1m : i + 1 ≤ 1000000 := by omega
          have hfk : readF ws k ((ws.drop (p + 1)).take s)[i] l = some (t, l1) := by rw [HK.out.2]; exact HT.out
          have C0 := HH.out.2.2.2.2.1 y l (d + 1) wr.drew hwy.out hdd hr.out.rd HI0.out hr.out.lb.1 hr.out.lb.2
          rw [HT.out] at C0
          have C := hid C0
          have Hfk := hid hfk
          clear C0 hdd hfk
          have x2d : wr.drew.cell? ⟨w.heap.size + 1, 2, none⟩ = some (.slice A' i c') := x2
          go_region_law (first
            | (refine step_read hr.out HK.out.1 hlt_ Hfk.out hl1.out k1 hv hrd hi1m (by rfl) _ _ (by rfl) (by rfl) (by rfl) ?_; intro A4 c4 w2 u0 u1 N)
            | (go_simp; go_at_call 38; refine C.out.mono ?_; rintro e w1 ⟨k1, v, rfl, hv, hrd⟩; obtain ⟨b9, n9, A9, m9, c9, rfl⟩ := hv.agg; have t0 : w1.cell? ⟨w.heap.size + 1, 2, none⟩ = some (.slice A' i c') := (World.cell?_of_block (w := wr) (k1.block (w.heap.size + 1) hr.out.vb.lt hnp)).trans x2; have t1 : ∀ o, (w1.alloc o).cell? ⟨w.heap.size + 1, 2, none⟩ = some (.slice A' i c') := fun o => (World.cell?_of_block (w := w1) (Below.heap_alloc _ _ _ (read_lt hr.out k1))).trans t0))
          all_goals
            go_wp2
            have hgk := Hi.out
            go_roundg (gk - 1)
            case rel => exact ⟨i + 1, l1, A4, c4, _, _, by omega, rfl, hid N⟩
            case measure => omega
        | none =>
          have HT := hid hrf
          clear hrf
          have hkd : Kept (fun b => b = pr) w wr.drew := hr.out.kept.drew
          have HI0 : Hid (Ints wr.drew B (some ad) n c ws) := hid (HH.out.1.keep (Nat.le_refl _) (fun q hq => World.cell?_of_block (w := w) (hkd.block q.block (by have := HH.out.2.1; omega) (by have := HH.out.2.1; omega))))
          clear hkd
          go_wp2
          go_region_dies
          all_goals
            refine (HH.out.2.2.2.2.1 y l _ wr.drew hwy.out (by have := HH.out.2.2.1; omega) hr.out.rd HI0.out hr.out.lb.1 hr.out.lb.2).mono ?_
            rw [HT.out]
            rintro e w1 ⟨k1, rfl⟩
            refine ⟨rfl, (hr.out.kept.drew).then k1 (fun _ _ e => e) (fun _ _ e => e), ?_⟩
            have h1 := hr.out.kf
            rw [List.drop_eq_getElem_cons HK.out.1, kidsF, HK.out.2, HT.out] at h1
            rw [h1]; rfl
      · obtain rfl : i = s := by omega
        clear hi
        have x0 : wr.cell? ⟨w.heap.size + 1, 0, none⟩ = some (.bool false) := hr.out.vb.cell 0
        have x1 : wr.cell? ⟨w.heap.size + 1, 1, none⟩ = some (.int .i64 tg) := hr.out.vb.cell 1
        have x2 : wr.cell? ⟨w.heap.size + 1, 2, none⟩ = some (.slice A' i c') := hr.out.vb.cell 2
        have o0 : wr.cell? ⟨w.heap.size, 0, none⟩ = some (.bool false) := hr.out.rb.cell 0
        have o1 : wr.cell? ⟨w.heap.size, 1, none⟩ = some (.int .i64 0) := hr.out.rb.cell 1
        have o2 : wr.cell? ⟨w.heap.size, 2, none⟩ = some (.slice none 0 0) := hr.out.rb.cell 2
        have g0 := hr.out.rb.frozen 0
        have g1' := hr.out.rb.frozen 1
        have g2' := hr.out.rb.frozen 2
        go_wp2
        have hsame : ∀ g, g ≠ w.heap.size → (((wr.setCell ⟨w.heap.size, 0, none⟩ (.bool false)).setCell ⟨w.heap.size, 1, none⟩ (.int .i64 tg)).setCell ⟨w.heap.size, 2, none⟩ (.slice A' i c')).heap[g]? = wr.heap[g]? := fun g h1 =>
          (Below.heap_setCell _ ⟨w.heap.size, 2, none⟩ _ g h1).trans ((Below.heap_setCell _ ⟨w.heap.size, 1, none⟩ _ g h1).trans (Below.heap_setCell _ ⟨w.heap.size, 0, none⟩ _ g h1))
        have hkp : Kept (fun b => b = pr) w (((wr.setCell ⟨w.heap.size, 0, none⟩ (.bool false)).setCell ⟨w.heap.size, 1, none⟩ (.int .i64 tg)).setCell ⟨w.heap.size, 2, none⟩ (.slice A' i c')) :=
          ((hr.out.kept.setCell (p := ⟨w.heap.size, 0, none⟩) (.inr (Nat.le_refl _)) _).setCell (p := ⟨w.heap.size, 1, none⟩) (.inr (Nat.le_refl _)) _).setCell (p := ⟨w.heap.size, 2, none⟩) (.inr (Nat.le_refl _)) _
        have r0 : Blk (((wr.setCell ⟨w.heap.size, 0, none⟩ (.bool false)).setCell ⟨w.heap.size, 1, none⟩ (.int .i64 tg)).setCell ⟨w.heap.size, 2, none⟩ (.slice A' i c')) w.heap.size 33 #[.bool false, .int .i64 tg, .slice A' i c'] :=
          (((hr.out.rb.set_ 0 (.bool false)).set_ 1 (.int .i64 tg)).set_ 2 (.slice A' i c') : Blk _ _ _ _)
        revert hsame hkp r0
        generalize (((wr.setCell ⟨w.heap.size, 0, none⟩ (.bool false)).setCell ⟨w.heap.size, 1, none⟩ (.int .i64 tg)).setCell ⟨w.heap.size, 2, none⟩ (.slice A' i c')) = Wf
        intro hsame hkp R
        have z0 : Wf.cell? ⟨w.heap.size, 0, none⟩ = some (.bool false) := R.cell 0
        have z1 : Wf.cell? ⟨w.heap.size, 1, none⟩ = some (.int .i64 tg) := R.cell 1
        have z2 : Wf.cell? ⟨w.heap.size, 2, none⟩ = some (.slice A' i c') := R.cell 2
        have hkf := hr.out.kf
        rw [show ((ws.drop (p + 1)).take i).drop i = [] from List.drop_eq_nil_of_le (by rw [List.length_take]; omega), kidsF] at hkf
        simp only [List.append_nil] at hkf
        have hul := hr.out.ul
        rw [hkf]
        have hrow : Wf.ownsRow (w.heap.size + 2) 33 3 (.slice A' i c') i xs := row_keep hr.out.row (fun g hg => hsame g (by have := hr.out.row.lt g hg; omega))
        obtain ⟨A5, c5, e5, m1, m2, m3, m4⟩ := row_slice hrow
        injection e5 with e6 _ e7
        subst e6 e7
        refine bodyPost_ret (v := .agg #[.bool false, .int .i64 tg, .slice A' i c']) (by simp [results, Try.results38, go_sem, z0, z1, z2]) rfl ⟨hkp, _, rfl, ?_, (hsame _ (by omega)).trans hr.out.rd⟩
        rw [VAtS]
        refine ⟨⟨A', c', by rw [hul], by omega, m2, fun h => ⟨List.length_eq_zero_iff.1 (by have := (m3 h).1; omega), (m3 h).2⟩, ?_⟩, wf_word_ (by omega)⟩
        cases hA : A' with
        | none =>
          have : us = [] := List.length_eq_zero_iff.1 (by have := (m3 hA).1; omega)
          rw [this, RowS]; trivial
        | some a =>
          subst hA
          have hab := hrow.lt a.block rfl
          obtain ⟨h1, h2⟩ := m4 a rfl
          have ha : a = ⟨a.block, 0, none⟩ := by obtain ⟨x, y, z⟩ := a; simp_all
          have hcell : ∀ j u, xs[j]? = some u → Wf.cell? (a.add j) = some u := by rw [ha]; exact hrow.cells (g := a.block) rfl
          refine RowS.mk (by omega) us 0 (fun j hj => ?_)
          rw [Nat.zero_add]
          obtain ⟨u0, u1, u2, e0, e1, e2, hv⟩ := hr.out.kids j hj
          refine ⟨u0, u1, u2, hcell _ _ e0, ?_, ?_, ?_⟩
          · rw [add_three' _ _ _ (by omega)]; exact hcell _ _ e1
          · rw [add_three' _ _ _ (by omega)]; exact hcell _ _ e2
          · exact hv.keep (fun g hg => hsame g (by omega)) (fun g hg _ => by omega)
  · obtain rfl : s = 0 := by omega
    go_enter Try.func38, Try.ntmps38
    go_wp2_with (first | (go_at_call 40; go_must (refine (cells_want _ _ _).mono ?_); (first | simp only [wantE_ok] | simp only [wantE_no]); rintro e w' ⟨rfl, rfl⟩) | (go_at_call 19; go_must (refine (cells_ToIntV _ _).mono ?_); rw [hti]; rintro e w' ⟨rfl, rfl⟩) | (go_at_call 21; go_must (refine (cells_Place _ hw.out _).mono ?_); rw [hpl]; rintro e w' ⟨rfl, rfl⟩) | (go_at_call 23; go_must (refine (cells_Of _ hwh.out _).mono ?_); rw [hof]; rintro e w' ⟨rfl, rfl⟩))
    have R0 := hid (RInv.start (readF ws k) ((ws.drop (p + 1)).take 0) (left - 1) (tg : Int) HB.out (by omega))
    clear x0 y0 y1 f1 yb ya fb
    (try simp only [Nat.add_sub_cancel_left])
    go_loopg [104] 0 (fun g x wr => ∃ (i : Nat) (l : Int) (A' : Option Addr) (c' : Nat) (xs : List Value) (us : List Tr), i + g = 0 ∧ x = .int .i64 i ∧ Hid (RInv (readF ws k) ((ws.drop (p + 1)).take 0) (left - 1) pr (.slice (some ad) n c) tg w i l (.slice A' i c') xs us wr))
    case atStart => exact ⟨0, _, none, 0, [], [], by omega, rfl, R0⟩
    case round =>
      obtain ⟨i, l, A', c', xs, us, hi, rfl, hr⟩ := hrel
      obtain rfl : i = 0 := by omega
      clear hi
      have x0 : wr.cell? ⟨w.heap.size + 1, 0, none⟩ = some (.bool false) := hr.out.vb.cell 0
      have x1 : wr.cell? ⟨w.heap.size + 1, 1, none⟩ = some (.int .i64 tg) := hr.out.vb.cell 1
      have x2 : wr.cell? ⟨w.heap.size + 1, 2, none⟩ = some (.slice A' 0 c') := hr.out.vb.cell 2
      have o0 : wr.cell? ⟨w.heap.size, 0, none⟩ = some (.bool false) := hr.out.rb.cell 0
      have o1 : wr.cell? ⟨w.heap.size, 1, none⟩ = some (.int .i64 0) := hr.out.rb.cell 1
      have o2 : wr.cell? ⟨w.heap.size, 2, none⟩ = some (.slice none 0 0) := hr.out.rb.cell 2
      have g0 := hr.out.rb.frozen 0
      have g1' := hr.out.rb.frozen 1
      have g2' := hr.out.rb.frozen 2
      go_wp2
      have hsame : ∀ g, g ≠ w.heap.size → (((wr.setCell ⟨w.heap.size, 0, none⟩ (.bool false)).setCell ⟨w.heap.size, 1, none⟩ (.int .i64 tg)).setCell ⟨w.heap.size, 2, none⟩ (.slice A' 0 c')).heap[g]? = wr.heap[g]? := fun g h1 =>
        (Below.heap_setCell _ ⟨w.heap.size, 2, none⟩ _ g h1).trans ((Below.heap_setCell _ ⟨w.heap.size, 1, none⟩ _ g h1).trans (Below.heap_setCell _ ⟨w.heap.size, 0, none⟩ _ g h1))
      have hkp : Kept (fun b => b = pr) w (((wr.setCell ⟨w.heap.size, 0, none⟩ (.bool false)).setCell ⟨w.heap.size, 1, none⟩ (.int .i64 tg)).setCell ⟨w.heap.size, 2, none⟩ (.slice A' 0 c')) :=
        ((hr.out.kept.setCell (p := ⟨w.heap.size, 0, none⟩) (.inr (Nat.le_refl _)) _).setCell (p := ⟨w.heap.size, 1, none⟩) (.inr (Nat.le_refl _)) _).setCell (p := ⟨w.heap.size, 2, none⟩) (.inr (Nat.le_refl _)) _
      have r0 : Blk (((wr.setCell ⟨w.heap.size, 0, none⟩ (.bool false)).setCell ⟨w.heap.size, 1, none⟩ (.int .i64 tg)).setCell ⟨w.heap.size, 2, none⟩ (.slice A' 0 c')) w.heap.size 33 #[.bool false, .int .i64 tg, .slice A' 0 c'] :=
        (((hr.out.rb.set_ 0 (.bool false)).set_ 1 (.int .i64 tg)).set_ 2 (.slice A' 0 c') : Blk _ _ _ _)
      revert hsame hkp r0
      generalize (((wr.setCell ⟨w.heap.size, 0, none⟩ (.bool false)).setCell ⟨w.heap.size, 1, none⟩ (.int .i64 tg)).setCell ⟨w.heap.size, 2, none⟩ (.slice A' 0 c')) = Wf
      intro hsame hkp R
      have z0 : Wf.cell? ⟨w.heap.size, 0, none⟩ = some (.bool false) := R.cell 0
      have z1 : Wf.cell? ⟨w.heap.size, 1, none⟩ = some (.int .i64 tg) := R.cell 1
      have z2 : Wf.cell? ⟨w.heap.size, 2, none⟩ = some (.slice A' 0 c') := R.cell 2
      have hkf := hr.out.kf
      rw [show ((ws.drop (p + 1)).take 0).drop 0 = [] from List.drop_eq_nil_of_le (by rw [List.length_take]; omega), kidsF] at hkf
      simp only [List.append_nil] at hkf
      have hul := hr.out.ul
      rw [hkf]
      have hrow : Wf.ownsRow (w.heap.size + 2) 33 3 (.slice A' 0 c') 0 xs := row_keep hr.out.row (fun g hg => hsame g (by have := hr.out.row.lt g hg; omega))
      obtain ⟨A5, c5, e5, m1, m2, m3, m4⟩ := row_slice hrow
      injection e5 with e6 _ e7
      subst e6 e7
      refine bodyPost_ret (v := .agg #[.bool false, .int .i64 tg, .slice A' 0 c']) (by simp [results, Try.results38, go_sem, z0, z1, z2]) rfl ⟨hkp, _, rfl, ?_, (hsame _ (by omega)).trans hr.out.rd⟩
      rw [VAtS]
      refine ⟨⟨A', c', by rw [hul], by omega, m2, fun h => ⟨List.length_eq_zero_iff.1 (by have := (m3 h).1; omega), (m3 h).2⟩, ?_⟩, wf_word_ (by omega)⟩
      cases hA : A' with
      | none =>
        have : us = [] := List.length_eq_zero_iff.1 (by have := (m3 hA).1; omega)
        rw [this, RowS]; trivial
      | some a =>
        subst hA
        have hab := hrow.lt a.block rfl
        obtain ⟨h1, h2⟩ := m4 a rfl
        have ha : a = ⟨a.block, 0, none⟩ := by obtain ⟨x, y, z⟩ := a; simp_all
        have hcell : ∀ j u, xs[j]? = some u → Wf.cell? (a.add j) = some u := by rw [ha]; exact hrow.cells (g := a.block) rfl
        refine RowS.mk (by omega) us 0 (fun j hj => ?_)
        rw [Nat.zero_add]
        obtain ⟨u0, u1, u2, e0, e1, e2, hv⟩ := hr.out.kids j hj
        refine ⟨u0, u1, u2, hcell _ _ e0, ?_, ?_, ?_⟩
        · rw [add_three' _ _ _ (by omega)]; exact hcell _ _ e1
        · rw [add_three' _ _ _ (by omega)]; exact hcell _ _ e2
        · exact hv.keep (fun g hg => hsame g (by omega)) (fun g hg _ => by omega)
end Go.Proofs.Ytgakmfcnddholaa
