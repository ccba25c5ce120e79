/-
  THE WALK OF (*cells.writer).write: the words of a value's objects, told one by one to whatever yields.
-/
import Derived.Test.YtgakmfcnddholaaCRange
import Derived.Test.YtgakmfcnddholaaCGrow
import Derived.Test.YtgakmfcnddholaaHCells
import Derived.Sort.LoopGhostIn
import Derived.Shelf.Abstract
import Derived.Shelf.RegionOpen
import Derived.WalkKit
import Derived.OwnWalkIn
import Derived.TacticsInMore
import Derived.LoopNIn
import Derived.LoopIn
namespace Go.Proofs.Ytgakmfcnddholaa
open Go.ChangeShapes Go.WideShapes Go.ChangeAt Go.RowKit Go.Shelf
attribute [local go_sem] Oper.semAt_some

/-- append onto a row of integers of one's own: the row lies where it lay, or in a new block. -/
theorem run_appN (w : World) (ty : TypeId) (B : Nat) {v : Value} {xs : List Int} (hown : OwnI w B v xs) {ad : Addr} {n c Bi : Nat} {ys : List Int} (hi : Ints w Bi (some ad) n c ys) (hlen : xs.length + n ≤ 1000000) (hB : B ≤ w.heap.size) :
    ∃ A' c' w', (Builtin.append_ #[36, 36] ty #[v, .slice (some ad) n c]).run Try.prog w = .ok (.slice A' (xs.length + n) c') w' ∧ OwnI w' B (.slice A' (xs.length + n) c') (xs ++ ys) ∧ w.grownBy w' v.ownBlock ∧
      (∀ a', A' = some a' → v.ownBlock = some a'.block ∨ w.heap.size ≤ a'.block) := by
  obtain ⟨i, hi1, hz, hs1, hs2⟩ := info_int.parts
  have hwf : ∀ z ∈ xs ++ ys, (Lit.int .i64 z).wf = true := by
    intro z hz
    rcases List.mem_append.1 hz with hz | hz
    · exact hown.wf z hz
    · exact hi.wf z hz
  have hrow : w.ownsRow B 3 1 v xs.length (xs.map (.int .i64)) := by have := hown.own; unfold Own at this; rwa [List.length_map] at this
  obtain ⟨v', w', hr, h2, h3, _⟩ := run_append_own (P := Try.prog) w B 36 ty 3 i (.int .i64 0) 1 8 Try.underlying36 hi1 hz hs1 hs2 rfl (by omega) v xs.length _ hrow ad n c (ys.map (.int .i64)) (by simp [hi.len]) (news_of_ints hi) (by simp [Value.oneCell']) (by unfold maxLen; omega) (by omega) hB
  have hO : OwnI w' B v' (xs ++ ys) := ⟨by unfold Own; rwa [← List.map_append, show xs.length + n = ((xs ++ ys).map (Value.int .i64)).length from by simp [hi.len]] at h2, hwf⟩
  have hnew : ∀ g, v'.ownBlock = some g → v.ownBlock = some g ∨ w.heap.size ≤ g := by
    intro g hg
    rcases hrow.2 with ⟨rfl, hn0⟩ | ⟨g0, cap, cur, rfl, hbg, hgg, hnc, hcm, hcs, htake⟩
    · right
      have hx : xs = [] := List.length_eq_zero_iff.1 hn0
      subst hx
      obtain ⟨v2, w2, hr2, h22, _, _⟩ := run_append_own (P := Try.prog) w w.heap.size 36 ty 3 i (.int .i64 0) 1 8 Try.underlying36 hi1 hz hs1 hs2 rfl (by omega) (.slice none 0 0) 0 [] (World.ownsRow_nil w w.heap.size 3 1) ad n c (ys.map (.int .i64)) (by simp [hi.len]) (news_of_ints hi) (by simp [Value.oneCell']) (by unfold maxLen; simp at hlen; omega) (by simp at hlen; omega) (Nat.le_refl _)
      rw [hr] at hr2
      injection hr2 with e1 e2
      subst e1
      exact (h22.lt g hg).1
    · have hl : (ys.map (Value.int .i64)).length = n * i.size := by simp [hi.len, hs1]
      have h8 : (xs.map (Value.int .i64)).length = xs.length * i.size := by simp [hs1]
      by_cases hroom : xs.length + n ≤ cap
      · left
        have hr2 := run_append_room (P := Try.prog) w 36 ty 3 i Try.underlying36 hi1 g0 xs.length cap cur hgg ad n c (ys.map (.int .i64)) hl (news_of_ints hi) (by simp [Value.oneCell']) hroom (by simp [hs1, ← hi.len]; omega)
        rw [hr] at hr2
        injection hr2 with e1 e2
        subst e1
        exact hg
      · right
        have hr2 := run_append_grow (P := Try.prog) w 36 ty 3 i (.int .i64 0) Try.underlying36 hi1 hz ⟨g0, 0, none⟩ xs.length cap (xs.map (.int .i64)) h8 (hrow.cells (g := g0) rfl) ad n c (ys.map (.int .i64)) hl (news_of_ints hi) (by omega) (by omega) (growslice_fits (by omega) (by rw [hs2]; omega))
        rw [hr] at hr2
        injection hr2 with e1 e2
        subst e1
        simp [Value.ownBlock] at hg
        omega
  obtain ⟨A', c', hv, _⟩ := hO.slice
  subst hv
  have e : (xs ++ ys).length = xs.length + n := by simp [hi.len]
  rw [e] at hO hr
  exact ⟨A', c', w', hr, hO, h3, fun a' ha => hnew a'.block (by rw [ha]; rfl)⟩
theorem wpListIn_appI {F : Fence} {m : Nat} {w : World} {ops : Array Oper} {rest : List Oper} {o : Oper} {a : Act} {Q : Exit → Act → World → Prop} (hgd : o.guard = none) (s x : Operand)
    (ho : o.op = .call { callee := .builtin .append, args := #[s, x], argTypes := #[36, 36] })
    (B : Nat) {v : Value} {xs : List Int} (hs : a.eval s = v) (hown : OwnI w B v xs) {ad : Addr} {n c Bi : Nat} {ys : List Int} (hx : a.eval x = .slice (some ad) n c) (hi : Ints w Bi (some ad) n c ys)
    (hlen : xs.length + n ≤ 1000000) (hB : B ≤ w.heap.size)
    (h : ∀ A' c' w', OwnI w' B (.slice A' (xs.length + n) c') (xs ++ ys) → w.grownBy w' v.ownBlock → (∀ a', A' = some a' → v.ownBlock = some a'.block ∨ w.heap.size ≤ a'.block) → wpListIn F m Try.prog ops Q rest (a.put o.dst (.slice A' (xs.length + n) c')) w') : wpListIn F m Try.prog ops Q (o :: rest) a w := by
  refine wpListIn_plain hgd fun K hK' => ?_
  obtain ⟨A', c', w', hrun, r1, r2, r3⟩ := run_appN w o.type B hown hi hlen hB
  unfold Oper.wpIn
  refine ⟨?_, ?_⟩
  · simp [Oper.about, ho, resolve, Target.leads, Sem.run_pure]
  · rw [Oper.semAt_plain F _ _ (by rw [ho]; intro c hc'; cases hc')]
    simp [execOp, ho, resolve, invoke, builtin, hs, hx, hrun, Result.andThen]
    exact hK' _ _ (h A' c' w' r1 r2 r3)
theorem wf_word {x : Int} (h : 0 ≤ x ∧ x ≤ 4294967296) : (Lit.int .i64 x).wf = true := by simp [Lit.wf, IntKind.min, IntKind.max, IntKind.signed, IntKind.bits]; omega
/-- A literal of one element, just built. -/
theorem ints_one {w : World} {x : Int} (h : (Lit.int .i64 x).wf = true) : Ints (w.alloc (.cells #[.int .i64 x] 3)) (w.heap.size + 1) (some ⟨w.heap.size, 0, none⟩) 1 1 [x] :=
  ints_of_blk (xs := [x]) (Blk.new w 3 (cellsOf [x])) (Nat.lt_succ_self _) (by simp) (by simpa using h)

/-- A row of the call's own, where its block has not turned. -/
theorem OwnI.keep {w w' : World} {B : Nat} {A : Option Addr} {n c : Nat} {xs : List Int} (h : OwnI w B (.slice A n c) xs) (hk : ∀ a, A = some a → w'.heap[a.block]? = w.heap[a.block]?) : OwnI w' B (.slice A n c) xs := by
  obtain ⟨⟨h1, h2⟩, hw⟩ := h
  refine ⟨⟨h1, ?_⟩, hw⟩
  rcases h2 with h2 | ⟨g, cap, cur, hv, hB, hg, rest⟩
  · exact .inl h2
  · refine .inr ⟨g, cap, cur, hv, hB, ?_, rest⟩
    injection hv with hA _ _
    rw [hk _ hA]
    exact hg
theorem OwnI.lt {w : World} {B : Nat} {a : Addr} {n c : Nat} {xs : List Int} (h : OwnI w B (.slice (some a) n c) xs) : B ≤ a.block ∧ a.block < w.heap.size := h.own.lt a.block rfl

def encI (x : Int) : Array Value := #[.int .i64 x]
theorem RoundF.wide {α : Type} {m m' : Nat} {P : Program} {l : Nat} {encs : α → Array Value} {xs0 : List α} {J : Nat → (Nat → Prop) → World → Prop} (h : RoundF Fence.wide m P l encs xs0 J) : RoundF Fence.wide m' P l encs xs0 J := by
  intro k hk S W1 hJ
  obtain ⟨fn, tmps, assign, body, hy, hF, hR⟩ := h k hk S W1 hJ
  exact ⟨fn, tmps, assign, body, hy, hF, fun c cs _ => hR c cs (room_wide _)⟩

/-- What write owes. -/
def WriteP (J : Nat → (Nat → Prop) → World → Prop) (k : Nat) (S : Nat → Prop) (pw l p : Nat) (t : Tr) (W : World) (e : Ending) (W' : World) : Prop :=
  (((putT t p).2.2 ≤ 262144 ∧ e = .returned (.int .i64 (putT t p).2.1) ∧ Blk W' pw 76 #[.int .i64 ((putT t p).2.2 : Nat), .func (.yield l) #[] #[]] ∧ ∃ S', J (k + (putT t p).1.length) S' W' ∧ (∀ b, S' b → S b ∨ W.heap.size ≤ b)) ∨
   (262144 < (putT t p).2.2 ∧ e = .panicked [flt 3] ∧ ∃ k' S', J k' S' W')) ∧ Kept (fun b => S b ∨ b = pw) W W'
theorem WriteP.yes {J : Nat → (Nat → Prop) → World → Prop} {k : Nat} {S : Nat → Prop} {pw l p : Nat} {t : Tr} {W W' : World} {e : Ending} (h : WriteP J k S pw l p t W e W') (hf : (putT t p).2.2 ≤ 262144) :
    e = .returned (.int .i64 (putT t p).2.1) ∧ Blk W' pw 76 #[.int .i64 ((putT t p).2.2 : Nat), .func (.yield l) #[] #[]] ∧ (∃ S', J (k + (putT t p).1.length) S' W' ∧ (∀ b, S' b → S b ∨ W.heap.size ≤ b)) ∧ Kept (fun b => S b ∨ b = pw) W W' := by
  rcases h with ⟨⟨_, h1, h2, h3⟩ | ⟨h1, _⟩, hk⟩
  · exact ⟨h1, h2, h3, hk⟩
  · omega
theorem WriteP.no {J : Nat → (Nat → Prop) → World → Prop} {k : Nat} {S : Nat → Prop} {pw l p : Nat} {t : Tr} {W W' : World} {e : Ending} (h : WriteP J k S pw l p t W e W') (hf : ¬ (putT t p).2.2 ≤ 262144) :
    e = .panicked [flt 3] ∧ (∃ k' S', J k' S' W') ∧ Kept (fun b => S b ∨ b = pw) W W' := by
  rcases h with ⟨⟨h1, _⟩ | ⟨_, h1, h2⟩, hk⟩
  · exact absurd h1 hf
  · exact ⟨h1, h2, hk⟩

set_option maxHeartbeats 4000000 in
set_option maxRecDepth 100000 in
theorem write_int (J : Nat → (Nat → Prop) → World → Prop) (k : Nat) (S : Nat → Prop) (pw l p : Nat) (n : Int) (us : List Tr) (A : Option Addr) (m c : Nat) (W : World) (hJ : Foot J) (hj : J k S W)
    (hb : Blk W pw 76 #[.int .i64 (p : Nat), .func (.yield l) #[] #[]]) (hp : p ≤ 262144) :
    Calls Try.prog 43 #[.pointer (some ⟨pw, 0, none⟩), .agg #[.bool true, .int .i64 n, .slice A m c]] W (WriteP J k S pw l p (.mk true n us) W) := by
  go_enter Try.func43, Try.ntmps43
  go_wp2_with (go_at_call 25; go_must (refine (cells_Int _ _).mono ?_); rintro e w' ⟨rfl, rfl⟩)
  go_ret
  unfold WriteP
  rw [putT_int]
  refine ⟨.inl ⟨hp, rfl, hb.alloc _, S, hJ.stab _ _ _ _ hj (fun b h => Below.heap_alloc _ _ _ (hJ.lt _ _ _ hj b h)), fun b h => .inl h⟩, (Kept.refl _ _).alloc _⟩

/-- What the loop over the fields keeps. -/
structure WInv (bx : Array Value) (J : Nat → (Nat → Prop) → World → Prop) (S : Nat → Prop) (pw l p k : Nat) (us : List Tr) (xs0 tl : List Int) (W : World) (i p' k' : Nat) (A : Option Addr) (c : Nat) (ws : List Int) (S' : Nat → Prop) (wr : World) : Prop where
  f1 : (putL us p).2.1 = ws ++ (putL (us.drop i) p').2.1
  f2 : (putL us p).2.2 = (putL (us.drop i) p').2.2
  f3 : xs0.drop k' = (putL (us.drop i) p').1 ++ tl
  f4 : ws.length = i
  f5 : p' ≤ 262144
  f6 : k' + (putL (us.drop i) p').1.length = k + (putL us p).1.length
  row : OwnI wr (W.heap.size + 1) (.slice A i c) ws
  box : Blk wr W.heap.size 33 bx
  off : ∀ a, A = some a → ¬ S' a.block ∧ a.block ≠ pw
  blk : Blk wr pw 76 #[.int .i64 (p' : Nat), .func (.yield l) #[] #[]]
  j : J k' S' wr
  sub : ∀ b, S' b → S b ∨ W.heap.size + 1 ≤ b
  kept : Kept (fun b => S b ∨ b = pw) W wr

theorem word_wf {t : Tr} {p : Nat} (h : (putT t p).2.2 ≤ 262144) : (Lit.int .i64 (putT t p).2.1).wf = true := by
  obtain ⟨b, n, us⟩ := t
  cases b with
  | true => rw [putT_int]; exact wf_word (by dsimp only; unfold intW; omega)
  | false =>
    rw [putT_node] at h ⊢
    dsimp only at h ⊢
    obtain ⟨q, hq⟩ : ∃ q, q = (putL us p).2.2 := ⟨_, rfl⟩
    rw [← hq] at h ⊢
    exact wf_word (by omega)
theorem cat_one {wr : World} {pw : Nat} {x y : Int} {o : Obj} (_hp : pw < wr.heap.size) (hx : 0 ≤ x ∧ x ≤ 4294967296) :
    Ints ((((wr.setCell ⟨pw, 0, none⟩ (.int .i64 y)).alloc (.cells #[.int .i64 x] 3))).alloc o) (wr.heap.size + 1) (some ⟨wr.heap.size, 0, none⟩) 1 1 [x] :=
  ints_of_blk (xs := [x]) ((Blk.new' (by simp) 3 (cellsOf [x])).alloc o) (Nat.lt_succ_self _) (by simp) (by simpa using wf_word hx)
theorem cat_two {wr : World} {pw B : Nat} {y : Int} {o o2 : Obj} {A : Option Addr} {n c : Nat} {ws : List Int} {S' : Nat → Prop} (_hp : pw < wr.heap.size) (h : OwnI wr B (.slice A n c) ws) (hoff : ∀ a, A = some a → ¬ S' a.block ∧ a.block ≠ pw) :
    Ints (((wr.setCell ⟨pw, 0, none⟩ (.int .i64 y)).alloc o).alloc o2) (wr.heap.size + 2) A n c ws := by
  have h1 : OwnI (wr.setCell ⟨pw, 0, none⟩ (.int .i64 y)) B (.slice A n c) ws := h.keep (fun a ha => Below.heap_setCell _ _ _ _ (hoff a ha).2)
  have := ((h1.alloc o).alloc o2).ints
  simpa using this
section
variable {bx : Array Value} {J : Nat → (Nat → Prop) → World → Prop} {S : Nat → Prop} {pw l p k : Nat} {us : List Tr} {xs0 tl : List Int} {W : World} {i p' k' : Nat} {A' : Option Addr} {c' : Nat} {ws : List Int} {S' : Nat → Prop} {wr : World}
theorem WInv.get (_h : WInv bx J S pw l p k us xs0 tl W i p' k' A' c' ws S' wr) (hi : i < us.length) :
    putL (us.drop i) p' = ((putT us[i] p').1 ++ (putL (us.drop (i + 1)) (putT us[i] p').2.2).1, (putT us[i] p').2.1 :: (putL (us.drop (i + 1)) (putT us[i] p').2.2).2.1, (putL (us.drop (i + 1)) (putT us[i] p').2.2).2.2) := by
  rw [List.drop_eq_getElem_cons hi, putL_cons]
theorem WInv.kept2 (h : WInv bx J S pw l p k us xs0 tl W i p' k' A' c' ws S' wr) {o : Obj} {w1 : World} (hk : Kept (fun b => S' b ∨ b = pw) (wr.alloc o) w1) : Kept (fun b => S b ∨ b = pw) W w1 :=
  (h.kept.alloc o).then hk (fun _ _ e => e) (fun b hb e => by
    rcases e with e | e
    · rcases h.sub b e with e | e
      · exact .inl e
      · omega
    · exact .inr e)
theorem WInv.row1 (h : WInv bx J S pw l p k us xs0 tl W i p' k' A' c' ws S' wr) {o o2 : Obj} {w1 : World} (hk : Kept (fun b => S' b ∨ b = pw) (wr.alloc o) w1) : OwnI (w1.alloc o2) (W.heap.size + 1) (.slice A' i c') ws := by
  refine OwnI.alloc (OwnI.keep (h.row.alloc o) fun a ha => ?_) o2
  subst ha
  have := h.row.lt
  have hf := h.off a rfl
  exact hk.block _ (by simp; omega) (by rintro (x | x); exact hf.1 x; exact hf.2 x)
theorem WInv.next (h : WInv bx J S pw l p k us xs0 tl W i p' k' A' c' ws S' wr) (hi : i < us.length) (hJ : Foot J) (hpw : pw < W.heap.size) (hSl : ∀ b, S b → b < W.heap.size) {o o2 : Obj} {w1 w2 : World} {S1 : Nat → Prop} {A2 : Option Addr} {c2 : Nat}
    (hfit : (putT us[i] p').2.2 ≤ 262144) (hb : Blk w1 pw 76 #[.int .i64 ((putT us[i] p').2.2 : Nat), .func (.yield l) #[] #[]]) (hj : J (k' + (putT us[i] p').1.length) S1 w1) (hs : ∀ b, S1 b → S' b ∨ (wr.alloc o).heap.size ≤ b)
    (hk : Kept (fun b => S' b ∨ b = pw) (wr.alloc o) w1) (hrow : OwnI w2 (W.heap.size + 1) (.slice A2 (i + 1) c2) (ws ++ [(putT us[i] p').2.1])) (hg : (w1.alloc o2).grownBy w2 (Value.slice A' i c').ownBlock)
    (hnew : ∀ a', A2 = some a' → (Value.slice A' i c').ownBlock = some a'.block ∨ (w1.alloc o2).heap.size ≤ a'.block) :
    WInv bx J S pw l p k us xs0 tl W (i + 1) (putT us[i] p').2.2 (k' + (putT us[i] p').1.length) A2 c2 (ws ++ [(putT us[i] p').2.1]) S1 w2 := by
  have hget := h.get hi
  have f1 := h.f1
  have f2 := h.f2
  have f3 := h.f3
  have f6 := h.f6
  rw [hget] at f1 f2 f3 f6
  have hsz : (wr.alloc o).heap.size = wr.heap.size + 1 := by simp
  have hsz2 : (w1.alloc o2).heap.size = w1.heap.size + 1 := by simp
  have hk1 := hk.size
  have hkw := h.kept.size
  -- the old row's block
  have hold : ∀ g, (Value.slice A' i c').ownBlock = some g → g < wr.heap.size ∧ W.heap.size + 1 ≤ g ∧ ¬ S' g ∧ g ≠ pw := by
    intro g hg
    cases hA : A' with
    | none => rw [hA] at hg; simp [Value.ownBlock] at hg
    | some a =>
      rw [hA] at hg
      simp only [Value.ownBlock, Option.some.injEq] at hg
      subst hg
      have h1 := h.row
      rw [hA] at h1
      have := h1.lt
      have hf := h.off a hA
      exact ⟨this.2, this.1, hf.1, hf.2⟩
  have hnS : ∀ g, g < wr.heap.size → ¬ S' g → ¬ S1 g := fun g h1 h2 h3 => by
    rcases hs g h3 with h4 | h4
    · exact h2 h4
    · omega
  refine ⟨by rw [f1]; simp, f2, ?_, by simp [h.f4], hfit, by simp only [List.length_append] at f6; omega, hrow, ?_, ?_, ?_, ?_, ?_, ?_⟩
  · rw [← List.drop_drop, f3, List.append_assoc, List.drop_left]
  · have hbl := h.box.lt
    have hb1 : Blk w1 W.heap.size 33 bx := (hk.block _ (by omega) (by
      rintro (e | e)
      · rcases h.sub _ e with e | e
        · have := hSl _ e; omega
        · omega
      · omega)).trans (h.box.alloc o)
    refine (hb1.alloc o2).grown hg (fun h1 => ?_)
    have := (hold _ h1.symm).2.1
    omega
  · intro a ha
    rcases hnew a ha with h1 | h1
    · obtain ⟨h2, h3, h4, h5⟩ := hold _ h1
      exact ⟨hnS _ h2 h4, h5⟩
    · refine ⟨fun h2 => ?_, by omega⟩
      have := hJ.lt _ _ _ hj _ h2
      omega
  · refine (hb.alloc o2).grown hg ?_
    intro h1
    exact (hold _ h1.symm).2.2.2 rfl
  · refine hJ.stab _ _ _ _ hj (fun b hb1 => ?_)
    have hlt := hJ.lt _ _ _ hj _ hb1
    refine (hg.block b (by omega) (fun h1 => ?_)).trans (Below.heap_alloc _ _ _ hlt)
    obtain ⟨h2, h3, h4, h5⟩ := hold _ h1.symm
    exact hnS _ h2 h4 hb1
  · intro b hb1
    rcases hs b hb1 with h1 | h1
    · exact h.sub b h1
    · exact .inr (by omega)
  · have hk2 : Kept (fun b => S b ∨ b = pw) W w1 := (h.kept.alloc o).then hk (fun _ _ e => e) (fun b hb e => by
      rcases e with e | e
      · rcases h.sub b e with e | e
        · exact .inl e
        · omega
      · exact .inr e)
    exact (hk2.alloc o2).grown hg (fun g hg => .inr (by have := (hold g hg).2.1; omega))
theorem WInv.start (t : TypeId) (ht : t = 33) (hj : J k S W) (hb : Blk W pw 76 #[.int .i64 (p : Nat), .func (.yield l) #[] #[]]) (hJ : Foot J) (hp : p ≤ 262144) (hxs : xs0.drop k = (putL us p).1 ++ tl) :
    WInv bx J S pw l p k us xs0 tl W 0 p k none 0 [] S (W.alloc (.cells bx t)) :=
  ⟨by simp, by simp, by simpa using hxs, rfl, hp, by simp, OwnI.nil _ _, by subst ht; exact Blk.new _ _ _, fun a ha => (by cases ha), hb.alloc _, hJ.stab _ _ _ _ hj (fun b h => Below.heap_alloc _ _ _ (hJ.lt _ _ _ hj b h)), fun b h => .inl h, (Kept.refl _ _).alloc _⟩
end

theorem drop_at {xs0 L rest : List Int} {k' j : Nat} (h : xs0.drop k' = L ++ rest) (hj : j < L.length) : ∃ hk : k' + j < xs0.length, xs0[k' + j] = gw L j := by
  have h1 : (xs0.drop k')[j]? = L[j]? := by rw [h, List.getElem?_append_left hj]
  rw [List.getElem?_drop, gw_get? hj] at h1
  obtain ⟨hk, he⟩ := List.getElem?_eq_some_iff.1 h1
  exact ⟨hk, he⟩
/-- What the loop over the words keeps. -/
structure YInv (J : Nat → (Nat → Prop) → World → Prop) (S : Nat → Prop) (pw l k' q R0 n4 : Nat) (W : World) (A4 : Option Addr) (c4 : Nat) (L : List Int) (j : Nat) (S2 : Nat → Prop) (w5 : World) : Prop where
  row : OwnI w5 R0 (.slice A4 n4 c4) L
  off : ∀ a, A4 = some a → ¬ S2 a.block
  offp : ¬ S2 pw
  blk : Blk w5 pw 76 #[.int .i64 (q : Nat), .func (.yield l) #[] #[]]
  j : J (k' + j) S2 w5
  sub : ∀ b, S2 b → S b ∨ W.heap.size ≤ b
  kept : Kept (fun b => S b ∨ b = pw) W w5
section
variable {bx : Array Value} {J : Nat → (Nat → Prop) → World → Prop} {S : Nat → Prop} {pw l p k : Nat} {us : List Tr} {xs0 tl : List Int} {W : World} {i p' k' : Nat} {A' : Option Addr} {c' : Nat} {ws : List Int} {S' : Nat → Prop} {wr : World}
theorem YInv.start (h : WInv bx J S pw l p k us xs0 tl W i p' k' A' c' ws S' wr) (hJ : Foot J) (hpw : pw < W.heap.size) (hSp : ¬ S pw) {q : Nat} {o o2 : Obj} {w4 : World} {A4 : Option Addr} {c4 n4 : Nat} {L : List Int} {y : Int} (hy : y = q)
    (hb : Below (((wr.setCell ⟨pw, 0, none⟩ (.int .i64 y)).alloc o).alloc o2).heap.size (((wr.setCell ⟨pw, 0, none⟩ (.int .i64 y)).alloc o).alloc o2) w4)
    (ho : OwnI w4 (((wr.setCell ⟨pw, 0, none⟩ (.int .i64 y)).alloc o).alloc o2).heap.size (.slice A4 n4 c4) L) :
    YInv J S pw l k' q (wr.heap.size + 2) n4 W A4 c4 L 0 S' w4 := by
  subst hy
  have hsz : (((wr.setCell ⟨pw, 0, none⟩ (.int .i64 q)).alloc o).alloc o2).heap.size = wr.heap.size + 2 := by simp
  rw [hsz] at hb ho
  have hlt := hJ.lt _ _ _ h.j
  have hnp : ¬ S' pw := fun e => by
    rcases h.sub _ e with e | e
    · exact hSp e
    · omega
  have hkw := h.kept.size
  refine ⟨ho, ?_, hnp, ?_, ?_, fun b hb => (h.sub b hb).imp id (fun e => by omega), ?_⟩
  · intro a ha hs
    subst ha
    have := ho.lt
    have := hlt _ hs
    omega
  · exact ((((h.blk.set_ 0 (.int .i64 (q : Nat))).alloc o).alloc o2).below hb (by omega) : Blk w4 pw _ _)
  · refine hJ.stab _ _ _ _ h.j (fun b hb1 => ?_)
    have := hlt _ hb1
    have hne : b ≠ pw := fun e => hnp (e ▸ hb1)
    refine (hb.block b (by omega)).trans ((Below.heap_alloc _ _ _ (by simp; omega)).trans ((Below.heap_alloc _ _ _ (by simp; omega)).trans (Below.heap_setCell _ _ _ _ hne)))
  · have h1 := (((h.kept.setCell (p := ⟨pw, 0, none⟩) (.inl (.inr rfl)) (.int .i64 (q : Nat))).alloc o).alloc o2)
    exact h1.then (T := fun _ => False) (Kept.of_below (by rw [hsz]; exact hb) _) (fun _ _ e => e) (fun _ _ e => e.elim)
theorem YInv.next {R0 n4 q j : Nat} {A4 : Option Addr} {c4 : Nat} {L : List Int} {S2 S3 : Nat → Prop} {w5 w6 : World} (h : YInv J S pw l k' q R0 n4 W A4 c4 L j S2 w5) (_hpw : pw < W.heap.size)
    (hj : J (k' + (j + 1)) S3 w6) (hs : ∀ b, S3 b → S2 b ∨ w5.heap.size ≤ b) (hk : Kept S2 w5 w6) : YInv J S pw l k' q R0 n4 W A4 c4 L (j + 1) S3 w6 := by
  have hkw := h.kept.size
  have hblk := h.blk.lt
  refine ⟨?_, ?_, ?_, ?_, hj, ?_, ?_⟩
  · refine h.row.keep (fun a ha => ?_)
    subst ha
    have := h.row.lt
    exact hk.block _ this.2 (h.off a rfl)
  · intro a ha hs3
    subst ha
    have := h.row.lt
    rcases hs _ hs3 with e | e
    · exact h.off a rfl e
    · omega
  · intro hs3
    rcases hs _ hs3 with e | e
    · exact h.offp e
    · omega
  · exact (hk.block _ hblk h.offp).trans h.blk
  · intro b hb
    rcases hs _ hb with e | e
    · exact h.sub b e
    · right; omega
  · exact h.kept.then hk (fun _ _ e => e) (fun b hb e => by
      rcases h.sub b e with e | e
      · exact .inl e
      · omega)
end
set_option maxHeartbeats 4000000 in
set_option maxRecDepth 100000 in
theorem write_node (J : Nat → (Nat → Prop) → World → Prop) (k : Nat) (S : Nat → Prop) (pw l p B d : Nat) (n : Int) (us : List Tr) (A : Option Addr) (c : Nat) (xs0 rest : List Int) (W : World) (hJ : Foot J)
    (hR : RoundF Fence.wide 0 Try.prog l encI xs0 J) (hj : J k S W) (hS : ¬ S pw)
    (hb : Blk W pw 76 #[.int .i64 (p : Nat), .func (.yield l) #[] #[]]) (hrow : RowV W B us A 0) (hSB : ∀ b, S b → B ≤ b) (hpB : B ≤ pw) (hB : B ≤ W.heap.size) (hp : p ≤ 262144) (h0 : 0 ≤ n) (h32 : n < 32) (h8 : us.length ≤ 8) (hmay : mayL us (d + 1) = true)
    (hxs : xs0.drop k = (putT (.mk false n us) p).1 ++ rest)
    (ih : ∀ t ∈ us, ∀ (k : Nat) (S : Nat → Prop) (p : Nat) (v : Value) (rest : List Int) (W : World), J k S W → ¬ S pw →
      Blk W pw 76 #[.int .i64 (p : Nat), .func (.yield l) #[] #[]] → VAt W B t v → (∀ b, S b → B ≤ b) → B ≤ W.heap.size → p ≤ 262144 → mayB t (d + 1) = true → xs0.drop k = (putT t p).1 ++ rest →
      Calls Try.prog 43 #[.pointer (some ⟨pw, 0, none⟩), v] W (WriteP J k S pw l p t W)) :
    Calls Try.prog 43 #[.pointer (some ⟨pw, 0, none⟩), .agg #[.bool false, .int .i64 n, .slice A us.length c]] W (WriteP J k S pw l p (.mk false n us) W) := by
  rw [putT_node, List.append_assoc] at hxs
  have HX := hid (And.intro hxs (And.intro hrow (And.intro hSB (And.intro hpB (And.intro hB (And.intro hmay (And.intro hJ hR)))))))
  have HJ := hid (And.intro hj (And.intro hS (And.intro hb hp)))
  have HI := hid ih
  clear hxs hrow hSB hpB hB hmay hR hj hS ih hJ
  have hlt := hb.lt
  clear hb hp
  refine callsIn_wide (n := 5) |>.1 ?_
  refine callsIn_of_wp Try.func43 rfl trivial ?_ rfl
  simp only [Try.ntmps43, List.size_toArray, List.length_cons, List.length_nil, Nat.reduceAdd, Nat.reduceSub, Array.replicate_succ, Array.replicate_zero, List.push_toArray, List.append_toArray, List.nil_append, List.cons_append]
  gi_wp2
  gi_loopg [5, 23] us.length (fun g lv x wr => ∃ (i p' k' : Nat) (A' : Option Addr) (c' : Nat) (ws : List Int) (S' : Nat → Prop), i + g = us.length ∧ x = .int .i64 i ∧ lv = .slice A' i c' ∧ Hid (WInv #[.bool false, .int .i64 n, .slice A us.length c] J S pw l p k us xs0 ((512 * n + 2 * us.length + 1) :: (putL us p).2.1 ++ rest) W i p' k' A' c' ws S' wr))
  case atStart => exact ⟨0, p, k, none, 0, [], S, by omega, rfl, rfl, hid (WInv.start _ rfl HJ.out.1 HJ.out.2.2.1 HX.out.2.2.2.2.2.2.1 HJ.out.2.2.2 HX.out.1)⟩
  case round =>
    obtain ⟨i, p', k', A', c', ws, S', hi, rfl, rfl, hw⟩ := hrel
    have Hi := hid hi
    by_cases hlti : i < us.length
    · obtain ⟨ad, v0, v1, v2, rfl, q0, q1, q2, q3, q4⟩ := HX.out.2.1.get hlti
      have e := fun (j : Nat) (hj : j < B) => hw.out.kept.block j (by have := HX.out.2.2.2.2.1; omega) (by rintro (x | x); have := HX.out.2.2.1 j x; omega; have := HX.out.2.2.2.1; omega)
      have ec : ∀ a : Addr, a.block < B → wr.cell? a = W.cell? a := fun a ha => World.cell?_of_block (w := W) (e _ ha)
      rw [Nat.zero_add] at q1 q2 q3
      have eb : (ad.add (i * 3)).block = ad.block := (by unfold Addr.add; split <;> rfl)
      have y1 := (ec _ (by rw [eb]; exact q0)).trans q1
      have y2 := (ec _ (by dsimp only; rw [eb]; exact q0)).trans q2
      have y3 := (ec _ (by dsimp only; rw [eb]; exact q0)).trans q3
      obtain ⟨b', n', A3, m', c3, rfl, rfl, rfl⟩ := q4.agg
      have Q4 := hid (q4.keep (w' := wr) e)
      have hBw : B ≤ wr.heap.size := Nat.le_trans HX.out.2.2.2.2.1 hw.out.kept.size
      have Hm := hid (And.intro (List.getElem_mem hlti) (And.intro (mayL_mem HX.out.2.2.2.2.2.1 _ (List.getElem_mem hlti)) (And.intro hBw (hw.out.get hlti))))
      have HS' : Hid (¬ S' pw ∧ ∀ b, S' b → B ≤ b) := hid ⟨fun h => (by rcases hw.out.sub _ h with h | h; exact HJ.out.2.1 h; omega), fun b h => (by rcases hw.out.sub _ h with h | h; exact HX.out.2.2.1 b h; have := HX.out.2.2.2.2.1; omega)⟩
      have hlt' : (i : Int) < us.length := by omega
      clear hi e ec q1 q2 q3 q4 eb q0 hBw
      by_cases hfit : (putT us[i] p').2.2 ≤ 262144
      · have HF := hid hfit
        clear hfit
        gi_wp2_with (first
          | (refine ⟨trivial, ?_⟩; gi_at_call 43; go_must (refine (callsIn_wide.2 (HI.out us[i] Hm.out.1 k' S' p' _ ((putL (us.drop (i + 1)) (putT us[i] p').2.2).1 ++ ((512 * n + 2 * us.length + 1) :: (putL us p).2.1 ++ rest)) _ (HX.out.2.2.2.2.2.2.1.stab _ _ _ _ hw.out.j (fun b h => Below.heap_alloc _ _ _ (HX.out.2.2.2.2.2.2.1.lt _ _ _ hw.out.j b h))) HS'.out.1 (hw.out.blk.alloc _) (Q4.out.keep (fun j hj => Below.heap_alloc _ _ _ (by have := Hm.out.2.2.1; omega))) HS'.out.2 (by have := Hm.out.2.2.1; simp; omega) hw.out.f5 Hm.out.2.1 (by rw [hw.out.f3, Hm.out.2.2.2, List.append_assoc]))).mono ?_); intro e w1 hP; obtain ⟨rfl, hb1, ⟨S1, hj1, hs1⟩, hk1⟩ := hP.yes HF.out)
          | (gi_at_builtin; go_must (refine wpListIn_appI (by rfl) _ _ (by rfl) (W.heap.size + 1) (by rfl) (hw.out.row1 hk1) (by rfl) (ints_one (word_wf HF.out)) (by rw [hw.out.f4]; omega) (by have h1 := hw.out.box.lt; have h2 := hk1.size; simp at h2 ⊢; omega) ?_); intro A2 c2 w2 hr2 hg2 hn2; go_must (simp only [hw.out.f4] at hr2 ⊢; have N := hid (hw.out.next hlti HX.out.2.2.2.2.2.2.1 hlt (HX.out.2.2.2.2.2.2.1.lt _ _ _ HJ.out.1) HF.out hb1 hj1 hs1 hk1 hr2 hg2 hn2); clear hr2 hg2 hn2 hb1 hj1 hs1 hk1 hP)))
        have hgk := Hi.out
        gi_roundg (gk - 1)
        case rel => exact ⟨i + 1, _, _, A2, c2, _, S1, by omega, rfl, rfl, N⟩
        case measure => omega
      · have HF := hid hfit
        clear hfit
        gi_wp2_with (refine ⟨trivial, ?_⟩; gi_at_call 43; go_must (refine (callsIn_wide.2 (HI.out us[i] Hm.out.1 k' S' p' _ ((putL (us.drop (i + 1)) (putT us[i] p').2.2).1 ++ ((512 * n + 2 * us.length + 1) :: (putL us p).2.1 ++ rest)) _ (HX.out.2.2.2.2.2.2.1.stab _ _ _ _ hw.out.j (fun b h => Below.heap_alloc _ _ _ (HX.out.2.2.2.2.2.2.1.lt _ _ _ hw.out.j b h))) HS'.out.1 (hw.out.blk.alloc _) (Q4.out.keep (fun j hj => Below.heap_alloc _ _ _ (by have := Hm.out.2.2.1; omega))) HS'.out.2 (by have := Hm.out.2.2.1; simp; omega) hw.out.f5 Hm.out.2.1 (by rw [hw.out.f3, Hm.out.2.2.2, List.append_assoc]))).mono ?_); intro e w1 hP; obtain ⟨rfl, hj1, hk1⟩ := hP.no HF.out)
        refine ⟨rfl, .inr ⟨?_, rfl, hj1⟩, hw.out.kept2 hk1⟩
        have h1 := hw.out.f2
        rw [Hm.out.2.2.2] at h1
        have h2 := putL_len (us.drop (i + 1)) (putT us[i] p').2.2
        have h3 := HF.out
        rw [putT_node]
        dsimp only at h1 ⊢
        omega
    · have hil : i = us.length := by omega
      subst hil
      obtain ⟨g1, g2, g3, g4, g5, g6, g7, g8, g9, g10, g11, g12, g13⟩ := hw.out
      rw [List.drop_length, putL_nil] at g1 g2 g3 g6
      simp only [List.append_nil, List.nil_append, List.length_nil, Nat.add_zero] at g1 g2 g3 g6
      have HWI := hw
      have g3' := g3
      obtain ⟨R0, hR0⟩ : ∃ R0, R0 = wr.heap.size + 2 := ⟨_, rfl⟩
      have x0 : wr.cell? ⟨pw, 0, none⟩ = some (.int .i64 (p' : Nat)) := g10.cell 0
      have x1 : wr.cell? ⟨pw, 1, none⟩ = some (.func (.yield l) #[] #[]) := g10.cell 1
      have k0 := g10.frozen 0
      have hpwne : pw ≠ W.heap.size := by omega
      have z1 : wr.cell? ⟨W.heap.size, 1, none⟩ = some (.int .i64 n) := g8.cell 1
      have e1 : IntKind.i64.wrap ((us.length : Int) + 1) = us.length + 1 := IntWalk.i64_in _ (by omega)
      have e2 : IntKind.i64.wrap ((p' : Int) + (us.length + 1)) = p' + (us.length + 1) := IntWalk.i64_in _ (by omega)
      have HR0 := hid hR0
      have HG3 := hid (And.intro g3' (And.intro g1 g6))
      clear hR0 g3'
      have G := hid (And.intro g1 (And.intro g2 (And.intro g3 (And.intro g4 (And.intro g5 (And.intro g6 (And.intro g7 (And.intro g8 (And.intro g9 (And.intro g10 (And.intro g11 (And.intro g12 g13))))))))))))
      clear g1 g2 g3 g4 g6 g7 g8 g9 g10 g11 g12 g13 hw hi
      by_cases hfit : (p' : Int) + (us.length + 1) ≤ 262144
      · have hh : hdV n us.length = .tuple #[.int .i64 (512 * n + 2 * us.length + 1), .int .i64 0] := by unfold hdV; exact if_pos (by omega)
        have Hh := hid hh
        have hpw0 : Hid (pw < wr.heap.size) := hid G.out.2.2.2.2.2.2.2.2.2.1.lt
        clear hh
        gi_wp2_with (first
          | (refine ⟨trivial, ?_⟩; gi_at_call 8; go_must (refine (callsIn_wide.2 (cells_Head _ _ _)).mono ?_); rw [Hh.out]; rintro e w' ⟨rfl, rfl⟩)
          | (refine ⟨trivial, ?_⟩; gi_at_call 45; go_must (refine (callsIn_wide.2 (slices_Concat (wr.heap.size + 1) ⟨wr.heap.size, 0, none⟩ A' 1 us.length c' (wr.heap.size + 1) (wr.heap.size + 2) (512 * n + 2 * us.length + 1) ws _ (Blk.new' (by simp) _ _) (cat_one hpw0.out (by omega)) (cat_two hpw0.out G.out.2.2.2.2.2.2.1 G.out.2.2.2.2.2.2.2.2.1) (by simp) (by simp) (by omega))).mono ?_); rintro e w4 ⟨⟨A4, c4, rfl, ho4⟩, b4⟩)
          | (refine ⟨trivial, ?_⟩; gi_at_call 40; go_must (refine (callsIn_wide.2 (cells_want _ _ _)).mono ?_); (first | simp only [wantE_ok] | simp only [wantE_no]); rintro e w' ⟨rfl, rfl⟩))
        have hwi := HWI.out
        have Y := hid (HR0.out ▸ YInv.start hwi HX.out.2.2.2.2.2.2.1 hlt HJ.out.2.1 (q := p' + us.length + 1) (by omega) b4 ho4)
        clear ho4 b4 G x0 x1 k0 z1 e1 e2 g5 hwi
        gi_loopg [68] (1 + us.length) (fun g x wr => ∃ (j : Nat) (S2 : Nat → Prop), j + g = 1 + us.length ∧ x = .int .i64 j ∧ Hid (YInv J S pw l k' (p' + us.length + 1) R0 (1 + us.length) W A4 c4 ((512 * n + 2 * us.length + 1) :: ws) j S2 wr))
        case atStart => exact ⟨0, S', by omega, rfl, Y⟩
        case round =>
          obtain ⟨j, S2, hj, rfl, hy⟩ := hrel
          have Hj := hid hj
          have hxd : xs0.drop k' = ((512 * n + 2 * us.length + 1) :: ws) ++ rest := by rw [HG3.out.1, HG3.out.2.1]
          have hLl : ((512 * n + 2 * us.length + 1) :: ws).length = 1 + us.length := by rw [List.length_cons, HWI.out.f4]; omega
          obtain ⟨L, hL⟩ : ∃ L, L = (512 * n + 2 * us.length + 1) :: ws := ⟨_, rfl⟩
          rw [← hL] at hxd hLl hy
          by_cases hltj : j < 1 + us.length
          · obtain ⟨ad, rfl⟩ := hy.out.row.ints.some_ hltj
            have q1 := hy.out.row.ints.cell hltj
            have x1 : wr.cell? ⟨pw, 1, none⟩ = some (.func (.yield l) #[] #[]) := hy.out.blk.cell 1
            obtain ⟨hkl, hxe⟩ := drop_at hxd (j := j) (by rw [hLl]; exact hltj)
            obtain ⟨fn, tmps, assign, body, hy2, hRr⟩ := (HX.out.2.2.2.2.2.2.2.wide (m' := 4)) (k' + j) hkl S2 wr hy.out.j
            rw [hxe] at hy2
            simp only [encI] at hy2
            have HL := hid (And.intro hxd (And.intro hLl hL))
            have hlt' : (j : Int) < 1 + us.length := by omega
            clear hj hxd hLl hL hxe
            gi_wp2
            refine hRr.mono ?_
            rintro e w6 ⟨rfl, S3, hj3, hs3, hk3⟩
            have N := hid (hy.out.next hlt hj3 hs3 hk3)
            clear hj3 hs3 hk3 hy2 hRr q1 x1
            gi_wp2
            have hgk := Hj.out
            gi_roundg (gk - 1)
            case rel => exact ⟨j + 1, S3, by omega, rfl, by rw [← HL.out.2.2]; exact N⟩
            case measure => omega
          · obtain rfl : j = 1 + us.length := by omega
            have hpt : ptV p' = .tuple #[.int .i64 (1024 + 4 * p'), .int .i64 0] := by unfold ptV; exact if_pos (by omega)
            have Hpt := hid hpt
            clear hpt hj hxd hL
            gi_wp2_with (refine ⟨trivial, ?_⟩; gi_at_call 10; go_must (refine (callsIn_wide.2 (cells_Pointer _ _)).mono ?_); rw [Hpt.out]; rintro e w' ⟨rfl, rfl⟩)
            go_ret
            have f2 := HWI.out.f2
            rw [List.drop_length, putL_nil] at f2
            dsimp only at f2
            refine ⟨.inl ⟨?_, ?_, ?_, S2, ?_, hy.out.sub⟩, hy.out.kept⟩
            · rw [putT_node]; dsimp only; omega
            · rw [putT_node]; dsimp only; rw [f2]; rfl
            · rw [putT_node]; dsimp only; rw [f2]; exact hy.out.blk
            · have h1 := hy.out.j
              have h2 := HG3.out.2.2
              rw [putT_node]
              dsimp only
              rw [List.length_append, List.length_cons, putL_length, ← Nat.add_assoc, ← h2, show us.length + 1 = 1 + us.length from by omega]
              exact h1
      · have hn : ¬ (p' : Int) + (us.length + 1) ≤ 262144 := hfit
        clear hfit
        gi_wp2_with (refine ⟨trivial, ?_⟩; gi_at_call 40; go_must (refine (callsIn_wide.2 (cells_want _ _ _)).mono ?_); (first | simp only [wantE_ok] | simp only [wantE_no]); rintro e w' ⟨rfl, rfl⟩)
        have hwi := HWI.out
        have f2 := hwi.f2
        rw [List.drop_length, putL_nil] at f2
        dsimp only at f2
        have hpj : ¬ S' pw := fun e => by
          rcases hwi.sub _ e with e | e
          · exact HJ.out.2.1 e
          · omega
        refine ⟨rfl, .inr ⟨?_, rfl, k', S', HX.out.2.2.2.2.2.2.1.stab _ _ _ _ hwi.j (fun b hb => Below.heap_setCell _ _ _ _ (by rintro rfl; exact hpj hb))⟩, hwi.kept.setCell (.inl (.inr rfl)) _⟩
        rw [putT_node]; dsimp only; omega
end Go.Proofs.Ytgakmfcnddholaa
