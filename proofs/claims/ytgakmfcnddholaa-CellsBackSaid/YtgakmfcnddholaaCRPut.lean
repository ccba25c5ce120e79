/-
  THE WALK OF athanorref27.put: the words of a value's objects, behind words that are there.
-/
import Derived.Test.YtgakmfcnddholaaCRMay
import Derived.Test.YtgakmfcnddholaaCWrite
namespace Go.Proofs.Ytgakmfcnddholaa
open Go.ChangeShapes Go.WideShapes Go.ChangeAt Go.RowKit

def ptR (k : Nat) : Int := if k < 262144 then 1024 + 4 * (k : Int) else 0
mutual
def putR : Tr → Nat → List Int × Int × Nat
  | .mk b n us, p => if b then ([], intW n, p) else
      ((putRL us p).1 ++ ((512 * n + 2 * us.length + 1) :: (putRL us p).2.1), ptR (putRL us p).2.2, (putRL us p).2.2 + us.length + 1)
def putRL : List Tr → Nat → List Int × List Int × Nat
  | [], p => ([], [], p)
  | t :: ts, p => ((putR t p).1 ++ (putRL ts (putR t p).2.2).1, (putR t p).2.1 :: (putRL ts (putR t p).2.2).2.1, (putRL ts (putR t p).2.2).2.2)
end
theorem putR_int (n : Int) (us : List Tr) (p : Nat) : putR (.mk true n us) p = ([], intW n, p) := by rw [putR]; rfl
theorem putR_node (n : Int) (us : List Tr) (p : Nat) : putR (.mk false n us) p = ((putRL us p).1 ++ ((512 * n + 2 * us.length + 1) :: (putRL us p).2.1), ptR (putRL us p).2.2, (putRL us p).2.2 + us.length + 1) := by rw [putR]; rfl
theorem putRL_nil (p : Nat) : putRL [] p = ([], [], p) := by rw [putRL]
theorem putRL_cons (t : Tr) (ts : List Tr) (p : Nat) : putRL (t :: ts) p = ((putR t p).1 ++ (putRL ts (putR t p).2.2).1, (putR t p).2.1 :: (putRL ts (putR t p).2.2).2.1, (putRL ts (putR t p).2.2).2.2) := by rw [putRL]
mutual
/-- Both put as many words; where they fit, the same. -/
theorem putR_same : ∀ (t : Tr) (p : Nat), (putR t p).2.2 = (putT t p).2.2 ∧ (putR t p).1.length = (putT t p).1.length ∧ ((putT t p).2.2 ≤ 262144 → putR t p = putT t p)
  | .mk b n us, p => by
    cases b with
    | true => rw [putR_int, putT_int]; simp
    | false =>
      obtain ⟨h1, h2, h3, h4⟩ := putRL_same us p
      rw [putR_node, putT_node]
      refine ⟨by dsimp only; omega, by simp [h2, h3], fun h => ?_⟩
      dsimp only at h
      rw [h4 (by omega)]
      unfold ptR
      rw [if_pos (by omega)]
theorem putRL_same : ∀ (ts : List Tr) (p : Nat), (putRL ts p).2.2 = (putL ts p).2.2 ∧ (putRL ts p).1.length = (putL ts p).1.length ∧ (putRL ts p).2.1.length = (putL ts p).2.1.length ∧ ((putL ts p).2.2 ≤ 262144 → putRL ts p = putL ts p)
  | [], p => by rw [putRL_nil, putL_nil]; simp
  | t :: ts, p => by
    obtain ⟨h1, h2, h3⟩ := putR_same t p
    obtain ⟨g1, g2, g3, g4⟩ := putRL_same ts (putT t p).2.2
    have hl := putL_len ts (putT t p).2.2
    rw [putRL_cons, putL_cons, h1]
    refine ⟨g1, by simp [h2, g2], by simp [g3], fun h => ?_⟩
    dsimp only at h
    rw [h3 (by omega), g4 (by omega)]
end
theorem putR_len (t : Tr) (p : Nat) : (putR t p).2.2 = p + (putR t p).1.length := by
  obtain ⟨h1, h2, _⟩ := putR_same t p
  rw [h1, h2]; exact putT_len t p
theorem putRL_len (ts : List Tr) (p : Nat) : (putRL ts p).2.2 = p + (putRL ts p).1.length := by
  obtain ⟨h1, h2, _⟩ := putRL_same ts p
  rw [h1, h2]; exact putL_len ts p
def InW4 (r : List Int × Int × Nat) : Prop := (∀ x ∈ r.1, 0 ≤ x ∧ x ≤ 4294967296) ∧ (0 ≤ r.2.1 ∧ r.2.1 ≤ 4294967296)
mutual
theorem putR_wf : ∀ (t : Tr) (p d : Nat), mayB t d = true → InW4 (putR t p)
  | .mk b n us, p, d, hm => by
    cases b with
    | true => rw [putR_int]; exact ⟨by simp, by dsimp only; unfold intW; omega⟩
    | false =>
      rw [putR_node]
      rw [mayB_node] at hm
      simp only [Bool.and_eq_true, decide_eq_true_eq] at hm
      obtain ⟨h1, h2⟩ := putRL_wf us p (d + 1) hm.2.2
      refine ⟨fun x hx => ?_, by dsimp only; unfold ptR; split <;> omega⟩
      rcases List.mem_append.1 hx with hx | hx
      · exact h1 x hx
      · rcases List.mem_cons.1 hx with rfl | hx
        · omega
        · exact h2 x hx
theorem putRL_wf : ∀ (ts : List Tr) (p d : Nat), mayL ts d = true → (∀ x ∈ (putRL ts p).1, 0 ≤ x ∧ x ≤ 4294967296) ∧ (∀ x ∈ (putRL ts p).2.1, 0 ≤ x ∧ x ≤ 4294967296)
  | [], p, d, _ => by rw [putRL_nil]; simp
  | t :: ts, p, d, hm => by
    rw [putRL_cons]
    rw [mayL, Bool.and_eq_true] at hm
    obtain ⟨h1, h2⟩ := putR_wf t p d hm.1
    obtain ⟨h3, h4⟩ := putRL_wf ts (putR t p).2.2 d hm.2
    refine ⟨fun x hx => ?_, fun x hx => ?_⟩
    · rcases List.mem_append.1 hx with hx | hx
      · exact h1 x hx
      · exact h3 x hx
    · rcases List.mem_cons.1 hx with rfl | hx
      · exact h2
      · exact h4 x hx
end

/-- append onto a row of integers of one's own, whatever is appended: the row lies where it lay, or in a new block. -/
theorem wpList_appN {w : World} {ops : Array Oper} {rest : List Oper} {o : Oper} {a : Act} {Q : Exit → Act → World → Prop} (hgd : o.guard = none) (s x : Operand)
    (ho : o.op = .call { callee := .builtin .append, args := #[s, x], argTypes := #[36, 36] })
    (B : Nat) {A0 : Option Addr} {c0 n0 : Nat} {xs : List Int} (hs : a.eval s = .slice A0 n0 c0) (hown : OwnI w B (.slice A0 n0 c0) xs) {A : Option Addr} {n c Bi : Nat} {ys : List Int} (hx : a.eval x = .slice A n c) (hi : Ints w Bi A n c ys)
    (hlen : xs.length + n ≤ 1000000) (hB : B ≤ w.heap.size)
    (h : ∀ A' c' w', OwnI w' B (.slice A' (n0 + n) c') (xs ++ ys) → Kept (fun b => ∃ a, A0 = some a ∧ b = a.block) w w' → (∀ a', A' = some a' → (∃ a, A0 = some a ∧ a.block = a'.block) ∨ w.heap.size ≤ a'.block) → wpList Try.prog ops Q rest (a.put o.dst (.slice A' (n0 + n) c')) w') : wpList Try.prog ops Q (o :: rest) a w := by
  have hn0 : n0 = xs.length := by
    obtain ⟨A9, c9, hv, _⟩ := hown.slice
    injection hv
  subst hn0
  cases A with
  | none =>
    obtain ⟨rfl, rfl⟩ := hi.nil rfl
    obtain rfl : ys = [] := List.length_eq_zero_iff.1 hi.len.symm
    obtain ⟨i, hi1, hz, hs1, hs2⟩ := info_int.parts
    have hrow : w.ownsRow B 3 1 (.slice A0 xs.length c0) xs.length (xs.map (.int .i64)) := by have := hown.own; unfold Own at this; rwa [List.length_map] at this
    refine wpList_append_own_none (P := Try.prog) hgd s x 36 ho B 3 i 1 Try.underlying36 hi1 _ xs.length _ hs hrow hx ?_
    have := h A0 c0 w (by simpa using hown) (Kept.refl _ _) (fun a' ha => .inl ⟨a', ha, rfl⟩)
    simpa using this
  | some ad =>
    refine wpList_plain hgd fun _ hK => ?_
    obtain ⟨A', c', w', hr, r1, r2, r3⟩ := run_appN w o.type B hown hi hlen hB
    unfold Oper.wp execOp
    simp only [ho, resolve, invoke, builtin, Sem.run_bind, Sem.run_pure, Result.andThen_ok, List.map_toArray, List.map_cons, List.map_nil, hs, hx]
    rw [hr]
    have hob : ∀ g, (Value.slice A0 xs.length c0).ownBlock = some g → ∃ a, A0 = some a ∧ g = a.block := by
      intro g hg
      cases A0 with
      | none => simp [Value.ownBlock] at hg
      | some a0 => simp only [Value.ownBlock, Option.some.injEq] at hg; exact ⟨a0, rfl, hg.symm⟩
    refine hK _ _ (h A' c' w' r1 ((Kept.refl _ _).grown r2 (fun k hk => .inl (hob k hk))) (fun a' ha => ?_))
    rcases r3 a' ha with h1 | h1
    · obtain ⟨a, h2, h3⟩ := hob _ h1
      exact .inl ⟨a, h2, h3.symm⟩
    · exact .inr h1

/-- What put owes. -/
def PutP (t : Tr) (q B : Nat) (A : Option Addr) (n : Nat) (ws : List Int) (w : World) (e : Ending) (w' : World) : Prop :=
  ∃ A' c', e = .returned (.tuple #[.slice A' (n + (putR t q).1.length) c', .int .i64 (putR t q).2.1]) ∧ OwnI w' B (.slice A' (n + (putR t q).1.length) c') (ws ++ (putR t q).1) ∧
    Kept (fun b => ∃ a, A = some a ∧ b = a.block) w w' ∧ (∀ a', A' = some a' → (∃ a, A = some a ∧ a.block = a'.block) ∨ w.heap.size ≤ a'.block)
/-- What put's loop keeps. -/
structure PInv (us : List Tr) (bx : Array Value) (p0 q B : Nat) (A0 : Option Addr) (ws0 : List Int) (W : World) (i : Nat) (A1 : Option Addr) (n1 c1 : Nat) (A2 : Option Addr) (c2 : Nat) (done l : List Int) (wr : World) : Prop where
  words : OwnI wr B (.slice A1 n1 c1) (ws0 ++ done)
  len : p0 + n1 = q + done.length
  own : OwnI wr (W.heap.size + 1) (.slice A2 i c2) l
  ll : l.length = i
  off : ∀ a1 a2, A1 = some a1 → A2 = some a2 → a1.block ≠ a2.block
  place : ∀ a1, A1 = some a1 → (∃ a, A0 = some a ∧ a.block = a1.block) ∨ W.heap.size + 1 ≤ a1.block
  box : Blk wr W.heap.size 33 bx
  kept : Kept (fun b => ∃ a, A0 = some a ∧ b = a.block) W wr
  f1 : (putRL us q).1 = done ++ (putRL (us.drop i) (q + done.length)).1
  f2 : (putRL us q).2.1 = l ++ (putRL (us.drop i) (q + done.length)).2.1
section
variable {us : List Tr} {bx : Array Value} {p0 q B : Nat} {A0 : Option Addr} {ws0 : List Int} {W : World} {i : Nat} {A1 : Option Addr} {n1 c1 : Nat} {A2 : Option Addr} {c2 : Nat} {done l : List Int} {wr : World}
theorem put_own0 {w5 w : World} {lit : Obj} {A1 : Option Addr} {B' n c : Nat} {A2 : Option Addr} {l : List Int} (ho : OwnI w B' (.slice A2 n c) l) (hoff : ∀ a1 a2, A1 = some a1 → A2 = some a2 → a1.block ≠ a2.block) (hk : Kept (fun b => ∃ a, A1 = some a ∧ b = a.block) (w.alloc lit) w5) : Ints w5 w5.heap.size A2 n c l :=
  ((ho.alloc lit).keep (fun a ha => hk.block _ (by have := (ho.alloc lit); rw [ha] at this; exact this.lt.2) (by rintro ⟨a1, h1, h2⟩; exact hoff a1 a h1 ha h2.symm))).ints
theorem own_lt {w : World} {B n c : Nat} {A : Option Addr} {xs : List Int} (h : OwnI w B (.slice A n c) xs) : ∀ a, A = some a → B ≤ a.block ∧ a.block < w.heap.size := fun a ha => by subst ha; exact h.lt
theorem PInv.own1 (h : PInv us bx p0 q B A0 ws0 W i A1 n1 c1 A2 c2 done l wr) {o2 : Obj} {w1 : World} (hk : Kept (fun b => ∃ a, A1 = some a ∧ b = a.block) wr w1) : OwnI (w1.alloc o2) (W.heap.size + 1) (.slice A2 i c2) l := by
  refine OwnI.alloc (h.own.keep (fun a ha => hk.block _ (own_lt h.own a ha).2 ?_)) o2
  rintro ⟨a1, h1, h2⟩
  exact h.off a1 a h1 ha h2.symm
theorem PInv.next (h : PInv us bx p0 q B A0 ws0 W i A1 n1 c1 A2 c2 done l wr) (hi : i < us.length) (hA0 : ∀ a, A0 = some a → a.block < W.heap.size) {w1 w2 : World} {o2 : Obj} {A1' : Option Addr} {c1' : Nat} {A2' : Option Addr} {c2' : Nat}
    (g1 : OwnI w1 B (.slice A1' (n1 + (putR us[i] (q + done.length)).1.length) c1') ((ws0 ++ done) ++ (putR us[i] (q + done.length)).1)) (g2 : Kept (fun b => ∃ a, A1 = some a ∧ b = a.block) wr w1) (g3 : ∀ a', A1' = some a' → (∃ a, A1 = some a ∧ a.block = a'.block) ∨ wr.heap.size ≤ a'.block)
    (k1 : OwnI w2 (W.heap.size + 1) (.slice A2' (i + 1) c2') (l ++ [(putR us[i] (q + done.length)).2.1])) (k2 : Kept (fun b => ∃ a, A2 = some a ∧ b = a.block) (w1.alloc o2) w2) (k3 : ∀ a', A2' = some a' → (∃ a, A2 = some a ∧ a.block = a'.block) ∨ (w1.alloc o2).heap.size ≤ a'.block) :
    PInv us bx p0 q B A0 ws0 W (i + 1) A1' (n1 + (putR us[i] (q + done.length)).1.length) c1' A2' c2' (done ++ (putR us[i] (q + done.length)).1) (l ++ [(putR us[i] (q + done.length)).2.1]) w2 := by
  have hsz : (w1.alloc o2).heap.size = w1.heap.size + 1 := by simp
  have s1 := g2.size
  have s2 := k2.size
  have s0 := h.kept.size
  have hbx := h.box.lt
  have o1 := own_lt h.words
  have o2' := own_lt h.own
  have ne12 : ∀ a1' a2, A1' = some a1' → A2 = some a2 → a1'.block ≠ a2.block := fun a1' a2 e1 e2 e => by
    rcases g3 a1' e1 with ⟨a, h1, h2⟩ | h1
    · exact h.off a a2 h1 e2 (h2.trans e)
    · have := o2' a2 e2; omega
  have nb1 : ∀ a, A1 = some a → a.block ≠ W.heap.size := fun a ha e => by
    rcases h.place a ha with ⟨a0, h1, h2⟩ | h1
    · have := hA0 a0 h1; omega
    · omega
  have hlen := putR_len us[i] (q + done.length)
  have hq : q + (done ++ (putR us[i] (q + done.length)).1).length = (putR us[i] (q + done.length)).2.2 := by rw [hlen, List.length_append]; omega
  have hd : us.drop i = us[i] :: us.drop (i + 1) := List.drop_eq_getElem_cons hi
  refine ⟨?_, ?_, k1, by simp [h.ll], ?_, ?_, ?_, ?_, ?_, ?_⟩
  · rw [← List.append_assoc]
    refine (g1.alloc o2).keep (fun a ha => ?_)
    have hl := own_lt g1 a ha
    refine k2.block _ (by omega) ?_
    rintro ⟨a2, e1, e2⟩
    exact ne12 a a2 ha e1 e2
  · have := h.len; rw [List.length_append]; omega
  · intro a1 a2 e1 e2 e
    rcases k3 a2 e2 with ⟨a, h1, h2⟩ | h1
    · exact ne12 a1 a e1 h1 (e.trans h2.symm)
    · have := own_lt g1 a1 e1; omega
  · intro a1 e1
    rcases g3 a1 e1 with ⟨a, h1, h2⟩ | h1
    · rcases h.place a h1 with ⟨a0, h3, h4⟩ | h3
      · exact .inl ⟨a0, h3, h4.trans h2⟩
      · exact .inr (by omega)
    · exact .inr (by omega)
  · refine (k2.block _ (by omega) ?_).trans ((Below.heap_alloc _ _ _ (by omega)).trans ((g2.block _ hbx ?_).trans h.box))
    · rintro ⟨a2, e1, e2⟩
      have := o2' a2 e1; omega
    · rintro ⟨a1, e1, e2⟩
      exact nb1 a1 e1 e2.symm
  · have t1 : Kept (fun b => ∃ a, A0 = some a ∧ b = a.block) W w1 := h.kept.then g2 (fun _ _ e => e) (fun b hb e => by
      obtain ⟨a, e1, rfl⟩ := e
      rcases h.place a e1 with ⟨a0, h3, h4⟩ | h3
      · exact ⟨a0, h3, h4.symm⟩
      · omega)
    exact (t1.alloc o2).then k2 (fun _ _ e => e) (fun b hb e => by
      obtain ⟨a, e1, rfl⟩ := e
      have := o2' a e1; omega)
  · rw [h.f1, hd, putRL_cons, hq]; simp
  · rw [h.f2, hd, putRL_cons, hq]; simp
end

set_option maxRecDepth 100000 in
theorem put_int (n : Int) (us : List Tr) (A A0 : Option Addr) (m c n0 c0 q B : Nat) (p0 : Int) (ws0 : List Int) (w : World) (ho : OwnI w B (.slice A0 n0 c0) ws0) :
    Calls Try.prog 34 #[.agg #[.bool true, .int .i64 n, .slice A m c], .int .i64 p0, .slice A0 n0 c0] w (PutP (.mk true n us) q B A0 n0 ws0 w) := by
  go_enter Try.func34, Try.ntmps34
  go_wp2_with (go_at_call 26; go_must (refine (ref27_Int _ _).mono ?_); rintro e w' ⟨rfl, rfl⟩)
  refine bodyPost_ret (results_tmp2 rfl _ _ _) rfl ?_
  unfold PutP
  rw [putR_int]
  exact ⟨A0, c0, rfl, by simpa using ho.alloc _, (Kept.refl _ _).alloc _, fun a' ha => .inl ⟨a', ha, rfl⟩⟩
set_option maxHeartbeats 8000000 in
set_option maxRecDepth 100000 in
theorem put_node (n : Int) (us : List Tr) (A A0 : Option Addr) (c n0 c0 q B B0 d p0 : Nat) (ws0 : List Int) (W : World) (ho : OwnI W B (.slice A0 n0 c0) ws0) (hq : q = p0 + n0) (hB : B ≤ W.heap.size) (hBB : B0 ≤ B) (hrow : RowV W B0 us A 0) (h0 : 0 ≤ n) (h32 : n < 32) (h8 : us.length ≤ 8) (hmay : mayL us (d + 1) = true)
    (hbig : (putR (.mk false n us) q).2.2 ≤ 900000)
    (ih : ∀ t ∈ us, ∀ (q : Nat) (v : Value) (A0 : Option Addr) (n0 c0 : Nat) (ws0 : List Int) (W : World), OwnI W B (.slice A0 n0 c0) ws0 → q = p0 + n0 → B ≤ W.heap.size → VAt W B0 t v → (putR t q).2.2 ≤ 900000 → mayB t (d + 1) = true →
      Calls Try.prog 34 #[v, .int .i64 p0, .slice A0 n0 c0] W (PutP t q B A0 n0 ws0 W)) :
    Calls Try.prog 34 #[.agg #[.bool false, .int .i64 n, .slice A us.length c], .int .i64 p0, .slice A0 n0 c0] W (PutP (.mk false n us) q B A0 n0 ws0 W) := by
  have hA0 := own_lt ho
  have hlq := putRL_len us q
  rw [putR_node] at hbig
  dsimp only at hbig
  have hws := ho.slice
  have H := hid (And.intro ho (And.intro hrow (And.intro hB (And.intro hBB (And.intro hmay (And.intro ih (And.intro hA0 (And.intro hbig hlq))))))))
  have hlen0 : ws0.length = n0 := by obtain ⟨A9, c9, hv, _⟩ := hws; injection hv with _ h _; exact h.symm
  have Hq := hid hq
  clear ho hrow hB hBB hmay ih hA0 hws hlq hbig hq
  go_enter Try.func34, Try.ntmps34
  go_wp2
  go_loopg [2, 8, 9] us.length (fun g wv ov x wr => ∃ (i n1 c1 c2 : Nat) (A1 A2 : Option Addr) (done l : List Int), i + g = us.length ∧ x = .int .i64 i ∧ wv = .slice A1 n1 c1 ∧ ov = .slice A2 i c2 ∧ Hid (PInv us #[.bool false, .int .i64 n, .slice A us.length c] p0 q B A0 ws0 W i A1 n1 c1 A2 c2 done l wr))
  case atStart => exact ⟨0, n0, c0, 0, A0, none, [], [], by omega, rfl, rfl, rfl, hid ⟨by simpa using H.out.1.alloc _, by have := Hq.out; simp; omega, OwnI.nil _ _, rfl, fun _ _ _ h => (by cases h), fun a ha => .inl ⟨a, ha, rfl⟩, Blk.new _ _ _, (Kept.refl _ _).alloc _, by simp, by simp⟩⟩
  case round =>
    obtain ⟨i, n1, c1, c2, A1, A2, done, l, hi, rfl, rfl, rfl, hp⟩ := hrel
    have Hi := hid hi
    have x1 : wr.cell? ⟨W.heap.size, 1, none⟩ = some (.int .i64 n) := hp.out.box.cell 1
    have x2 : wr.cell? ⟨W.heap.size, 2, none⟩ = some (.slice A us.length c) := hp.out.box.cell 2
    have hf1 := congrArg List.length hp.out.f1
    rw [List.length_append] at hf1
    have hbg := H.out.2.2.2.2.2.2.2.1
    have hlq := H.out.2.2.2.2.2.2.2.2
    have hn1 := hp.out.len
    by_cases hlt : i < us.length
    · have hlt' : (i : Int) < us.length := by omega
      obtain ⟨ad, v0, v1, v2, rfl, o0, o1, o2, o3, o4⟩ := H.out.2.1.get hlt
      have eh : ∀ k, k < B0 → wr.heap[k]? = W.heap[k]? := fun k hk => hp.out.kept.block k (by have := H.out.2.2.1; have := H.out.2.2.2.1; omega) (by rintro ⟨a, e1, rfl⟩; have := H.out.2.2.2.2.2.2.1 a e1; have := H.out.2.2.2.1; omega)
      have e := fun (a : Addr) (ha : a.block < B0) => World.cell?_of_block (w := W) (w' := wr) (eh a.block ha)
      rw [Nat.zero_add] at o1 o2 o3
      have eb := add_block ad (i * 3)
      have y1 := (e _ (by rw [eb]; exact o0)).trans o1
      have y2 := (e _ (by dsimp only; rw [eb]; exact o0)).trans o2
      have y3 := (e _ (by dsimp only; rw [eb]; exact o0)).trans o3
      obtain ⟨b', n', A', m', c', rfl, rfl, rfl⟩ := o4.agg
      have hd : us.drop i = us[i] :: us.drop (i + 1) := List.drop_eq_getElem_cons hlt
      have hpl := putR_len us[i] (q + done.length)
      have hsz : (putR us[i] (q + done.length)).2.2 ≤ 900000 := by
        rw [hd, putRL_cons] at hf1
        simp only [List.length_append] at hf1
        omega
      have hwd := (putR_wf us[i] (q + done.length) (d + 1) (mayL_mem H.out.2.2.2.2.1 _ (List.getElem_mem hlt))).2
      have Q := hid (And.intro (o4.keep eh) (And.intro (List.getElem_mem hlt) (And.intro (mayL_mem H.out.2.2.2.2.1 _ (List.getElem_mem hlt)) (And.intro hsz (And.intro hwd hpl)))))
      have HBw := hid (Nat.le_trans H.out.2.2.1 hp.out.kept.size)
      clear hi e eh o0 o1 o2 o3 o4 eb hd hpl hsz hwd hf1 hbg hlq
      go_wp2_with (first
        | (go_at_call 34; go_must (refine (H.out.2.2.2.2.2.1 us[i] Q.out.2.1 (q + done.length) _ _ _ _ _ _ hp.out.words (by omega) HBw.out Q.out.1 Q.out.2.2.2.1 Q.out.2.2.1).mono ?_); rintro e w1 ⟨A5, c5, rfl, g1, g2, g3⟩)
        | (at_builtin; go_must (refine wpList_appN (by rfl) _ _ (by rfl) (W.heap.size + 1) (by rfl) (hp.out.own1 g2) (by rfl) (ints_one (wf_word Q.out.2.2.2.2.1)) (by rw [hp.out.ll]; omega) (by have h1 := hp.out.box.lt; have h2 := g2.size; simp; omega) ?_); intro A6 c6 w2 k1 k2 k3; go_must (have N := hid (hp.out.next hlt (fun a ha => (H.out.2.2.2.2.2.2.1 a ha).2) g1 g2 g3 k1 k2 k3); clear g1 g2 g3 k1 k2 k3)))
      have hgk := Hi.out
      go_roundg (gk - 1)
      case rel => exact ⟨i + 1, _, c5, c6, A5, A6, _, _, by omega, rfl, rfl, rfl, N⟩
      case measure => omega
    · obtain rfl : i = us.length := by omega
      have g1 := hp.out.f1
      have g2 := hp.out.f2
      rw [List.drop_length, putRL_nil] at g1 g2
      simp only [List.append_nil] at g1 g2
      have hlw : (ws0 ++ done).length = n1 := by obtain ⟨A9, c9, hv, _⟩ := hp.out.words.slice; injection hv with _ h _; exact h.symm
      have hld : done.length ≤ 900000 := by rw [← g1]; omega
      have hn9 : n1 + us.length + 1 ≤ 900000 := by rw [g1] at hlq; omega
      have e1 : IntKind.i64.wrap ((p0 : Int) + n1) = p0 + n1 := IntWalk.i64_in _ (by omega)
      have hpt : ptV ((p0 : Int) + n1) = .tuple #[.int .i64 (ptR (p0 + n1)), .int .i64 (if p0 + n1 < 262144 then 0 else 1)] := by
        unfold ptV ptR
        by_cases h : p0 + n1 < 262144
        · rw [if_pos (by omega), if_pos h, if_pos h]; simp
        · rw [if_neg (by omega), if_neg h, if_neg h]
      have hh : hdV n us.length = .tuple #[.int .i64 (512 * n + 2 * us.length + 1), .int .i64 0] := by unfold hdV; exact if_pos (by omega)
      have G := hid (And.intro g1 (And.intro g2 (And.intro hlw (And.intro hld (And.intro hpt hh)))))
      have HBw := hid (Nat.le_trans H.out.2.2.1 hp.out.kept.size)
      generalize (if p0 + n1 < 262144 then (0 : Int) else 1) = er at G hpt
      clear hi hf1 hbg hlq g1 g2 hlw hld hpt hh
      go_wp2_with (first
        | (go_at_call 11; go_must (refine (ref27_Pointer _ _).mono ?_); rw [G.out.2.2.2.2.1]; rintro e w1 ⟨rfl, rfl⟩)
        | (go_at_call 9; go_must (refine (ref27_Head _ _ _).mono ?_); rw [G.out.2.2.2.2.2]; rintro e w1 ⟨rfl, rfl⟩)
        | (at_builtin; have _ := N1; go_must (refine wpList_appN (by rfl) _ _ (by rfl) B (by rfl) N1.out.1 (by rfl) N1.out.2.1 (by rw [List.length_append, G.out.2.2.1]; simp; omega) (by have h1 := HBw.out; have h2 := N1.out.2.2.1.size; simp at h2; omega) ?_); intro A6 c6 w6 m1 m2 m3; go_must (have N2 := hid (And.intro m1 (And.intro m2 m3)); clear m1 m2 m3))
        | (at_builtin; go_must (refine wpList_appN (by rfl) _ _ (by rfl) B (by rfl) (hp.out.words.alloc _) (by rfl) (ints_one (x := 512 * n + 2 * us.length + 1) (wf_word (by omega))) (by rw [G.out.2.2.1]; omega) (by have h1 := HBw.out; simp; omega) ?_); intro A5 c5 w5 m1 m2 m3; go_must (have N1 := hid (And.intro m1 (And.intro (put_own0 hp.out.own hp.out.off m2) (And.intro m2 m3))); clear m1 m2 m3)))
      refine bodyPost_ret (results_tmp2 rfl _ _ _) rfl ?_
      obtain ⟨a1, _, a2, a3⟩ := N1.out
      obtain ⟨b1, b2, b3⟩ := N2.out
      have hl2 := putRL_len us q
      have hlw := hp.out.len
      rw [G.out.1] at hl2
      have hsz : (wr.alloc (.cells #[.int .i64 (512 * n + 2 * us.length + 1)] 3)).heap.size = wr.heap.size + 1 := by simp
      have sk := hp.out.kept.size
      have s2 := a2.size
      have hll := hp.out.ll
      have e9 : putR (.mk false n us) q = (done ++ ((512 * n + 2 * us.length + 1) :: l), ptR (q + done.length), q + done.length + us.length + 1) := by
        rw [putR_node, G.out.1, G.out.2.1, hl2]
      have hn : n0 + (done ++ ((512 * n + 2 * us.length + 1) :: l)).length = n1 + 1 + us.length := by
        have := Hq.out
        rw [List.length_append, List.length_cons, hll]; omega
      have new5 : ∀ a', A5 = some a' → (∃ a, A0 = some a ∧ a.block = a'.block) ∨ W.heap.size ≤ a'.block := fun a' ha => by
        rcases a3 a' ha with ⟨a, h1, h2⟩ | h1
        · rcases hp.out.place a h1 with ⟨a0, h3, h4⟩ | h3
          · exact .inl ⟨a0, h3, h4.trans h2⟩
          · exact .inr (by omega)
        · exact .inr (by omega)
      have t1 : Kept (fun b => ∃ a, A0 = some a ∧ b = a.block) W w5 := (hp.out.kept.alloc _).then a2 (fun _ _ e => e) (fun b hb e => by
        obtain ⟨a, e1, rfl⟩ := e
        rcases hp.out.place a e1 with ⟨a0, h3, h4⟩ | h3
        · exact ⟨a0, h3, h4.symm⟩
        · omega)
      unfold PutP
      rw [e9]
      dsimp only
      rw [hn]
      refine ⟨A6, c6, rfl, by simpa using b1, t1.then b2 (fun _ _ e => e) (fun b hb e => ?_), fun a' ha => ?_⟩
      · obtain ⟨a, e1, rfl⟩ := e
        rcases new5 a e1 with ⟨a0, h3, h4⟩ | h3
        · exact ⟨a0, h3, h4.symm⟩
        · omega
      · rcases b3 a' ha with ⟨a, h1, h2⟩ | h1
        · rw [← h2]; exact new5 a h1
        · exact .inr (by omega)
theorem ref27_put (B B0 p0 : Nat) (hBB : B0 ≤ B) : ∀ (N : Nat) (t : Tr), SizeOf.sizeOf t ≤ N → ∀ (d q : Nat) (v : Value) (A0 : Option Addr) (n0 c0 : Nat) (ws0 : List Int) (W : World), OwnI W B (.slice A0 n0 c0) ws0 → q = p0 + n0 → B ≤ W.heap.size → VAt W B0 t v → (putR t q).2.2 ≤ 900000 → mayB t d = true →
      Calls Try.prog 34 #[v, .int .i64 p0, .slice A0 n0 c0] W (PutP t q B A0 n0 ws0 W) := by
  intro N
  induction N with
  | zero => intro t ht; cases t; simp at ht
  | succ N ih =>
  intro t ht d q v A0 n0 c0 ws0 W ho hq hB hv hbig hmay
  obtain ⟨b, n, us⟩ := t
  obtain ⟨A, c, rfl, hc, hcm, hnil, hrow, hwf⟩ := hv.parts
  cases b with
  | true => exact put_int n us A A0 us.length c n0 c0 q B p0 ws0 W ho
  | false =>
    rw [mayB_node] at hmay
    simp only [Bool.and_eq_true, decide_eq_true_eq] at hmay
    obtain ⟨_, ⟨h0, h32, h8⟩, hl⟩ := hmay
    exact put_node n us A A0 c n0 c0 q B B0 d p0 ws0 W ho hq hB hBB hrow h0 h32 h8 hl hbig (fun t hm q v A0 n0 c0 ws0 W => ih t (by have := tr_lt (b := false) (n := n) hm; omega) (d + 1) q v A0 n0 c0 ws0 W)
end Go.Proofs.Ytgakmfcnddholaa
