/-
  THE WALK OF cells.Words: a value as objects, or why not.
-/
import Derived.Test.YtgakmfcnddholaaCAll
import Derived.Test.YtgakmfcnddholaaCDefer
import Derived.Laws.EntriesVeiled
import Derived.BigQuiet
namespace Go.Proofs.Ytgakmfcnddholaa
open Go.ChangeShapes Go.WideShapes Go.ChangeAt Go.RowKit Go.Shelf
attribute [local go_sem] Oper.semAt_some

/-- What Words tells: the words, the value's word, the error. -/
def wordsR (t : Tr) (x : Int) : List Int × Int × Int :=
  if x < 0 ∨ 262144 < x then ([], 0, 1) else if mayB t 1 = false then ([], 0, 270) else if 262144 < (putT t x.toNat).2.2 then ([], 0, 3) else ((putT t x.toNat).1, (putT t x.toNat).2.1, 0)
def WordsP (r : List Int × Int × Int) (w : World) (e : Ending) (w' : World) : Prop :=
  ∃ A c, e = .returned (.tuple #[.slice A r.1.length c, .int .i64 r.2.1, .int .i64 r.2.2]) ∧ OwnI w' w.heap.size (.slice A r.1.length c) r.1 ∧ Below w.heap.size w w'

/-- What the body of the loop over the words knows. -/
def WI (lc R : Nat) (xs : List Int) (k : Nat) (S : Nat → Prop) (W : World) : Prop :=
  lc < R ∧ ∃ A c, (∀ b, S b ↔ (b = lc ∨ ∃ a, A = some a ∧ b = a.block)) ∧ Blk W lc 36 #[.slice A k c] ∧ OwnI W R (.slice A k c) (xs.take k) ∧ k ≤ xs.length
theorem OwnI.base {w : World} {B B' : Nat} {v : Value} {xs : List Int} (h : OwnI w B v xs) (hB : B' ≤ B) : OwnI w B' v xs := by
  obtain ⟨⟨h1, h2⟩, hw⟩ := h
  refine ⟨⟨h1, ?_⟩, hw⟩
  rcases h2 with h2 | ⟨g, cap, cur, hv, hg, rest⟩
  · exact .inl h2
  · exact .inr ⟨g, cap, cur, hv, Nat.le_trans hB hg, rest⟩
theorem WI.foot (lc R : Nat) (xs : List Int) : Foot (WI lc R xs) := by
  refine ⟨?_, ?_⟩
  · rintro k S A B ⟨h0, A', c, h1, h2, h3, h4⟩ hB
    exact ⟨h0, A', c, h1, (hB _ ((h1 _).2 (.inl rfl))).trans h2, h3.keep (fun a ha => hB _ ((h1 _).2 (.inr ⟨a, ha, rfl⟩))), h4⟩
  · rintro k S A ⟨h0, A', c, h1, h2, h3, h4⟩ b hb
    rcases (h1 b).1 hb with rfl | ⟨a, rfl, rfl⟩
    · exact h2.lt
    · exact h3.lt.2

theorem WI.next {lc R k : Nat} {xs : List Int} {S : Nat → Prop} {W3 w4 : World} {A3 A4 : Option Addr} {c3 c4 : Nat} {x : Int} {o : Obj} (hR : lc < R) (hS : ∀ b, S b ↔ (b = lc ∨ ∃ a, A3 = some a ∧ b = a.block)) (hb : Blk W3 lc 36 #[.slice A3 k c3])
    (ho : OwnI W3 R (.slice A3 k c3) (xs.take k)) (hk : k < xs.length) (htk : xs.take k ++ [x] = xs.take (k + 1)) (hr : OwnI w4 R (.slice A4 (k + 1) c4) (xs.take k ++ [x])) (hg : (W3.alloc o).grownBy w4 (Value.slice A3 k c3).ownBlock)
    (hn : ∀ a', A4 = some a' → (Value.slice A3 k c3).ownBlock = some a'.block ∨ (W3.alloc o).heap.size ≤ a'.block) :
    Blk w4 lc 36 #[.slice A3 k c3] ∧ ∃ S', WI lc R xs (k + 1) S' (w4.setCell ⟨lc, 0, none⟩ (.slice A4 (k + 1) c4)) ∧ (∀ b, S' b → S b ∨ W3.heap.size ≤ b) ∧ Kept S W3 (w4.setCell ⟨lc, 0, none⟩ (.slice A4 (k + 1) c4)) := by
  have hold : ∀ g, (Value.slice A3 k c3).ownBlock = some g → ∃ a, A3 = some a ∧ g = a.block ∧ R ≤ g := by
    intro g hg
    cases hA : A3 with
    | none => rw [hA] at hg; simp [Value.ownBlock] at hg
    | some a =>
      rw [hA] at hg ho
      simp only [Value.ownBlock, Option.some.injEq] at hg
      exact ⟨a, rfl, hg.symm, by rw [← hg]; exact ho.lt.1⟩
  have hb4 : Blk w4 lc 36 #[.slice A3 k c3] := (hb.alloc o).grown hg (fun e => by
    obtain ⟨a, _, _, h3⟩ := hold _ e.symm
    omega)
  have hne : ∀ a, A4 = some a → a.block ≠ lc := fun a ha e => by
    subst ha
    have := hr.lt.1
    omega
  refine ⟨hb4, fun b => b = lc ∨ ∃ a, A4 = some a ∧ b = a.block, ⟨hR, A4, c4, fun b => Iff.rfl, hb4.set0 _, ?_, hk⟩, ?_, ?_⟩
  · rw [← htk]
    exact hr.keep (fun a ha => Below.heap_setCell _ _ _ _ (hne a ha))
  · rintro b (rfl | ⟨a, ha, rfl⟩)
    · exact .inl ((hS _).2 (.inl rfl))
    · rcases hn a ha with h | h
      · obtain ⟨a3, h1, h2, _⟩ := hold _ h
        exact .inl ((hS _).2 (.inr ⟨a3, h1, h2⟩))
      · right
        have : (W3.alloc o).heap.size = W3.heap.size + 1 := by simp
        omega
  · refine ((((Kept.refl S W3).alloc o).grown hg (fun g hg => ?_))).setCell (p := ⟨lc, 0, none⟩) (.inl ((hS _).2 (.inl rfl))) _
    obtain ⟨a3, h1, h2, _⟩ := hold _ hg
    exact .inl ((hS _).2 (.inr ⟨a3, h1, h2⟩))

set_option maxHeartbeats 4000000 in
set_option maxRecDepth 100000 in
theorem words_arg (b : Bool) (n : Int) (A : Option Addr) (m c : Nat) (x : Int) (w : World) (hx : x < 0 ∨ 0 ≤ x ∧ x > 262144) :
    Calls Try.prog 15 #[.agg #[.bool b, .int .i64 n, .slice A m c], .int .i64 x] w (WordsP ([], 0, 1) w) := by
  rcases hx with hx | ⟨hx, hx2⟩
  all_goals
    (refine callsIn_wide (n := 5) |>.1 ?_; refine callsIn_of_wp_marks Try.func15 rfl trivial ?_ rfl; simp only [Try.ntmps15, List.size_toArray, List.length_cons, List.length_nil, Nat.reduceAdd, Nat.reduceSub, Array.replicate_succ, Array.replicate_zero, List.push_toArray, List.append_toArray, List.nil_append, List.cons_append])
    gi_wp2
    refine ⟨.tuple #[.slice none 0 0, .int .i64 0, .int .i64 1], by simp [results, Try.results15, go_sem], none, 0, rfl, OwnI.nil _ _, ?_⟩
    go_grown
set_option maxHeartbeats 4000000 in
set_option maxRecDepth 100000 in
theorem words_deny (B : Nat) (t : Tr) (b : Bool) (n : Int) (A : Option Addr) (m c : Nat) (x : Int) (w : World) (h0 : ¬ x < 0) (h1 : ¬ x > 262144) (hB : B ≤ w.heap.size) (hv : VAt w B t (.agg #[.bool b, .int .i64 n, .slice A m c])) (hmay : mayB t 1 = false) :
    Calls Try.prog 15 #[.agg #[.bool b, .int .i64 n, .slice A m c], .int .i64 x] w (WordsP ([], 0, 270) w) := by
  have H := hid (And.intro hB (And.intro hv hmay))
  clear hB hv hmay
  (refine callsIn_wide (n := 5) |>.1 ?_; refine callsIn_of_wp_marks Try.func15 rfl trivial ?_ rfl; simp only [Try.ntmps15, List.size_toArray, List.length_cons, List.length_nil, Nat.reduceAdd, Nat.reduceSub, Array.replicate_succ, Array.replicate_zero, List.push_toArray, List.append_toArray, List.nil_append, List.cons_append])
  gi_wp2_with (refine ⟨trivial, ?_⟩; gi_at_call 31; go_must (refine (callsIn_wide.2 (cells_may _ t (Nat.le_refl _) B 1 1 _ _ rfl (by have := H.out.1; simp; omega) (H.out.2.1.keep (fun k hk => (by go_grown : Below w.heap.size w _).block k (by have := H.out.1; omega))) (by omega))).mono ?_); rw [H.out.2.2, wantE_no]; rintro e w1 ⟨rfl, b1⟩)
  have hb := below_hop b1 (by go_grown : Below w.heap.size w _)
  have h4 : Blk w1 (w.heap.size + 1) 36 #[.slice none 0 0] := Blk.below ((((Blk.new' (by simp) _ _).alloc _).alloc _)) b1 (by simp)
  have h5 : Blk w1 (w.heap.size + 1 + 1) 3 #[.int .i64 0] := Blk.below (((Blk.new' (by simp) _ _).alloc _)) b1 (by simp)
  have h6 : Blk w1 (w.heap.size + 1 + 1 + 1) 22 #[.int .i64 0] := Blk.below (Blk.new' (by simp) _ _) b1 (by simp)
  refine ⟨by simp, .inr ⟨by simp [Fence.wide], _, _, 30, #[.pointer (some ⟨w.heap.size + 1, 0, none⟩), .pointer (some ⟨w.heap.size + 1 + 1, 0, none⟩), .pointer (some ⟨w.heap.size + 1 + 1 + 1, 0, none⟩)], rfl, by simp [go_sem], fun _ _ => trivial, (words_catch _ _ _ _ _ _ _ _ _ h4 h5 h6).mono ?_⟩⟩
  rintro e u' w'' ⟨rfl, hu, k4, k5, k6, hbb⟩
  show LeavesInM _ _ _ _ _ _ _ (settle u') w''
  rw [hu]
  have y4 := k4.cell0
  have y5 := k5.cell0
  have y6 := k6.cell0
  refine ⟨.tuple #[.slice none 0 0, .int .i64 0, .int .i64 270], by simp [results, Try.results15, go_sem, y4, y5, y6], none, 0, rfl, OwnI.nil _ _, ?_⟩
  exact hb.trans (hbb _ (by omega) (by omega) (by omega) hb.size)

/-- The world in which the loop begins. -/
def W2 (w1 : World) (b : Bool) (n : Int) (A : Option Addr) (m c p z : Nat) : World :=
  ((w1.alloc (.cells #[.bool b, .int .i64 n, .slice A m c] 33)).alloc (.cells #[.int .i64 p] 3)).alloc (.cells #[.pointer (some ⟨z, 0, none⟩)] 61)
theorem W2_size (w1 : World) (b : Bool) (n : Int) (A : Option Addr) (m c p z : Nat) : (W2 w1 b n A m c p z).heap.size = w1.heap.size + 1 + 1 + 1 := by simp [W2]
theorem W2_kept (w1 : World) (b : Bool) (n : Int) (A : Option Addr) (m c p z : Nat) : Below w1.heap.size w1 (W2 w1 b n A m c p z) := by unfold W2; go_grown
/-- The iterator owes what the loop asks. -/
theorem all_seq (m' : Nat) (t : Tr) (B lc z p : Nat) (b : Bool) (n : Int) (A : Option Addr) (m c : Nat) (w1 : World) (hB : B ≤ lc) (hlc : lc < w1.heap.size) (hz : Blk w1 z 3 #[.int .i64 0]) (hne : lc ≠ z)
    (hv : VAt w1 B t (.agg #[.bool b, .int .i64 n, .slice A m c])) (hp : p ≤ 262144) (hmay : mayB t 1 = true) :
    SeqF Fence.wide m' Try.prog 42 #[.pointer (some ⟨w1.heap.size + 1, 0, none⟩), .pointer (some ⟨w1.heap.size, 0, none⟩), .pointer (some ⟨w1.heap.size + 1 + 1, 0, none⟩)] encI (putT t p).1 (fun b => b = lc) (fun b => b = z)
      (fun W => (putT t p).2.2 ≤ 262144 ∧ Blk W z 3 #[.int .i64 (putT t p).2.1]) (fun chain W => chain = [flt 3] ∧ 262144 < (putT t p).2.2 ∧ Blk W z 3 #[.int .i64 0]) (W2 w1 b n A m c p z) := by
  intro l J S0 W hk hJ hS0 hR hj
  have hzl := hz.lt
  have hsz := W2_size w1 b n A m c p z
  have hks := hk.size
  have hkb : ∀ g, g < w1.heap.size + 1 + 1 + 1 → W.heap[g]? = (W2 w1 b n A m c p z).heap[g]? := fun g hg => hk.block g (by omega) (fun e => e)
  have hno : ∀ g, g < w1.heap.size + 1 + 1 + 1 → g ≠ lc → ¬ S0 g := fun g hg hn e => by
    rcases hS0 g e with e | e
    · exact hn e
    · omega
  have hold : ∀ g, g < w1.heap.size → W.heap[g]? = w1.heap[g]? := fun g hg => (hkb g (by omega)).trans ((W2_kept w1 b n A m c p z).block g hg)
  refine callsIn_wide.2 (all_1 (q := w1.heap.size) (z := z) (B := B) (d := 1) (z0 := 0) (b := b) (n := n) (A := A) (m := m) (c := c) ⟨hJ, hR.wide, hj, ?_, ?_, ?_, (hold z hzl).trans hz, hno _ (by omega) (by omega), hno _ (by omega) (by omega), hno _ (by omega) (Ne.symm hne), ?_, by omega, hv.keep (fun k hk => hold k (by omega)), hp, hmay⟩)
  · exact (hkb _ (by omega)).trans (((Blk.new w1 33 #[.bool b, .int .i64 n, .slice A m c]).alloc _).alloc _)
  · exact (hkb _ (by omega)).trans (((Blk.new' (by simp) 3 #[.int .i64 p]).alloc _))
  · exact (hkb _ (by omega)).trans (Blk.new' (by simp) 61 #[.pointer (some ⟨z, 0, none⟩)])
  · intro g hg
    rcases hS0 g hg with e | e
    · omega
    · omega

/-- Words lie among the words. -/
def InW (x : Int) : Prop := 0 ≤ x ∧ x ≤ 4294967296
mutual
theorem putT_wf : ∀ (t : Tr) (p d : Nat), mayB t d = true → (putT t p).2.2 ≤ 900000 → (∀ x ∈ (putT t p).1, InW x) ∧ InW (putT t p).2.1
  | .mk b n us, p, d, hm, hs => by
    cases b with
    | true => rw [putT_int]; exact ⟨by simp, by unfold InW intW; dsimp only; omega⟩
    | false =>
      rw [putT_node] at hs ⊢
      rw [mayB_node] at hm
      simp only [Bool.and_eq_true, decide_eq_true_eq] at hm
      dsimp only at hs ⊢
      obtain ⟨h1, h2⟩ := putL_wf us p (d + 1) hm.2.2 (by omega)
      refine ⟨fun x hx => ?_, ?_⟩
      · rcases List.mem_append.1 hx with hx | hx
        · exact h1 x hx
        · rcases List.mem_cons.1 hx with rfl | hx
          · unfold InW; omega
          · exact h2 x hx
      · unfold InW; omega
theorem putL_wf : ∀ (ts : List Tr) (p d : Nat), mayL ts d = true → (putL ts p).2.2 ≤ 900000 → (∀ x ∈ (putL ts p).1, InW x) ∧ (∀ x ∈ (putL ts p).2.1, InW x)
  | [], p, d, _, _ => by rw [putL_nil]; simp
  | t :: ts, p, d, hm, hs => by
    rw [putL_cons] at hs ⊢
    rw [mayL, Bool.and_eq_true] at hm
    dsimp only at hs ⊢
    have hl := putL_len ts (putT t p).2.2
    obtain ⟨h1, h2⟩ := putT_wf t p d hm.1 (by omega)
    obtain ⟨h3, h4⟩ := putL_wf ts (putT t p).2.2 d hm.2 hs
    refine ⟨fun x hx => ?_, fun x hx => ?_⟩
    · rcases List.mem_append.1 hx with hx | hx
      · exact h1 x hx
      · exact h3 x hx
    · rcases List.mem_cons.1 hx with rfl | hx
      · exact h2
      · exact h4 x hx
end
def wordsM (t : Tr) (p : Nat) : List Int × Int × Int := if 262144 < (putT t p).2.2 then ([], 0, 3) else ((putT t p).1, (putT t p).2.1, 0)
set_option maxHeartbeats 4000000 in
set_option maxRecDepth 100000 in
theorem words_main (B : Nat) (t : Tr) (b : Bool) (n : Int) (A : Option Addr) (m c p : Nat) (w : World) (hp : p ≤ 262144) (hB : B ≤ w.heap.size) (hv : VAt w B t (.agg #[.bool b, .int .i64 n, .slice A m c])) (hmay : mayB t 1 = true) (hbig : (putT t p).2.2 ≤ 900000) :
    Calls Try.prog 15 #[.agg #[.bool b, .int .i64 n, .slice A m c], .int .i64 p] w (WordsP (wordsM t p) w) := by
  have q0 : ¬ (p : Int) < 0 := by omega
  have q1 : ¬ (p : Int) > 262144 := by omega
  have hxs := hid (And.intro (putT_wf t p 1 hmay hbig).1 (And.intro hbig (putT_len t p)))
  have H := hid (And.intro hB (And.intro hv (And.intro hmay hp)))
  clear hB hv hmay
  (refine callsIn_wide (n := 5) |>.1 ?_; refine callsIn_of_wp_marks Try.func15 rfl trivial ?_ rfl; simp only [Try.ntmps15, List.size_toArray, List.length_cons, List.length_nil, Nat.reduceAdd, Nat.reduceSub, Array.replicate_succ, Array.replicate_zero, List.push_toArray, List.append_toArray, List.nil_append, List.cons_append])
  gi_wp2_with (first
    | (refine ⟨trivial, ?_⟩; gi_at_call 31; go_must (refine (callsIn_wide.2 (cells_may _ t (Nat.le_refl _) B 1 1 _ _ rfl (by have := H.out.1; simp; omega) (H.out.2.1.keep (fun k hk => (by go_grown : Below w.heap.size w _).block k (by have := H.out.1; omega))) (by omega))).mono ?_); rw [H.out.2.2.1, wantE_ok]; rintro e w1 ⟨rfl, b1⟩; have z0 : w1.cell? ⟨w.heap.size, 0, none⟩ = some (.bool b) := (Blk.below (((((Blk.new' (by simp) 33 #[.bool b, .int .i64 n, .slice A m c]).alloc _).alloc _)).alloc _) b1 (by simp; omega)).cell 0; have z1 : w1.cell? ⟨w.heap.size, 1, none⟩ = some (.int .i64 n) := (Blk.below (((((Blk.new' (by simp) 33 #[.bool b, .int .i64 n, .slice A m c]).alloc _).alloc _)).alloc _) b1 (by simp; omega)).cell 1; have z2 : w1.cell? ⟨w.heap.size, 2, none⟩ = some (.slice A m c) := (Blk.below (((((Blk.new' (by simp) 33 #[.bool b, .int .i64 n, .slice A m c]).alloc _).alloc _)).alloc _) b1 (by simp; omega)).cell 2)
    | (refine ⟨trivial, ?_⟩; gi_at_call 32; go_must (refine (callsIn_wide.2 (cells_all _ _ _ _ _ p (w.heap.size + 1 + 1) _)).mono ?_); rintro e w2 ⟨rfl, rfl⟩))
  refine (?_ : Code.wpIn _ _ _ _ _ _ (W2 w1 b n A m c p (w.heap.size + 1 + 1)))
  have hb := below_hop b1 (by go_grown : Below w.heap.size w _)
  have h4 : Blk w1 (w.heap.size + 1) 36 #[.slice none 0 0] := Blk.below ((((Blk.new' (by simp) _ _).alloc _).alloc _)) b1 (by simp)
  have h5 : Blk w1 (w.heap.size + 1 + 1) 3 #[.int .i64 0] := Blk.below (((Blk.new' (by simp) _ _).alloc _)) b1 (by simp)
  have h6 : Blk w1 (w.heap.size + 1 + 1 + 1) 22 #[.int .i64 0] := Blk.below (Blk.new' (by simp) _ _) b1 (by simp)
  have hl6 := h6.lt
  clear b1 z0 z1 z2
  have hsz := W2_size w1 b n A m c p (w.heap.size + 1 + 1)
  have hkp := W2_kept w1 b n A m c p (w.heap.size + 1 + 1)
  have Q := hid (And.intro hb (And.intro h4 (And.intro h5 (And.intro h6 (And.intro hsz hkp)))))
  clear hb h4 h5 h6 hsz hkp
  generalize hWW : W2 w1 b n A m c p (w.heap.size + 1 + 1) = WW at Q ⊢
  refine wpIn_rangeFunc_f (P := Try.prog) (w := WW) rfl (by omega) (gf := 42) (lb := #[.pointer (some ⟨w1.heap.size + 1, 0, none⟩), .pointer (some ⟨w1.heap.size, 0, none⟩), .pointer (some ⟨w1.heap.size + 1 + 1, 0, none⟩)]) rfl trivial (enters_of Try.func42 (by kernel_rfl) rfl)
    (encs := encI) (xs0 := (putT t p).1) (SB := fun b => b = w.heap.size + 1) (Z := fun b => b = w.heap.size + 1 + 1)
    (Rz := fun W => (putT t p).2.2 ≤ 262144 ∧ Blk W (w.heap.size + 1 + 1) 3 #[.int .i64 (putT t p).2.1]) (Pc := fun chain W => chain = [flt 3] ∧ 262144 < (putT t p).2.2 ∧ Blk W (w.heap.size + 1 + 1) 3 #[.int .i64 0])
    (fun b hb => by have := Q.out.2.2.2.2.1; omega) (fun A B hAB hR => ⟨hR.1, (hAB _ rfl).trans hR.2⟩)
    (by rw [← hWW]; exact all_seq _ t B (w.heap.size + 1) (w.heap.size + 1 + 1) p b n A m c w1 (by have := H.out.1; omega) (by omega) Q.out.2.2.1 (by omega) (H.out.2.1.keep (fun k hk => Q.out.1.block k (by have := H.out.1; omega))) H.out.2.2.2 H.out.2.2.1)
    (fun _ => rfl) (WI (w.heap.size + 1) WW.heap.size (putT t p).1) (WI.foot _ _ _) (fun b => b = w.heap.size + 1) (fun _ h => h) ?start ?round ?done ?panic
  case start => exact ⟨by have := Q.out.2.2.2.2.1; omega, none, 0, fun b => by simp, Q.out.2.1.below Q.out.2.2.2.2.2 (by omega), by simpa using OwnI.nil _ _, Nat.zero_le _⟩
  case round =>
    intro l k hk S W K hWl hSl hlt hI hK
    simp only [encI]
    gi_wp2
    intro W3 hk3 hI3
    obtain ⟨hR, A3, c3, hS, hb3, ho3, hle⟩ := hI3
    have x0 := hb3.cell0
    have x1 : ∀ o, (W3.alloc o).cell? ⟨w.heap.size + 1, 0, none⟩ = some (.slice A3 k c3) := fun o => (hb3.alloc o).cell0
    have hwx : InW (putT t p).1[k] := hxs.out.1 _ (List.getElem_mem hk)
    have hlen : ((putT t p).1.take k).length = k := by rw [List.length_take]; omega
    have hk9 : k + 1 ≤ 1000000 := by have := hxs.out.2.1; have := hxs.out.2.2; omega
    have htk : (putT t p).1.take k ++ [(putT t p).1[k]] = (putT t p).1.take (k + 1) := by rw [List.take_add_one, List.getElem?_eq_getElem hk]; rfl
    have hWs : WW.heap.size ≤ W3.heap.size := by have := hk3.size; omega
    generalize (putT t p).1[k] = x at hwx htk ⊢
    have T := hid (And.intro hI (And.intro hI (And.intro hS (And.intro hb3 (And.intro ho3 (And.intro htk (And.intro hlen (And.intro hwx (And.intro hR hk3)))))))))
    clear hI hS hb3 ho3 htk hwx hk3
    gi_wp2_with (gi_at_builtin; go_must (refine wpListIn_appI (by rfl) _ _ (by rfl) WW.heap.size (by rfl) (T.out.2.2.2.2.1.alloc _) (by rfl) (ints_one (wf_word T.out.2.2.2.2.2.2.2.1)) (by rw [hlen]; omega) (by simp; omega) ?_); intro A4 c4 w4 hr4 hg4 hn4; go_must (simp only [hlen] at hr4 ⊢; have N := WI.next T.out.2.2.2.2.2.2.2.2.1 T.out.2.2.1 T.out.2.2.2.1 T.out.2.2.2.2.1 hk T.out.2.2.2.2.2.1 hr4 hg4 hn4; have y0 := N.1.cell0; have y1 := N.1.frozen 0; have N2 := hid N.2; clear N hr4 hg4 hn4))
    exact N2.out
  case done =>
    intro D S W hD hI hSub hSD hRz hKp hDef
    obtain ⟨hR, A3, c3, hS, hb3, ho3, hle⟩ := hI
    rw [List.take_length] at ho3
    have hws := Q.out.2.2.2.2.1
    have h6 : Blk W (w.heap.size + 1 + 1 + 1) 22 #[.int .i64 0] := (hKp.block _ (by omega) (by omega)).trans (Q.out.2.2.2.1.below Q.out.2.2.2.2.2 (by omega))
    have hbW : Below w.heap.size w W := Q.out.1.trans (((Q.out.2.2.2.2.2.mono Q.out.1.size)).trans (hKp.below (by omega) (by rintro b (h | h) <;> omega)))
    have hDl := (Array.getElem?_eq_some_iff.1 hDef).1
    have x4 := hb3.cell0
    have x5 := hRz.2.cell0
    have x6 := h6.cell0
    have f4 := hb3.frozen 0
    have f5 := hRz.2.frozen 0
    have f6 := h6.frozen 0
    have V := hid (And.intro hS (And.intro hb3 (And.intro ho3 (And.intro hRz (And.intro h6 (And.intro hbW (And.intro hDef (And.intro hSD hR))))))))
    clear hS hb3 ho3 hRz h6 hbW hDef hSD hR hKp hSub
    have b4 := V.out.2.1
    have b5 := V.out.2.2.2.1.2
    have b6 := V.out.2.2.2.2.1
    have m1 : w.heap.size + 1 ≠ w.heap.size + 1 + 1 := by omega
    have m2 : w.heap.size + 1 ≠ w.heap.size + 1 + 1 + 1 := by omega
    have m3 : w.heap.size + 1 + 1 ≠ w.heap.size + 1 + 1 + 1 := by omega
    have S4 := (b4.set0 (.slice A3 (putT t p).1.length c3))
    have S5 := b5.far (p := ⟨w.heap.size + 1, 0, none⟩) m1.symm (.slice A3 (putT t p).1.length c3)
    have S6 := b6.far (p := ⟨w.heap.size + 1, 0, none⟩) m2.symm (.slice A3 (putT t p).1.length c3)
    have T4 := S4.far (p := ⟨w.heap.size + 1 + 1, 0, none⟩) m1 (.int .i64 (putT t p).2.1)
    have T5 := S5.set0 (.int .i64 (putT t p).2.1)
    have T6 := S6.far (p := ⟨w.heap.size + 1 + 1, 0, none⟩) m3.symm (.int .i64 (putT t p).2.1)
    have R4 := T4.far (p := ⟨w.heap.size + 1 + 1 + 1, 0, none⟩) m2 (.int .i64 0)
    have R5 := T5.far (p := ⟨w.heap.size + 1 + 1 + 1, 0, none⟩) m3 (.int .i64 0)
    have R6 := T6.set0 (.int .i64 0)
    have s4 := S4.cell0
    have s5 := S5.cell0
    have s6 := S6.cell0
    have t4 := T4.cell0
    have t5 := T5.cell0
    have t6 := T6.cell0
    have r4 := R4.cell0
    have r5 := R5.cell0
    have r6 := R6.cell0
    clear S4 S5 S6 T4 T5 T6 R4 R5 R6 b4 b5 b6
    gi_wp2
    refine wpIn_wide.2 ?_
    go_region_held3 (fun w' => w'.cell? ⟨w.heap.size + 1, 0, none⟩ = some (.slice A3 (putT t p).1.length c3) ∧ w'.cell? ⟨w.heap.size + 1 + 1, 0, none⟩ = some (.int .i64 (putT t p).2.1) ∧ w'.cell? ⟨w.heap.size + 1 + 1 + 1, 0, none⟩ = some (.int .i64 0)) (first | exact ⟨x4, x5, x6⟩ | exact ⟨s4, s5, s6⟩ | exact ⟨t4, t5, t6⟩ | exact ⟨r4, r5, r6⟩ | go_keep) (fail)
    clear s4 s5 s6 t4 t5 t6 x4 x5 x6 f4 f5 f6
    gi_wp2
    obtain ⟨v1, v2, v3, v4, v5, v6, v7, v8, v9⟩ := V.out
    obtain ⟨Wf, hWf⟩ : ∃ Wf, Wf = (((W.setCell ⟨w.heap.size + 1, 0, none⟩ (.slice A3 (putT t p).1.length c3)).setCell ⟨w.heap.size + 1 + 1, 0, none⟩ (.int .i64 (putT t p).2.1)).setCell ⟨w.heap.size + 1 + 1 + 1, 0, none⟩ (.int .i64 0)).drew := ⟨_, rfl⟩
    rw [← hWf]
    have hsame : ∀ g, g ≠ w.heap.size + 1 → g ≠ w.heap.size + 1 + 1 → g ≠ w.heap.size + 1 + 1 + 1 → Wf.heap[g]? = W.heap[g]? := fun g h1 h2 h3 => by
      rw [hWf]
      exact (Below.heap_setCell _ ⟨w.heap.size + 1 + 1 + 1, 0, none⟩ _ g h3).trans ((Below.heap_setCell _ ⟨w.heap.size + 1 + 1, 0, none⟩ _ g h2).trans (Below.heap_setCell _ ⟨w.heap.size + 1, 0, none⟩ _ g h1))
    have hbf : Below w.heap.size w Wf := by
      rw [hWf]
      exact (below_set (below_set (below_set v6 (by omega) _) (by omega) _) (by omega) _).drew
    have r4' : Wf.cell? ⟨w.heap.size + 1, 0, none⟩ = some (.slice A3 (putT t p).1.length c3) := by rw [hWf]; exact r4
    have r5' : Wf.cell? ⟨w.heap.size + 1 + 1, 0, none⟩ = some (.int .i64 (putT t p).2.1) := by rw [hWf]; exact r5
    have r6' : Wf.cell? ⟨w.heap.size + 1 + 1 + 1, 0, none⟩ = some (.int .i64 0) := by rw [hWf]; exact r6
    have hput : Below w.heap.size w (Wf.putObj D (.deferred none)) := hbf.trans ((Below.refl _ Wf).grown (grownBy_putObj' Wf D _) hbf.size (fun k e => by cases e; omega))
    have pc : ∀ g, g ≠ D → (Wf.putObj D (.deferred none)).cell? ⟨g, 0, none⟩ = Wf.cell? ⟨g, 0, none⟩ := fun g hg => World.cell?_of_block (w := Wf) (World.putObj_heap_other (fun e => hg (by simpa using e)))
    refine ⟨by simp, .inl ⟨_, _, rfl, run_takeDeferred ((hsame D (by omega) (by omega) (by omega)).trans v7), by simp, .inr ⟨by simp [Fence.wide], _, _, 30, #[.pointer (some ⟨w.heap.size + 1, 0, none⟩), .pointer (some ⟨w.heap.size + 1 + 1, 0, none⟩), .pointer (some ⟨w.heap.size + 1 + 1 + 1, 0, none⟩)], rfl, by simp [go_sem], fun _ _ => trivial,
      (words_idle _ _ _ _ _).mono ?_⟩⟩⟩
    rintro e u' w'' ⟨rfl, rfl, rfl⟩
    have y4 := (pc (w.heap.size + 1) (by omega)).trans r4'
    have y5 := (pc (w.heap.size + 1 + 1) (by omega)).trans r5'
    have y6 := (pc (w.heap.size + 1 + 1 + 1) (by omega)).trans r6'
    have e : wordsM t p = ((putT t p).1, (putT t p).2.1, 0) := if_neg (by have := v4.1; omega)
    rw [e]
    refine ⟨.tuple #[.slice A3 (putT t p).1.length c3, .int .i64 (putT t p).2.1, .int .i64 0], by simp [results, Try.results15, go_sem, y4, y5, y6], A3, c3, rfl, (v3.keep (fun a ha => ?_)).base (by omega), hput⟩
    subst ha
    have hl := v3.lt
    have hSa : S a.block := (v1 _).2 (.inr ⟨a, rfl, rfl⟩)
    exact (World.putObj_heap_other (by intro e; exact v8 (by rw [← e]; exact hSa))).trans (hsame _ (by omega) (by omega) (by omega))
  case panic =>
    intro D chain k S W hD hPc hI hSD hKp hDef
    obtain ⟨rfl, hov, hz⟩ := hPc
    obtain ⟨hR, A3, c3, hS, hb3, ho3, hle⟩ := hI
    have hws := Q.out.2.2.2.2.1
    have h6 : Blk W (w.heap.size + 1 + 1 + 1) 22 #[.int .i64 0] := (hKp.block _ (by omega) (by omega)).trans (Q.out.2.2.2.1.below Q.out.2.2.2.2.2 (by omega))
    have hbW : Below w.heap.size w W := Q.out.1.trans (((Q.out.2.2.2.2.2.mono Q.out.1.size)).trans (hKp.below (by omega) (by rintro b (h | h) <;> omega)))
    have e : wordsM t p = ([], 0, 3) := if_pos hov
    rw [e]
    have hput : Below w.heap.size w (W.putObj D (.deferred none)) := hbW.trans ((Below.refl _ W).grown (grownBy_putObj' W D _) hbW.size (fun k e => by cases e; omega))
    refine ⟨by simp, .inl ⟨_, _, rfl, run_takeDeferred hDef, by simp, .inr ⟨by simp [Fence.wide], _, _, 30, #[.pointer (some ⟨w.heap.size + 1, 0, none⟩), .pointer (some ⟨w.heap.size + 1 + 1, 0, none⟩), .pointer (some ⟨w.heap.size + 1 + 1 + 1, 0, none⟩)], rfl, by simp [go_sem], fun _ _ => trivial,
      (words_catch _ _ _ _ _ _ _ _ _ ((World.putObj_heap_other (by omega)).trans hb3) ((World.putObj_heap_other (by omega)).trans hz) ((World.putObj_heap_other (by omega)).trans h6)).mono ?_⟩⟩⟩
    rintro e u' w'' ⟨rfl, hu, k4, k5, k6, hbb⟩
    show LeavesInM _ _ _ _ _ _ _ (settle u') w''
    rw [hu]
    have y4 := k4.cell0
    have y5 := k5.cell0
    have y6 := k6.cell0
    refine ⟨.tuple #[.slice none 0 0, .int .i64 0, .int .i64 3], by simp [results, Try.results15, go_sem, y4, y5, y6], none, 0, rfl, OwnI.nil _ _, ?_⟩
    exact hput.trans (hbb _ (by omega) (by omega) (by omega) hput.size)

/-- cells.Words, of whatever value. -/
theorem cells_Words (B : Nat) (t : Tr) (v : Value) (x : Int) (w : World) (hB : B ≤ w.heap.size) (hv : VAt w B t v) (hbig : 0 ≤ x → x ≤ 262144 → (putT t x.toNat).2.2 ≤ 900000) :
    Calls Try.prog 15 #[v, .int .i64 x] w (WordsP (wordsR t x) w) := by
  have hv0 := hv
  obtain ⟨b, n, us⟩ := t
  obtain ⟨A, c, rfl, _⟩ := hv.parts
  unfold wordsR
  by_cases hx : x < 0 ∨ 262144 < x
  · rw [if_pos hx]
    exact words_arg b n A us.length c x w (by omega)
  · rw [if_neg hx]
    cases hm : mayB (.mk b n us) 1 with
    | false =>
      rw [if_pos rfl]
      exact words_deny B _ b n A us.length c x w (by omega) (by omega) hB hv0 hm
    | true =>
      rw [if_neg (by simp)]
      obtain ⟨p, rfl⟩ : ∃ p : Nat, x = p := ⟨x.toNat, by omega⟩
      have := words_main B _ b n A us.length c p w (by omega) hB hv0 hm (by have := hbig (by omega) (by omega); simpa using this)
      simpa [wordsM] using this
end Go.Proofs.Ytgakmfcnddholaa
