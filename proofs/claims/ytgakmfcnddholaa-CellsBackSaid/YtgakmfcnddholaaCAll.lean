/-
  THE WALKS OF cells.all AND OF WHAT IT HANDS BACK: an iterator over the words of a value's objects.
-/
import Derived.Test.YtgakmfcnddholaaCWrite
import Derived.Deep.DeepMust
import Derived.Deep.RegionHeld3
import Derived.RegionDies
namespace Go.Proofs.Ytgakmfcnddholaa
open Go.ChangeShapes Go.WideShapes Go.ChangeAt Go.RowKit Go.Shelf

theorem write_all : ∀ (N : Nat) (t : Tr), SizeOf.sizeOf t ≤ N → ∀ (J : Nat → (Nat → Prop) → World → Prop) (xs0 : List Int) (pw l B : Nat), Foot J → RoundF Fence.wide 0 Try.prog l encI xs0 J → B ≤ pw →
    ∀ (d k : Nat) (S : Nat → Prop) (p : Nat) (v : Value) (rest : List Int) (W : World), J k S W → ¬ S pw →
      Blk W pw 76 #[.int .i64 (p : Nat), .func (.yield l) #[] #[]] → VAt W B t v → (∀ b, S b → B ≤ b) → B ≤ W.heap.size → p ≤ 262144 → mayB t d = true → xs0.drop k = (putT t p).1 ++ rest →
      Calls Try.prog 43 #[.pointer (some ⟨pw, 0, none⟩), v] W (WriteP J k S pw l p t W) := by
  intro N
  induction N with
  | zero => intro t ht; cases t; simp at ht
  | succ N ih =>
  intro t ht J xs0 pw l B hJ hR hB d k S p v rest W hj hS hb hv hSB hBW hp hmay hxs
  obtain ⟨b, n, us⟩ := t
  obtain ⟨A, c, rfl, hc, hcm, hnil, hrow, hwf⟩ := hv.parts
  cases b with
  | true => exact write_int J k S pw l p n us A us.length c W hJ hj hb hp
  | false =>
    rw [mayB_node] at hmay
    simp only [Bool.and_eq_true, decide_eq_true_eq] at hmay
    obtain ⟨_, ⟨h0, h32, h8⟩, hl⟩ := hmay
    exact write_node J k S pw l p B d n us A c xs0 rest W hJ hR hj hS hb hrow hSB hB hBW hp h0 h32 h8 hl hxs
      (fun t hm k S p v rest W => ih t (by have := tr_lt (b := false) (n := n) hm; omega) J xs0 pw l B hJ hR hB (d + 1) k S p v rest W)

theorem cells_all (b : Bool) (n : Int) (A : Option Addr) (m c : Nat) (p z : Nat) (w : World) :
    Calls Try.prog 32 #[.agg #[.bool b, .int .i64 n, .slice A m c], .int .i64 p, .pointer (some ⟨z, 0, none⟩)] w fun e w' =>
      e = .returned (.func (.func 42) #[] #[.pointer (some ⟨w.heap.size + 1, 0, none⟩), .pointer (some ⟨w.heap.size, 0, none⟩), .pointer (some ⟨w.heap.size + 1 + 1, 0, none⟩)]) ∧
      w' = ((w.alloc (.cells #[.bool b, .int .i64 n, .slice A m c] 33)).alloc (.cells #[.int .i64 p] 3)).alloc (.cells #[.pointer (some ⟨z, 0, none⟩)] 61) := by
  go_enter Try.func32, Try.ntmps32
  go_wp2
  go_ret
  exact ⟨rfl, rfl⟩

/-- What stands where the iterator calls write: the writer is laid. -/
structure AllIn (J : Nat → (Nat → Prop) → World → Prop) (S0 : Nat → Prop) (l p q z B d : Nat) (t : Tr) (b : Bool) (n : Int) (A : Option Addr) (m c : Nat) (z0 : Int) (W : World) : Prop where
  hJ : Foot J
  hR : RoundF Fence.wide 0 Try.prog l encI (putT t p).1 J
  hj : J 0 S0 W
  b0 : Blk W q 33 #[.bool b, .int .i64 n, .slice A m c]
  b1 : Blk W (q + 1) 3 #[.int .i64 p]
  b2 : Blk W (q + 1 + 1) 61 #[.pointer (some ⟨z, 0, none⟩)]
  b3 : Blk W z 3 #[.int .i64 z0]
  n0 : ¬ S0 q
  n2 : ¬ S0 (q + 1 + 1)
  n3 : ¬ S0 z
  hSB : ∀ b, S0 b → B ≤ b
  hB : B ≤ W.heap.size
  hv : VAt W B t (.agg #[.bool b, .int .i64 n, .slice A m c])
  hp : p ≤ 262144
  hmay : mayB t d = true
/-- The writer's block. -/
def wtr (p l : Nat) : Obj := .cells #[.int .i64 (p : Nat), .func (.yield l) #[] #[]] 76
/-- What stands behind the call. -/
structure AllOut (J : Nat → (Nat → Prop) → World → Prop) (S0 : Nat → Prop) (q z : Nat) (b : Bool) (n : Int) (A : Option Addr) (m c : Nat) (z0 : Int) (W W' : World) : Prop where
  c0 : Blk W' q 33 #[.bool b, .int .i64 n, .slice A m c]
  c2 : Blk W' (q + 1 + 1) 61 #[.pointer (some ⟨z, 0, none⟩)]
  c3 : Blk W' z 3 #[.int .i64 z0]
  kept : Kept S0 W W'
theorem all_call {J : Nat → (Nat → Prop) → World → Prop} {S0 : Nat → Prop} {l p q z B d : Nat} {t : Tr} {b : Bool} {n : Int} {A : Option Addr} {m c : Nat} {z0 : Int} {W : World} (h : AllIn J S0 l p q z B d t b n A m c z0 W)
    (W1 : World) (h1 : W1.os = W.os) (h2 : W1.tape = W.tape) (h3 : W1.output = W.output) (hh : W1.heap = (W.alloc (wtr p l)).heap) :
    Calls Try.prog 43 #[.pointer (some ⟨W.heap.size, 0, none⟩), .agg #[.bool b, .int .i64 n, .slice A m c]] W1 fun e W' =>
      (((putT t p).2.2 ≤ 262144 ∧ e = .returned (.int .i64 (putT t p).2.1) ∧ ∃ S', J (putT t p).1.length S' W' ∧ ∀ b, S' b → S0 b ∨ W.heap.size ≤ b) ∨ (262144 < (putT t p).2.2 ∧ e = .panicked [flt 3] ∧ ∃ k S', J k S' W')) ∧
      AllOut J S0 q z b n A m c z0 W W' := by
  have hlt := h.hJ.lt _ _ _ h.hj
  have hsz : W1.heap.size = W.heap.size + 1 := by rw [hh]; simp
  have hold : ∀ k, k < W.heap.size → W1.heap[k]? = W.heap[k]? := fun k hk => by rw [hh]; exact Below.heap_alloc _ _ _ hk
  have hk0 : Kept S0 W W1 := ⟨h1, h2, h3, by omega, fun k hk _ => hold k hk⟩
  have hnew : Blk W1 W.heap.size 76 #[.int .i64 (p : Nat), .func (.yield l) #[] #[]] := by unfold Blk; rw [hh]; exact World.alloc_heap_new _ _
  have hS : ¬ S0 W.heap.size := fun e => by have := hlt _ e; omega
  refine (write_all _ t (Nat.le_refl _) J (putT t p).1 W.heap.size l B h.hJ h.hR h.hB d 0 S0 p _ [] W1 (h.hJ.stab _ _ _ _ h.hj (fun b hb => hold b (hlt _ hb))) hS hnew (h.hv.keep (fun k hk => hold k (by have := h.hB; omega))) h.hSB (by have := h.hB; omega) h.hp h.hmay (by simp)).mono ?_
  rintro e W' ⟨hP, hk⟩
  have hk2 : Kept S0 W W' := hk0.then hk (fun _ _ e => e) (fun b hb e => e.elim id (fun e => by omega))
  have hb : ∀ g, g < W.heap.size → ¬ S0 g → W'.heap[g]? = W.heap[g]? := fun g hg hn => hk2.block g hg hn
  refine ⟨?_, (hb _ h.b0.lt h.n0).trans h.b0, (hb _ h.b2.lt h.n2).trans h.b2, (hb _ h.b3.lt h.n3).trans h.b3, hk2⟩
  rcases hP with ⟨f1, f2, _, S', f4, f5⟩ | ⟨f1, f2, f3⟩
  · exact .inl ⟨f1, f2, S', by simpa using f4, fun b hb => (f5 b hb).imp id (fun e => by omega)⟩
  · exact .inr ⟨f1, f2, f3⟩

theorem all_yes {J : Nat → (Nat → Prop) → World → Prop} {S0 : Nat → Prop} {l p q z B d : Nat} {t : Tr} {b : Bool} {n : Int} {A : Option Addr} {m c : Nat} {z0 : Int} {W : World} (h : AllIn J S0 l p q z B d t b n A m c z0 W) (hf : (putT t p).2.2 ≤ 262144)
    (W1 : World) (h1 : W1.os = W.os) (h2 : W1.tape = W.tape) (h3 : W1.output = W.output) (hh : W1.heap = (W.alloc (wtr p l)).heap) :
    Calls Try.prog 43 #[.pointer (some ⟨W.heap.size, 0, none⟩), .agg #[.bool b, .int .i64 n, .slice A m c]] W1 fun e W' =>
      e = .returned (.int .i64 (putT t p).2.1) ∧ (∃ S', J (putT t p).1.length S' W' ∧ ∀ b, S' b → S0 b ∨ W.heap.size ≤ b) ∧ AllOut J S0 q z b n A m c z0 W W' :=
  (all_call h W1 h1 h2 h3 hh).mono fun e W' hP => by
    obtain ⟨⟨_, h4, h5⟩ | ⟨h4, _⟩, h6⟩ := hP
    · exact ⟨h4, h5, h6⟩
    · omega
theorem all_no {J : Nat → (Nat → Prop) → World → Prop} {S0 : Nat → Prop} {l p q z B d : Nat} {t : Tr} {b : Bool} {n : Int} {A : Option Addr} {m c : Nat} {z0 : Int} {W : World} (h : AllIn J S0 l p q z B d t b n A m c z0 W) (hf : ¬ (putT t p).2.2 ≤ 262144)
    (W1 : World) (h1 : W1.os = W.os) (h2 : W1.tape = W.tape) (h3 : W1.output = W.output) (hh : W1.heap = (W.alloc (wtr p l)).heap) :
    Calls Try.prog 43 #[.pointer (some ⟨W.heap.size, 0, none⟩), .agg #[.bool b, .int .i64 n, .slice A m c]] W1 fun e W' =>
      e = .panicked [flt 3] ∧ (∃ k S', J k S' W') ∧ AllOut J S0 q z b n A m c z0 W W' :=
  (all_call h W1 h1 h2 h3 hh).mono fun e W' hP => by
    obtain ⟨⟨h4, _⟩ | ⟨_, h4, h5⟩, h6⟩ := hP
    · exact absurd h4 hf
    · exact ⟨h4, h5, h6⟩

set_option maxHeartbeats 4000000 in
set_option maxRecDepth 100000 in
theorem all_1 {J : Nat → (Nat → Prop) → World → Prop} {S0 : Nat → Prop} {l p q z B d : Nat} {t : Tr} {b : Bool} {n : Int} {A : Option Addr} {m c : Nat} {z0 : Int} {W : World} (h : AllIn J S0 l p q z B d t b n A m c z0 W) :
    Calls Try.prog 42 #[.func (.yield l) #[] #[], .pointer (some ⟨q + 1, 0, none⟩), .pointer (some ⟨q, 0, none⟩), .pointer (some ⟨q + 1 + 1, 0, none⟩)] W fun e W' =>
      (((∃ v, e = .returned v) ∧ ((putT t p).2.2 ≤ 262144 ∧ Blk W' z 3 #[.int .i64 (putT t p).2.1]) ∧ ∃ S', J (putT t p).1.length S' W' ∧ ∀ b, S' b → S0 b ∨ W.heap.size ≤ b) ∨ (∃ chain, e = .panicked chain ∧ (chain = [flt 3] ∧ 262144 < (putT t p).2.2 ∧ Blk W' z 3 #[.int .i64 z0]) ∧ ∃ k S', J k S' W')) ∧
      Kept (fun b => S0 b ∨ b = z) W W' := by
  have y1 := h.b1.cell0
  have x0 : ∀ o, (W.alloc o).cell? ⟨q, 0, none⟩ = some (.bool b) := fun o => (h.b0.alloc o).cell 0
  have x1 : ∀ o, (W.alloc o).cell? ⟨q, 1, none⟩ = some (.int .i64 n) := fun o => (h.b0.alloc o).cell 1
  have x2 : ∀ o, (W.alloc o).cell? ⟨q, 2, none⟩ = some (.slice A m c) := fun o => (h.b0.alloc o).cell 2
  have x3 : ∀ o, (W.alloc o).cell? ⟨q + 1 + 1, 0, none⟩ = some (.pointer (some ⟨z, 0, none⟩)) := fun o => (h.b2.alloc o).cell0
  have hz0 : q ≠ z := h.b0.ne_ h.b3 (by decide)
  have hz2 : q + 1 + 1 ≠ z := h.b2.ne_ h.b3 (by decide)
  have hz3 : z ≠ q := fun e => hz0 e.symm
  have hz4 : z ≠ q + 1 + 1 := fun e => hz2 e.symm
  have H := hid h
  clear h
  by_cases hfit : (putT t p).2.2 ≤ 262144
  · have HF := hid hfit
    clear hfit
    go_enter Try.func42, Try.ntmps42
    go_wp2
    go_region_held3 (fun w' => w'.cell? ⟨q, 0, none⟩ = some (.bool b) ∧ w'.cell? ⟨q, 1, none⟩ = some (.int .i64 n) ∧ w'.cell? ⟨q, 2, none⟩ = some (.slice A m c) ∧ w'.cell? ⟨q + 1 + 1, 0, none⟩ = some (.pointer (some ⟨z, 0, none⟩)))
      (first | exact ⟨x0 _, x1 _, x2 _, x3 _⟩ | exact ⟨y4, y5, y6, y7⟩ | go_keep)
      ((go_at_call 43; refine (all_yes H.out HF.out _ (by rfl) (by rfl) (by rfl) (by rfl)).mono ?_; rintro e w1 ⟨rfl, hj1, ho⟩; have y4 := ho.c0.cell 0; have y5 := ho.c0.cell 1; have y6 := ho.c0.cell 2; have y7 := ho.c2.cell0; have y8 := ho.c3.cell0; have y9 := ho.c3.frozen 0))
    all_goals
      go_wp2
      go_end0
      obtain ⟨S', hs1, hs2⟩ := hj1
      have hlt := H.out.hJ.lt _ _ _ H.out.hj
      have hzl := H.out.b3.lt
      refine ⟨.inl ⟨⟨_, rfl⟩, ⟨HF.out, (ho.c3.set0 _ : Blk _ z 3 _)⟩, S', H.out.hJ.stab _ _ _ _ hs1 (fun b hb => Below.heap_setCell _ _ _ _ (by rintro rfl; rcases hs2 _ hb with h | h; exact H.out.n3 h; omega)), hs2⟩, (ho.kept.mono (fun _ _ e => .inl e)).setCell (.inl (.inr rfl)) _⟩
  · have HF := hid hfit
    clear hfit
    go_enter Try.func42, Try.ntmps42
    go_wp2
    go_region_dies
    all_goals (refine (all_no H.out HF.out _ (by rfl) (by rfl) (by rfl) (by rfl)).mono ?_; rintro e w1 ⟨rfl, hj1, ho⟩; exact ⟨rfl, .inr ⟨_, rfl, ⟨rfl, Nat.lt_of_not_le HF.out, ho.c3⟩, hj1⟩, ho.kept.mono (fun _ _ e => .inl e)⟩)
end Go.Proofs.Ytgakmfcnddholaa
