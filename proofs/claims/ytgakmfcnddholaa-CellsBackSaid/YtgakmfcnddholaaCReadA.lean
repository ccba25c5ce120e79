/-
  THE WALK OF (*cells.reader).read, WHOLE; THEN OF cells.Val.
-/
import Derived.Test.YtgakmfcnddholaaCReadN
import Derived.Test.YtgakmfcnddholaaCDefer
import Derived.Laws.EntriesVeiled
import Derived.RangeFuncLeaves
import Derived.Deep.RegionHeld3
import Derived.ControlIn
namespace Go.Proofs.Ytgakmfcnddholaa
open Go.ChangeShapes Go.WideShapes Go.ChangeAt Go.RowKit

theorem kidsF_nn {f : Int → Int → Option (Tr × Int)} (hf : ∀ y l t l', f y l = some (t, l') → 0 ≤ l' ∧ l' ≤ l) : ∀ (ys : List Int) (l : Int) (us : List Tr) (l' : Int), 0 ≤ l → kidsF f ys l = some (us, l') → 0 ≤ l'
  | [], l, us, l', h0, h => by simp only [kidsF, Option.some.injEq, Prod.mk.injEq] at h; omega
  | y :: ys, l, us, l', h0, h => by
    rw [kidsF] at h
    cases h1 : f y l with
    | none => rw [h1] at h; simp at h
    | some r =>
      obtain ⟨t, l1⟩ := r
      rw [h1] at h
      dsimp only at h
      cases h2 : kidsF f ys l1 with
      | none => rw [h2] at h; simp at h
      | some r2 =>
        obtain ⟨us2, l2⟩ := r2
        rw [h2] at h
        simp only [Option.some.injEq, Prod.mk.injEq] at h
        have h3 := kidsF_nn hf ys l1 us2 l2 (hf _ _ _ _ h1).1 h2
        omega
theorem readF_succ (ws : List Int) (k : Nat) (x left : Int) : readF ws (k + 1) x left = if left - 1 < 0 then none else if IntOk x then some (.mk true (toN x) [], left - 1) else if ObjOk ws x then nodeR (ofT (gw ws (plN x))) (kidsF (readF ws k) ((ws.drop (plN x + 1)).take (ofS (gw ws (plN x)))) (left - 1)) else none := by
  rw [readF]
  split
  · rfl
  · split
    · rfl
    · split
      · cases kidsF (readF ws k) ((ws.drop (plN x + 1)).take (ofS (gw ws (plN x)))) (left - 1) with
        | none => rfl
        | some r => rfl
      · rfl
theorem readF_left (ws : List Int) : ∀ (k : Nat) (x l : Int) (t : Tr) (l' : Int), readF ws k x l = some (t, l') → 0 ≤ l' ∧ l' ≤ l
  | 0, x, l, t, l', h => by rw [readF] at h; cases h
  | k + 1, x, l, t, l', h => by
    rw [readF_succ] at h
    split at h
    · cases h
    · rename_i h0
      split at h
      · simp only [Option.some.injEq, Prod.mk.injEq] at h; omega
      · split at h
        · cases hk : kidsF (readF ws k) ((ws.drop (plN x + 1)).take (ofS (gw ws (plN x)))) (l - 1) with
          | none => rw [hk] at h; cases h
          | some r =>
            obtain ⟨us, l2⟩ := r
            rw [hk] at h
            simp only [nodeR, Option.some.injEq, Prod.mk.injEq] at h
            have h1 := kidsF_left (fun y l t l' h => (readF_left ws k y l t l' h).2) _ _ _ _ hk
            have h2 := kidsF_nn (fun y l t l' h => readF_left ws k y l t l' h) _ _ _ _ (by omega) hk
            omega
        · cases h
theorem cells_read (pr B : Nat) (A : Option Addr) (n c : Nat) (ws : List Int) (hB : B ≤ pr) (hn : n ≤ 1000000) : ∀ (k : Nat), k ≤ 256 → ∀ (x left d : Int) (W : World), (Lit.int .i64 x).wf = true → d = 257 - k → Blk W pr 68 #[.slice A n c, .int .i64 left] → Ints W B A n c ws → 0 ≤ left → left ≤ 2048 →
      Calls Try.prog 38 #[.pointer (some ⟨pr, 0, none⟩), .int .i64 x, .int .i64 d] W (ReadP (readF ws k x left) pr (.slice A n c) W) := by
  intro k
  induction k with
  | zero =>
    intro _ x left d W hx hd hb hi h0 h1
    rw [readF]
    exact read_over pr A n c left x d W hb h0 h1 (by omega)
  | succ k ih =>
    intro hk x left d W hx hd hb hi h0 h1
    have hlen := hi.len
    rw [readF_succ]
    by_cases hl : left - 1 < 0
    · rw [if_pos hl]
      exact read_over pr A n c left x d W hb h0 h1 (.inl hl)
    · rw [if_neg hl]
      by_cases hio : IntOk x
      · rw [if_pos hio]
        exact read_int pr A n c left x d W hb h1 (by omega) (by omega) hio
      · rw [if_neg hio]
        by_cases hp : PlOk x ∧ plN x < n
        · obtain ⟨ad, rfl⟩ := hi.some_ hp.2
          by_cases ho : OfOk (gw ws (plN x)) ∧ ofT (gw ws (plN x)) < 32 ∧ ofS (gw ws (plN x)) ≤ 8 ∧ plN x + ofS (gw ws (plN x)) < n
          · rw [if_pos (show ObjOk ws x from ⟨⟨hp.1, by omega⟩, ho.1, ho.2.1, ho.2.2.1, by omega⟩)]
            exact read_node k pr B (plN x) ad n c ws left x d W hb hi hB h1 (by omega) (by omega) (by omega) hx hio hp.1 rfl hp.2 hn ho.1 ho.2.1 ho.2.2.1 ho.2.2.2
              (fun y l d W hy hd hb hi h0 h1 => ih (by omega) y l d W hy hd hb hi h0 h1) (fun y l t l' h => readF_left ws k y l t l' h)
          · rw [if_neg (show ¬ ObjOk ws x from fun h => ho ⟨h.2.1, h.2.2.1, h.2.2.2.1, by have := h.2.2.2.2; omega⟩)]
            exact read_nohead pr B (plN x) ad n c ws left x d W hb hi hB h1 (by omega) (by omega) hx hio hp.1 rfl hp.2 hn (by
              by_cases a1 : OfOk (gw ws (plN x))
              · by_cases a2 : ofT (gw ws (plN x)) < 32
                · by_cases a3 : ofS (gw ws (plN x)) ≤ 8
                  · exact .inr (.inr (.inr ⟨a1, a2, a3, fun a4 => ho ⟨a1, a2, a3, a4⟩⟩))
                  · exact .inr (.inr (.inl ⟨a1, a2, a3⟩))
                · exact .inr (.inl ⟨a1, a2⟩)
              · exact .inl a1)
        · rw [if_neg (show ¬ ObjOk ws x from fun h => hp ⟨h.1.1, by have := h.1.2; omega⟩)]
          exact read_noplace pr A n c left x d W hb h1 (by omega) (by omega) hx hio (by
            by_cases a1 : PlOk x
            · exact .inr ⟨a1, fun a2 => hp ⟨a1, a2⟩⟩
            · exact .inl a1)
/-- What Val tells. -/
def valR (ws : List Int) (x : Int) : Option Tr := (readF ws 256 x 2048).map (·.1)
def zeroV : Value := .agg #[.bool false, .int .i64 0, .slice none 0 0]
def ValP (r : Option Tr) (w : World) (e : Ending) (w' : World) : Prop :=
  Below w.heap.size w w' ∧
  match r with
  | some t => ∃ v, e = .returned (.tuple #[v, .int .i64 0]) ∧ VAtS w' (fun b => w.heap.size ≤ b) t v
  | none => e = .returned (.tuple #[zeroV, .int .i64 270])

/-- Val's deferred function: nothing to recover. -/
theorem val_idle (p4 p5 : Addr) (n : Nat) (w : World) :
    CallsDIn Fence.wide n Try.prog 37 #[.pointer (some p4), .pointer (some p5)] .returning w fun e u' w' => e = .returned (.tuple #[]) ∧ u' = .returning ∧ w' = w := by
  refine callsDIn_of_wpSIn Try.func37 rfl trivial fun c₀ cs hu => ?_
  simp only [Try.ntmps37, List.size_toArray, List.length_cons, List.length_nil, Nat.reduceAdd, Nat.reduceSub, Array.replicate_succ, Array.replicate_zero, List.push_toArray, List.append_toArray, List.nil_append, List.cons_append]
  apply wpSIn_seq
  apply wpSIn_region
  simp [wpOpsSIn, go_sem, recoverD, hu, Exit.thenS]
  refine wpSIn_of_wpIn rfl ?_
  gi_wp2
  cases c₀
  simp_all [bodyPostS, results, Try.results37]

set_option maxHeartbeats 4000000 in
/-- A fault is recovered: no value, and its number. -/
theorem val_catch (g4 g5 : Nat) (x5 k : Int) (n : Nat) (w : World) (h4 : Blk w g4 33 #[.bool false, .int .i64 0, .slice none 0 0]) (h5 : Blk w g5 22 #[.int .i64 x5]) :
    CallsDIn Fence.wide n Try.prog 37 #[.pointer (some ⟨g4, 0, none⟩), .pointer (some ⟨g5, 0, none⟩)] (.panicking [flt k]) w fun e u' w' =>
      e = .returned (.tuple #[]) ∧ settle u' = .returning ∧ Blk w' g4 33 #[.bool false, .int .i64 0, .slice none 0 0] ∧ Blk w' g5 22 #[.int .i64 k] ∧ ∀ B, B ≤ g4 → B ≤ g5 → B ≤ w.heap.size → Below B w w' := by
  refine callsDIn_of_wpSIn Try.func37 rfl trivial fun c₀ cs hu => ?_
  simp only [Try.ntmps37, List.size_toArray, List.length_cons, List.length_nil, Nat.reduceAdd, Nat.reduceSub, Array.replicate_succ, Array.replicate_zero, List.push_toArray, List.append_toArray, List.nil_append, List.cons_append]
  apply wpSIn_seq
  apply wpSIn_region
  unfold flt at hu
  simp [wpOpsSIn, go_sem, recoverD, hu, Exit.thenS]
  refine wpSIn_of_wpIn rfl (wpIn_wide.2 ?_)
  have hta := assert_fault k
  have l4 := h4.lt
  have l5 := h5.lt
  have n45 := h4.ne_ h5 (by decide)
  have n54 := n45.symm
  have m4 : g4 ≠ w.heap.size := by omega
  have m5 : g5 ≠ w.heap.size := by omega
  have m4' := m4.symm
  have m5' := m5.symm
  have a0 : w.cell? ⟨g4, 0, none⟩ = some (.bool false) := h4.cell 0
  have a1 : w.cell? ⟨g4, 1, none⟩ = some (.int .i64 0) := h4.cell 1
  have a2 : w.cell? ⟨g4, 2, none⟩ = some (.slice none 0 0) := h4.cell 2
  have b0 := h5.cell0
  have x0 : ∀ o, (w.alloc o).cell? ⟨g4, 0, none⟩ = some (.bool false) := fun o => (h4.alloc o).cell 0
  have x1 : ∀ o, (w.alloc o).cell? ⟨g4, 1, none⟩ = some (.int .i64 0) := fun o => (h4.alloc o).cell 1
  have x2 : ∀ o, (w.alloc o).cell? ⟨g4, 2, none⟩ = some (.slice none 0 0) := fun o => (h4.alloc o).cell 2
  have x5' : ∀ o, (w.alloc o).cell? ⟨g5, 0, none⟩ = some (.int .i64 x5) := fun o => (h5.alloc o).cell0
  have f0 := fun i => h4.frozen i
  have f5 := h5.frozen 0
  have F0 : ∀ o i, (w.alloc o).frozen? ⟨g4, i, none⟩ = false := fun o i => (h4.alloc o).frozen i
  have F5 : ∀ o, (w.alloc o).frozen? ⟨g5, 0, none⟩ = false := fun o => (h5.alloc o).frozen 0
  go_wp2
  have nk : ∀ X : World, X.heap.size = w.heap.size → (X.alloc (.cells #[.int .i64 k] 57)).cell? ⟨w.heap.size, 0, none⟩ = some (.int .i64 k) := fun X hX => (Blk.new' hX.symm 57 #[.int .i64 k]).cell0
  have nk' : ∀ X : World, X.heap.size = w.heap.size → (X.alloc (.cells #[.int .i64 k] 57)).drew.cell? ⟨w.heap.size, 0, none⟩ = some (.int .i64 k) := nk
  go_region_held3 (fun w' => w'.cell? ⟨w.heap.size, 0, none⟩ = some (.int .i64 k)) (first | exact nk _ (by simp) | exact nk' _ (by simp) | go_keep) (fail)
  refine ⟨rfl, _, rfl, .tuple #[], by simp [results, Try.results37], rfl, rfl, ?_, ?_, ?_⟩
  · exact ((((((h4.set_ 0 (.bool false)).set_ 1 (.int .i64 0)).set_ 2 (.slice none 0 0)).far (p := ⟨g5, 0, none⟩) n45 _).alloc _ : Blk _ g4 _ _))
  · exact ((((((h5.far (p := ⟨g4, 0, none⟩) n54 _).far (p := ⟨g4, 1, none⟩) n54 _).far (p := ⟨g4, 2, none⟩) n54 _).set0 _).alloc _ : Blk _ g5 _ _))
  · intro B b4 b5 bs
    exact ((below_set (below_set (below_set (below_set (Below.refl B w) b4 _) b4 _) b4 _) b5 _).alloc (by simpa using bs) _).drew

/-- The world in which read is called. -/
def W3 (w : World) (A : Option Addr) (n c : Nat) : World := ((w.alloc (.cells #[.bool false, .int .i64 0, .slice none 0 0] 33)).alloc (.cells #[.int .i64 0] 22)).alloc (.cells #[.slice A n c, .int .i64 2048] 68)
theorem W3_below (w : World) (A : Option Addr) (n c : Nat) : Below w.heap.size w (W3 w A n c) := by unfold W3; go_grown
theorem W3_size (w : World) (A : Option Addr) (n c : Nat) : (W3 w A n c).heap.size = w.heap.size + 3 := by simp [W3]
theorem val_4 {w w1 : World} {A : Option Addr} {n c : Nat} (k : Kept (fun b => b = w.heap.size + 1 + 1) (W3 w A n c) w1) : Blk w1 w.heap.size 33 #[.bool false, .int .i64 0, .slice none 0 0] :=
  (k.block _ (by rw [W3_size]; omega) (by omega)).trans (((Blk.new w 33 #[.bool false, .int .i64 0, .slice none 0 0]).alloc _).alloc _)
theorem val_5 {w w1 : World} {A : Option Addr} {n c : Nat} (k : Kept (fun b => b = w.heap.size + 1 + 1) (W3 w A n c) w1) : Blk w1 (w.heap.size + 1) 22 #[.int .i64 0] :=
  (k.block _ (by rw [W3_size]; omega) (by omega)).trans ((Blk.new' (by simp) 22 #[.int .i64 0]).alloc _)
theorem val_b {w w1 : World} {A : Option Addr} {n c : Nat} (k : Kept (fun b => b = w.heap.size + 1 + 1) (W3 w A n c) w1) : Below w.heap.size w w1 :=
  (W3_below w A n c).trans (k.below (by rw [W3_size]; omega) (by rintro b rfl; omega))
set_option maxHeartbeats 4000000 in
set_option maxRecDepth 100000 in
theorem cells_Val (B : Nat) (A : Option Addr) (n c : Nat) (ws : List Int) (x : Int) (w : World) (hB : B ≤ w.heap.size) (hi : Ints w B A n c ws) (hn : n ≤ 1000000) (hx : (Lit.int .i64 x).wf = true) :
    Calls Try.prog 27 #[.slice A n c, .int .i64 x] w (ValP (valR ws x) w) := by
  have H := hid (And.intro hB (And.intro hi (And.intro hn hx)))
  clear hB hi hn hx
  have hcall : ∀ (o0 o1 : Obj), Calls Try.prog 38 #[.pointer (some ⟨w.heap.size + 1 + 1, 0, none⟩), .int .i64 x, .int .i64 1] (((w.alloc o0).alloc o1).alloc (.cells #[.slice A n c, .int .i64 2048] 68))
      (ReadP (readF ws 256 x 2048) (w.heap.size + 1 + 1) (.slice A n c) (((w.alloc o0).alloc o1).alloc (.cells #[.slice A n c, .int .i64 2048] 68))) := fun o0 o1 =>
    cells_read (w.heap.size + 1 + 1) B A n c ws (by have := H.out.1; omega) H.out.2.2.1 256 (Nat.le_refl _) x 2048 1 _ H.out.2.2.2 (by omega) (Blk.new' (by simp) _ _) (H.out.2.1.below ((by go_grown : Below w.heap.size w _).mono H.out.1) (Nat.le_refl _)) (by omega) (by omega)
  have HC := hid hcall
  clear hcall
  refine callsIn_wide (n := 5) |>.1 ?_
  refine callsIn_of_wp_marks Try.func27 rfl trivial ?_ rfl
  simp only [Try.ntmps27, List.size_toArray, List.length_cons, List.length_nil, Nat.reduceAdd, Nat.reduceSub, Array.replicate_succ, Array.replicate_zero, List.push_toArray, List.append_toArray, List.nil_append, List.cons_append]
  unfold valR
  cases hr : readF ws 256 x 2048 with
  | none =>
    have HT := hid hr
    clear hr
    gi_wp2_with (refine ⟨trivial, ?_⟩; gi_at_call 38; go_must (refine (callsIn_wide.2 (HC.out _ _)).mono ?_); rw [HT.out]; rintro e w1 ⟨k1, rfl⟩)
    have k1' : Kept (fun b => b = w.heap.size + 1 + 1) (W3 w A n c) w1 := k1
    have hb := val_b k1'
    refine ⟨by simp, .inr ⟨by simp [Fence.wide], _, _, 37, #[.pointer (some ⟨w.heap.size, 0, none⟩), .pointer (some ⟨w.heap.size + 1, 0, none⟩)], rfl, by simp [go_sem], fun _ _ => trivial, (val_catch _ _ _ _ _ _ (val_4 k1') (val_5 k1')).mono ?_⟩⟩
    rintro e u' w'' ⟨rfl, hu, r4, r5, hbb⟩
    show LeavesInM _ _ _ _ _ _ _ (settle u') w''
    rw [hu]
    have y0 : w''.cell? ⟨w.heap.size, 0, none⟩ = some (.bool false) := r4.cell 0
    have y1 : w''.cell? ⟨w.heap.size, 1, none⟩ = some (.int .i64 0) := r4.cell 1
    have y2 : w''.cell? ⟨w.heap.size, 2, none⟩ = some (.slice none 0 0) := r4.cell 2
    have y5 := r5.cell0
    refine ⟨.tuple #[zeroV, .int .i64 270], by simp [results, Try.results27, go_sem, y0, y1, y2, y5, zeroV], hb.trans (hbb _ (Nat.le_refl _) (by omega) hb.size), rfl⟩
  | some r =>
    obtain ⟨t, l1⟩ := r
    have HT := hid hr
    clear hr
    gi_wp2_with (refine ⟨trivial, ?_⟩; gi_at_call 38; go_must (refine (callsIn_wide.2 (HC.out _ _)).mono ?_); rw [HT.out]; rintro e w1 ⟨k1, v, rfl, hv, hrd⟩; go_must (obtain ⟨b9, n9, A9, m9, c9, rfl⟩ := hv.agg; have k1' : Kept (fun b => b = w.heap.size + 1 + 1) (W3 w A n c) w1 := k1; have h4 := val_4 k1'; have h5 := val_5 k1'; have x0 : w1.cell? ⟨w.heap.size, 0, none⟩ = some (.bool false) := h4.cell 0; have x1 : w1.cell? ⟨w.heap.size, 1, none⟩ = some (.int .i64 0) := h4.cell 1; have x2 : w1.cell? ⟨w.heap.size, 2, none⟩ = some (.slice none 0 0) := h4.cell 2; have x5 := h5.cell0; have f0 := h4.frozen 0; have f1 := h4.frozen 1; have f2 := h4.frozen 2; have f5 := h5.frozen 0))
    have hb := val_b k1'
    have hne : w.heap.size ≠ w.heap.size + 1 := by omega
    refine ⟨by simp, .inr ⟨by simp [Fence.wide], _, _, 37, #[.pointer (some ⟨w.heap.size, 0, none⟩), .pointer (some ⟨w.heap.size + 1, 0, none⟩)], rfl, by simp [go_sem], fun _ _ => trivial, (val_idle _ _ _ _).mono ?_⟩⟩
    rintro e u' w'' ⟨rfl, rfl, rfl⟩
    have R4 := ((((h4.set_ 0 (.bool b9)).set_ 1 (.int .i64 n9)).set_ 2 (.slice A9 m9 c9)).far (p := ⟨w.heap.size + 1, 0, none⟩) hne (.int .i64 0))
    have R5 := ((((h5.far (p := ⟨w.heap.size, 0, none⟩) hne.symm (.bool b9)).far (p := ⟨w.heap.size, 1, none⟩) hne.symm (.int .i64 n9)).far (p := ⟨w.heap.size, 2, none⟩) hne.symm (.slice A9 m9 c9)).set0 (.int .i64 0))
    have hbf : Below w.heap.size w ((((w1.setCell ⟨w.heap.size, 0, none⟩ (.bool b9)).setCell ⟨w.heap.size, 1, none⟩ (.int .i64 n9)).setCell ⟨w.heap.size, 2, none⟩ (.slice A9 m9 c9)).setCell ⟨w.heap.size + 1, 0, none⟩ (.int .i64 0)) :=
      below_set (below_set (below_set (below_set hb (Nat.le_refl _) _) (Nat.le_refl _) _) (Nat.le_refl _) _) (by omega) _
    have hsame : ∀ g, w.heap.size + 3 ≤ g → ((((w1.setCell ⟨w.heap.size, 0, none⟩ (.bool b9)).setCell ⟨w.heap.size, 1, none⟩ (.int .i64 n9)).setCell ⟨w.heap.size, 2, none⟩ (.slice A9 m9 c9)).setCell ⟨w.heap.size + 1, 0, none⟩ (.int .i64 0)).heap[g]? = w1.heap[g]? := fun g hg =>
      (Below.heap_setCell _ ⟨w.heap.size + 1, 0, none⟩ _ g (by dsimp only; omega)).trans ((Below.heap_setCell _ ⟨w.heap.size, 2, none⟩ _ g (by dsimp only; omega)).trans ((Below.heap_setCell _ ⟨w.heap.size, 1, none⟩ _ g (by dsimp only; omega)).trans (Below.heap_setCell _ ⟨w.heap.size, 0, none⟩ _ g (by dsimp only; omega))))
    have hv9 : VAtS w1 (fun b => w.heap.size + 3 ≤ b) t (.agg #[.bool b9, .int .i64 n9, .slice A9 m9 c9]) := hv.keep (fun _ _ => rfl) (fun g hg _ => by have := W3_size w A n c; unfold W3 at this; omega)
    revert R4 R5 hbf hsame
    generalize ((((w1.setCell ⟨w.heap.size, 0, none⟩ (.bool b9)).setCell ⟨w.heap.size, 1, none⟩ (.int .i64 n9)).setCell ⟨w.heap.size, 2, none⟩ (.slice A9 m9 c9)).setCell ⟨w.heap.size + 1, 0, none⟩ (.int .i64 0)) = Wf
    intro R4 R5 hbf hsame
    have R4' : Blk Wf w.heap.size 33 #[.bool b9, .int .i64 n9, .slice A9 m9 c9] := R4
    have y0 : Wf.cell? ⟨w.heap.size, 0, none⟩ = some (.bool b9) := R4'.cell 0
    have y1 : Wf.cell? ⟨w.heap.size, 1, none⟩ = some (.int .i64 n9) := R4'.cell 1
    have y2 : Wf.cell? ⟨w.heap.size, 2, none⟩ = some (.slice A9 m9 c9) := R4'.cell 2
    have y5 : Wf.cell? ⟨w.heap.size + 1, 0, none⟩ = some (.int .i64 0) := R5.cell0
    refine ⟨.tuple #[.agg #[.bool b9, .int .i64 n9, .slice A9 m9 c9], .int .i64 0], by simp [results, Try.results27, go_sem, y0, y1, y2, y5], hbf, _, rfl, hv9.keep (fun g hg => hsame g hg) (fun g hg _ => by omega)⟩
end Go.Proofs.Ytgakmfcnddholaa
