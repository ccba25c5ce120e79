/-
  VALUES IN MEMORY; THE WALKS OF cells.want AND cells.may.
-/
import Derived.Test.YtgakmfcnddholaaHMem
import Derived.Test.YtgakmfcnddholaaCInts
import Derived.Deep.LoopGhost
import Derived.WalkLawsBesides
import Derived.Deep.DeepMust
namespace Go.Proofs.Ytgakmfcnddholaa
open Go.ChangeShapes Go.WideShapes Go.ChangeAt Go.RowKit

theorem below_hop {W w w' : World} (h : Below w.heap.size w w') (b : Below W.heap.size W w) : Below W.heap.size W w' := b.trans (h.mono b.size)
mutual
/-- A value that reads as a tree, its rows below block B. -/
def VAt (w : World) (B : Nat) : Tr → Value → Prop
  | .mk b n us, v => (∃ A c, v = .agg #[.bool b, .int .i64 n, .slice A us.length c] ∧ us.length ≤ c ∧ c ≤ maxLen ∧ (A = none → us = [] ∧ c = 0) ∧ RowV w B us A 0) ∧ (Lit.int .i64 n).wf = true
def RowV (w : World) (B : Nat) : List Tr → Option Addr → Nat → Prop
  | [], _, _ => True
  | t :: ts, A, i => (∃ ad v0 v1 v2, A = some ad ∧ ad.block < B ∧ w.cell? (ad.add (i * 3)) = some v0 ∧ w.cell? ⟨(ad.add (i * 3)).block, (ad.add (i * 3)).off + 1, none⟩ = some v1 ∧ w.cell? ⟨(ad.add (i * 3)).block, (ad.add (i * 3)).off + 2, none⟩ = some v2 ∧ VAt w B t (.agg #[v0, v1, v2])) ∧ RowV w B ts A (i + 1)
end
mutual
theorem VAt.keep {w w' : World} {B : Nat} (h : ∀ k, k < B → w'.heap[k]? = w.heap[k]?) : ∀ (t : Tr) (v : Value), VAt w B t v → VAt w' B t v
  | .mk b n us, v, hv => by
    rw [VAt] at hv ⊢
    obtain ⟨⟨A, c, h1, h2, h3, h4, h5⟩, h6⟩ := hv
    exact ⟨⟨A, c, h1, h2, h3, h4, RowV.keep h us A 0 h5⟩, h6⟩
theorem RowV.keep {w w' : World} {B : Nat} (h : ∀ k, k < B → w'.heap[k]? = w.heap[k]?) : ∀ (ts : List Tr) (A : Option Addr) (i : Nat), RowV w B ts A i → RowV w' B ts A i
  | [], _, _, _ => by rw [RowV]; trivial
  | t :: ts, A, i, hv => by
    rw [RowV] at hv ⊢
    obtain ⟨⟨ad, v0, v1, v2, h1, h2, h3, h4, h5, h6⟩, h7⟩ := hv
    have e : ∀ a : Addr, a.block < B → w'.cell? a = w.cell? a := fun a ha => World.cell?_of_block (w := w) (h _ ha)
    have eb : (ad.add (i * 3)).block = ad.block := (by unfold Addr.add; split <;> rfl)
    exact ⟨⟨ad, v0, v1, v2, h1, h2, (e _ (by rw [eb]; exact h2)).trans h3, (e _ (by dsimp only; rw [eb]; exact h2)).trans h4, (e _ (by dsimp only; rw [eb]; exact h2)).trans h5, VAt.keep h t _ h6⟩, RowV.keep h ts A (i + 1) h7⟩
end
/-- A value's parts. -/
theorem VAt.parts {w : World} {B : Nat} {b : Bool} {n : Int} {us : List Tr} {v : Value} (h : VAt w B (.mk b n us) v) :
    ∃ A c, v = .agg #[.bool b, .int .i64 n, .slice A us.length c] ∧ us.length ≤ c ∧ c ≤ maxLen ∧ (A = none → us = [] ∧ c = 0) ∧ RowV w B us A 0 ∧ (Lit.int .i64 n).wf = true := by
  rw [VAt] at h
  obtain ⟨⟨A, c, h1, h2, h3, h4, h5⟩, h6⟩ := h
  exact ⟨A, c, h1, h2, h3, h4, h5, h6⟩
theorem VAt.agg {w : World} {B : Nat} {t : Tr} {v0 v1 v2 : Value} (h : VAt w B t (.agg #[v0, v1, v2])) : ∃ b n A m c, v0 = .bool b ∧ v1 = .int .i64 n ∧ v2 = .slice A m c := by
  obtain ⟨b, n, us⟩ := t
  obtain ⟨A, c, h1, _⟩ := h.parts
  simp only [Value.agg.injEq, Array.mk.injEq, List.cons.injEq, and_true] at h1
  exact ⟨b, n, A, _, c, h1.1, h1.2.1, h1.2.2⟩
theorem RowV.get {w : World} {B : Nat} : ∀ {ts : List Tr} {A : Option Addr} {i k : Nat} (_ : RowV w B ts A i) (hk : k < ts.length),
    ∃ ad v0 v1 v2, A = some ad ∧ ad.block < B ∧ w.cell? (ad.add ((i + k) * 3)) = some v0 ∧ w.cell? ⟨(ad.add ((i + k) * 3)).block, (ad.add ((i + k) * 3)).off + 1, none⟩ = some v1 ∧ w.cell? ⟨(ad.add ((i + k) * 3)).block, (ad.add ((i + k) * 3)).off + 2, none⟩ = some v2 ∧ VAt w B ts[k] (.agg #[v0, v1, v2])
  | [], _, _, _, _, hk => by simp at hk
  | t :: ts, A, i, 0, h, _ => by rw [RowV] at h; exact h.1
  | t :: ts, A, i, k + 1, h, hk => by
    rw [RowV] at h
    have := RowV.get (i := i + 1) (k := k) h.2 (by simpa using hk)
    rw [show i + 1 + k = i + (k + 1) from by omega] at this
    simpa using this

/-- A fault, as it flies. -/
def flt (k : Int) : PanicEntry := { v := .iface 57 (.agg #[.int .i64 k]), recovered := false }
def wantE (b : Bool) (k : Int) : Ending := if b then .returned (.tuple #[]) else .panicked [flt k]

theorem cells_want (b : Bool) (k : Int) (w : World) : Calls Try.prog 40 #[.bool b, .int .i64 k] w fun e w' => e = wantE b k ∧ w = w' := by
  have hnot : ∀ (x : Bool) (w : World), (Op.unary .not (.bool x)).run Try.prog w = .ok (.bool (!x)) w := fun _ _ => rfl
  cases b with
  | true =>
    go_enter Try.func40, Try.ntmps40
    go_wp2
    go_end0
    exact ⟨rfl, rfl⟩
  | false =>
    go_enter Try.func40, Try.ntmps40
    go_wp2
    exact ⟨rfl, rfl, rfl⟩

theorem wantE_ok (k : Int) : wantE true k = .returned (.tuple #[]) := rfl
theorem wantE_no (k : Int) : wantE false k = .panicked [flt k] := rfl

set_option maxRecDepth 100000 in
theorem may_deep (b : Bool) (n : Int) (A : Option Addr) (m c d : Nat) (w : World) (hq : ¬ (d : Int) ≤ 256) :
    Calls Try.prog 31 #[.agg #[.bool b, .int .i64 n, .slice A m c], .int .i64 d] w fun e w' => e = .panicked [flt 270] ∧ Below w.heap.size w w' := by
  go_enter Try.func31, Try.ntmps31
  go_wp2_with (go_at_call 40; go_must (refine (cells_want _ _ _).mono ?_); (first | simp only [wantE_ok] | simp only [wantE_no]); rintro e w' ⟨rfl, rfl⟩)
  exact ⟨rfl, rfl, (Below.refl _ _).alloc (Nat.le_refl _) _⟩
set_option maxRecDepth 100000 in
theorem may_int0 (n : Int) (A : Option Addr) (m c d : Nat) (w : World) (hq : (d : Int) ≤ 256) (hin : in31 n = false) :
    Calls Try.prog 31 #[.agg #[.bool true, .int .i64 n, .slice A m c], .int .i64 d] w fun e w' => e = .panicked [flt 270] ∧ Below w.heap.size w w' := by
  go_enter Try.func31, Try.ntmps31
  go_wp2_with (first | (go_at_call 40; go_must (refine (cells_want _ _ _).mono ?_); (first | simp only [wantE_ok] | simp only [wantE_no]); rintro e w' ⟨rfl, rfl⟩) | (go_at_call 41; go_must (refine (ints_In _ _).mono ?_); rw [hin]; rintro e w' ⟨rfl, rfl⟩))
  exact ⟨rfl, rfl, (Below.refl _ _).alloc (Nat.le_refl _) _⟩
set_option maxRecDepth 100000 in
theorem may_int1 (n : Int) (A : Option Addr) (c d : Nat) (w : World) (hq : (d : Int) ≤ 256) (hin : in31 n = true) :
    Calls Try.prog 31 #[.agg #[.bool true, .int .i64 n, .slice A 0 c], .int .i64 d] w fun e w' => e = .returned (.tuple #[]) ∧ Below w.heap.size w w' := by
  go_enter Try.func31, Try.ntmps31
  go_wp2_with (first | (go_at_call 40; go_must (refine (cells_want _ _ _).mono ?_); (first | simp only [wantE_ok] | simp only [wantE_no]); rintro e w' ⟨rfl, rfl⟩) | (go_at_call 41; go_must (refine (ints_In _ _).mono ?_); rw [hin]; rintro e w' ⟨rfl, rfl⟩))
  first | go_end0 | refine bodyPost_ret (results_none rfl _ _ _) rfl ?_
  exact ⟨rfl, (Below.refl _ _).alloc (Nat.le_refl _) _⟩
set_option maxRecDepth 100000 in
theorem may_int2 (n : Int) (A : Option Addr) (m c d : Nat) (w : World) (hq : (d : Int) ≤ 256) (hin : in31 n = true) (hm : (((m : Nat) : Int) == 0) = false) :
    Calls Try.prog 31 #[.agg #[.bool true, .int .i64 n, .slice A m c], .int .i64 d] w fun e w' => e = .panicked [flt 270] ∧ Below w.heap.size w w' := by
  go_enter Try.func31, Try.ntmps31
  go_wp2_with (first | (go_at_call 40; go_must (refine (cells_want _ _ _).mono ?_); (first | simp only [wantE_ok] | simp only [wantE_no]); rintro e w' ⟨rfl, rfl⟩) | (go_at_call 41; go_must (refine (ints_In _ _).mono ?_); rw [hin]; rintro e w' ⟨rfl, rfl⟩))
  exact ⟨rfl, rfl, (Below.refl _ _).alloc (Nat.le_refl _) _⟩
set_option maxRecDepth 100000 in
theorem may_bad (n : Int) (A : Option Addr) (m c d : Nat) (w : World) (hq : (d : Int) ≤ 256) (h : ¬ 0 ≤ n ∨ 0 ≤ n ∧ ¬ n < 32 ∨ 0 ≤ n ∧ n < 32 ∧ ¬ ((m : Nat) : Int) ≤ 8) :
    Calls Try.prog 31 #[.agg #[.bool false, .int .i64 n, .slice A m c], .int .i64 d] w fun e w' => e = .panicked [flt 270] ∧ Below w.heap.size w w' := by
  rcases h with h | ⟨h, h1⟩ | ⟨h, h1, h2⟩
  case inr.inr =>
    have H2 := hid (decide_eq_false h2)
    clear h2
    go_enter Try.func31, Try.ntmps31
    go_wp2_with (go_at_call 40; go_must (refine (cells_want _ _ _).mono ?_); (try rw [H2.out]); (first | simp only [wantE_ok] | simp only [wantE_no]); rintro e w' ⟨rfl, rfl⟩)
    exact ⟨rfl, rfl, (Below.refl _ _).alloc (Nat.le_refl _) _⟩
  all_goals
    go_enter Try.func31, Try.ntmps31
    go_wp2_with (go_at_call 40; go_must (refine (cells_want _ _ _).mono ?_); (first | simp only [wantE_ok] | simp only [wantE_no]); rintro e w' ⟨rfl, rfl⟩)
    exact ⟨rfl, rfl, (Below.refl _ _).alloc (Nat.le_refl _) _⟩
set_option maxRecDepth 100000 in
theorem may_node (n : Int) (A : Option Addr) (us : List Tr) (c B d : Nat) (w : World) (hq : (d : Int) ≤ 256) (h0 : 0 ≤ n) (h32 : n < 32) (h8 : ((us.length : Nat) : Int) ≤ 8) (hB : B ≤ w.heap.size) (hrow : RowV w B us A 0)
    (ih : ∀ t ∈ us, ∀ (B d : Nat) (x : Int) (v : Value) (w : World), x = d → B ≤ w.heap.size → VAt w B t v → d ≤ 257 →
      Calls Try.prog 31 #[v, .int .i64 x] w fun e w' => e = wantE (mayB t d) 270 ∧ Below w.heap.size w w') :
    Calls Try.prog 31 #[.agg #[.bool false, .int .i64 n, .slice A us.length c], .int .i64 d] w fun e w' => e = wantE (mayL us (d + 1)) 270 ∧ Below w.heap.size w w' := by
  have hd1 : wrap64 ((d : Int) + 1) = ((d + 1 : Nat) : Int) := by rw [wrap_small (by omega)]; omega
  go_enter Try.func31, Try.ntmps31
  go_wp2_with (go_at_call 40; go_must (refine (cells_want _ _ _).mono ?_); (first | simp only [wantE_ok] | simp only [wantE_no]); rintro e w' ⟨rfl, rfl⟩)
  have HR := hid (And.intro hrow (And.intro h8 hd1))
  have HI := hid ih
  have HB := hid hB
  clear hrow ih hB h8
  go_loopg [39] us.length (fun g x wr => ∃ k : Nat, k + g = us.length ∧ x = .int .i64 k ∧ Hid (Below w.heap.size w wr) ∧ Hid (mayL (us.drop k) (d + 1) = mayL us (d + 1)))
  case atStart => exact ⟨0, by omega, rfl, hid ((Below.refl _ _).alloc (Nat.le_refl _) _), hid rfl⟩
  case round =>
    obtain ⟨k, hk, rfl, hb, hm⟩ := hrel
    have Hk := hid hk
    by_cases hlt : k < us.length
    · obtain ⟨ad, v0, v1, v2, rfl, q0, q1, q2, q3, q4⟩ := HR.out.1.get hlt
      have hlt' : (k : Int) < us.length := by omega
      have e := fun (a : Addr) (ha : a.block < B) => (hb.out.mono (show B ≤ w.heap.size from HB.out)).cell (p := a) ha
      rw [Nat.zero_add] at q1 q2 q3
      have eb : (ad.add (k * 3)).block = ad.block := (by unfold Addr.add; split <;> rfl)
      have y1 := (e _ (by rw [eb]; exact q0)).trans q1
      have y2 := (e _ (by dsimp only; rw [eb]; exact q0)).trans q2
      have y3 := (e _ (by dsimp only; rw [eb]; exact q0)).trans q3
      obtain ⟨b', n', A', m', c', rfl, rfl, rfl⟩ := q4.agg
      have Q4 := hid (q4.keep (fun j hj => hb.out.block j (Nat.lt_of_lt_of_le hj HB.out)))
      have Hm : Hid (us[k] ∈ us ∧ mayL (us.drop k) (d + 1) = (mayB us[k] (d + 1) && mayL (us.drop (k + 1)) (d + 1))) := hid ⟨List.getElem_mem hlt, by rw [List.drop_eq_getElem_cons hlt, mayL]⟩
      clear hk e q1 q2 q3 q4 eb q0
      generalize us[k] = t at Q4 Hm
      cases hmt : mayB t (d + 1) with
      | true =>
        have HT := hid hmt
        clear hmt
        go_wp2_with (go_at_call 31; go_must (refine (HI.out t Hm.out.1 B (d + 1) _ _ _ (by omega) (by have := hb.out.size; have := HB.out; simp; omega) (Q4.out.keep (fun j hj => Below.heap_alloc _ _ _ (by have := hb.out.size; have := HB.out; omega))) (by omega)).mono ?_); rw [HT.out, wantE_ok]; rintro e w1 ⟨rfl, b1⟩)
        have hgk := Hk.out
        go_roundg (gk - 1)
        case rel => exact ⟨k + 1, by omega, int_succ hlt (by have := HR.out.2.1; omega), hid (hb.out.trans (below_hop b1 ((Below.refl _ _).alloc (Nat.le_refl _) _) |>.mono hb.out.size)), hid (by have h1 := hm.out; rw [Hm.out.2, HT.out, Bool.true_and] at h1; exact h1)⟩
        case measure => omega
      | false =>
        have HT := hid hmt
        clear hmt
        go_wp2_with (go_at_call 31; go_must (refine (HI.out t Hm.out.1 B (d + 1) _ _ _ (by omega) (by have := hb.out.size; have := HB.out; simp; omega) (Q4.out.keep (fun j hj => Below.heap_alloc _ _ _ (by have := hb.out.size; have := HB.out; omega))) (by omega)).mono ?_); rw [HT.out, wantE_no]; rintro e w1 ⟨rfl, b1⟩)
        refine ⟨rfl, ?_, hb.out.trans (below_hop b1 ((Below.refl _ _).alloc (Nat.le_refl _) _) |>.mono hb.out.size)⟩
        have h1 := hm.out
        rw [Hm.out.2, HT.out, Bool.false_and] at h1
        rw [← h1, wantE_no]
    · clear hk
      go_wp2
      first | go_end0 | refine bodyPost_ret (results_none rfl _ _ _) rfl ?_
      refine ⟨?_, hb.out⟩
      have : us.drop k = [] := List.drop_eq_nil_of_le (by omega)
      have hm := hm.out
      rw [this, mayL] at hm
      rw [← hm]; rfl
theorem cells_may : ∀ (N : Nat) (t : Tr), SizeOf.sizeOf t ≤ N → ∀ (B d : Nat) (x : Int) (v : Value) (w : World), x = d → B ≤ w.heap.size → VAt w B t v → d ≤ 257 →
    Calls Try.prog 31 #[v, .int .i64 x] w fun e w' => e = wantE (mayB t d) 270 ∧ Below w.heap.size w w' := by
  intro N
  induction N with
  | zero => intro t ht; cases t; simp at ht
  | succ N ih =>
  intro t ht B d x v w hx hB hv hd
  subst hx
  obtain ⟨b, n, us⟩ := t
  obtain ⟨A, c, rfl, hc, hcm, hnil, hrow, hwf⟩ := hv.parts
  by_cases hd6 : d ≤ 256
  · have hq : (d : Int) ≤ 256 := by omega
    cases b with
    | true =>
      rw [mayB_int]
      cases hin : in31 n with
      | false =>
        rw [show (decide (d ≤ 256) && (false && us.isEmpty)) = false from by simp]
        exact may_int0 n A us.length c d w hq hin
      | true =>
        cases us with
        | nil =>
          rw [show (decide (d ≤ 256) && (true && ([] : List Tr).isEmpty)) = true from by simp [hd6]]
          exact may_int1 n A c d w hq hin
        | cons u us =>
          rw [show (decide (d ≤ 256) && (true && (u :: us).isEmpty)) = false from by simp]
          exact may_int2 n A (u :: us).length c d w hq hin (by simp; omega)
    | false =>
      rw [mayB_node]
      by_cases h : 0 ≤ n ∧ n < 32 ∧ us.length ≤ 8
      · rw [show (decide (d ≤ 256) && (decide (0 ≤ n ∧ n < 32 ∧ us.length ≤ 8) && mayL us (d + 1))) = mayL us (d + 1) from by simp [hd6, h]]
        exact may_node n A us c B d w hq h.1 h.2.1 (by omega) hB hrow (fun t hm B d x v w hx hB hv hd => ih t (by have := tr_lt (b := false) (n := n) hm; omega) B d x v w hx hB hv hd)
      · rw [show (decide (d ≤ 256) && (decide (0 ≤ n ∧ n < 32 ∧ us.length ≤ 8) && mayL us (d + 1))) = false from by simp [h]]
        exact may_bad n A us.length c d w hq (by omega)
  · rw [show mayB (.mk b n us) d = false from by rw [mayB]; simp [hd6]]
    exact may_deep b n A us.length c d w (by omega)
end Go.Proofs.Ytgakmfcnddholaa
