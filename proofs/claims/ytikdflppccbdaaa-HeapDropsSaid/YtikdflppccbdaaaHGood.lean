/-
  THE WALK OF heap.Good: what the reference says.
-/
import Derived.Test.YtikdflppccbdaaaHObjs
import Derived.Test.YtikdflppccbdaaaHWord
namespace Go.Proofs.Ytikdflppccbdaaa
open Go.ChangeShapes Go.WideShapes Go.ChangeAt Go.RowKit Go.Shelf
attribute [local go_sem] Oper.semAt_some

/-- The first objects' places. -/
def obAts (xs : List Ob) (k : Nat) : List Nat := (xs.take k).map fun o => o.at_.toNat
theorem obAts_zero (xs : List Ob) : obAts xs 0 = [] := rfl
theorem obAts_succ {xs : List Ob} {k : Nat} (h : k < xs.length) : obAts xs (k + 1) = obAts xs k ++ [xs[k].at_.toNat] := by
  unfold obAts
  rw [List.take_add_one, List.getElem?_eq_getElem h, List.map_append]
  rfl

/-- Every object that is told: a good one where all are good, else the last one is of size -1. -/
theorem oseq_some {f : Nat → Int} {top : Nat} : ∀ (g k : Nat), top - k ≤ g → ∀ sts, stl f top k = some sts → sts = (oseq f top k).map (fun o => o.at_.toNat) ∧ ∀ o ∈ oseq f top k, ∃ j : Nat, o = ⟨j, ofT (f j), ofS (f j)⟩ ∧ k ≤ j ∧ j + ofS (f j) < top ∧ OfOk (f j)
  | 0, k, hg, sts, h => by
    have h0 : ¬ k < top := by omega
    rw [stl_end h0] at h
    rw [oseq_end h0]
    injection h with h
    subst h
    exact ⟨rfl, by simp⟩
  | g + 1, k, hg, sts, h => by
    by_cases h0 : k < top
    · by_cases h1 : OfOk (f k) ∧ k + ofS (f k) < top
      · rw [stl_step h0 h1] at h
        obtain ⟨r, hr, rfl⟩ := Option.map_eq_some_iff.1 h
        obtain ⟨e, ho⟩ := oseq_some g (k + ofS (f k) + 1) (by omega) r hr
        rw [oseq_step h0 h1]
        refine ⟨by simp [e], ?_⟩
        intro o hm
        rcases List.mem_cons.1 hm with rfl | hm
        · exact ⟨k, rfl, Nat.le_refl _, h1.2, h1.1⟩
        · obtain ⟨j, h2, h3, h4, h5⟩ := ho o hm
          exact ⟨j, h2, by omega, h4, h5⟩
      · rw [stl_bad h0 h1] at h; cases h
    · rw [stl_end h0] at h
      rw [oseq_end h0]
      injection h with h
      subst h
      exact ⟨rfl, by simp⟩
/-- Where they do not lie one behind the other, the last one that is told is of size -1, and the others' places lie below the top. -/
theorem oseq_none {f : Nat → Int} {top : Nat} : ∀ (g k : Nat), top - k ≤ g → stl f top k = none → ∃ i : Nat, i + 1 = (oseq f top k).length ∧ (∀ h : i < (oseq f top k).length, ((oseq f top k)[i]).size = -1) ∧ ∀ j (h : j < (oseq f top k).length), j < i → ∃ p : Nat, (oseq f top k)[j].at_ = p ∧ p < top ∧ 0 ≤ (oseq f top k)[j].size
  | 0, k, hg, h => by
    have h0 : ¬ k < top := by omega
    rw [stl_end h0] at h; cases h
  | g + 1, k, hg, h => by
    by_cases h0 : k < top
    · by_cases h1 : OfOk (f k) ∧ k + ofS (f k) < top
      · rw [stl_step h0 h1] at h
        have h' : stl f top (k + ofS (f k) + 1) = none := by simpa using h
        obtain ⟨i, hi, h2, h3⟩ := oseq_none g _ (by omega) h'
        rw [oseq_step h0 h1]
        refine ⟨i + 1, by simp [hi], fun hh => by simpa using h2 (by omega), ?_⟩
        intro j hj hlt
        cases j with
        | zero => exact ⟨k, rfl, h0, by simp⟩
        | succ j => simpa using h3 j (by omega) (by omega)
      · rw [oseq_bad h0 h1]
        exact ⟨0, rfl, fun _ => rfl, fun j _ h => by omega⟩
    · rw [stl_end h0] at h; cases h

theorem ownFrom_heap {β : Type} {B j : Nat} (hj : j < B) (f : β → Obj) : OwnFrom B (fun (k : β) W => W.heap[j]? = some (f k)) := fun s W W' row hs hg hr =>
  (hg.block j (Array.getElem?_eq_some_iff.1 hs).1 (fun e => by have := (hr j e.symm).1; omega)).trans hs


/-- What the first loop keeps. -/
def GI (w : World) (A : Option Addr) (n c : Nat) (room bz : Int) (tn : Nat) (xs0 : List Ob) (most : Nat) (k : Nat) (W : World) : Prop :=
  k ≤ most ∧ Below w.heap.size w W ∧ Blk W w.heap.size 24 #[.slice A n c, .int .i64 room, .int .i64 bz, .int .i64 tn] ∧ Blk W (w.heap.size + 1) 4 #[.bool false] ∧ Blk W (w.heap.size + 1 + 1) 4 (cellsB n (obAts xs0 k)) ∧ Blk W (w.heap.size + 1 + 1 + 1) 50 #[.slice (some ⟨w.heap.size + 1 + 1, 0, none⟩) n n]
/-- .. and where it has left. -/
def GX (w : World) (c : Code) (_k : Nat) (W : World) : Prop := c = .ret ∧ Below w.heap.size w W ∧ Blk W (w.heap.size + 1) 4 #[.bool false]
/-- The world where the first loop begins. -/
def GW (w : World) (A : Option Addr) (n c : Nat) (room bz : Int) (tn : Nat) : World :=
  (((((((w.alloc (.cells #[.slice A n c, .int .i64 room, .int .i64 bz, .int .i64 tn] 24)).alloc (.cells #[.bool false] 4)).alloc (.cells (cellsB n []) 4)).alloc (.cells #[.slice (some ⟨w.heap.size + 1 + 1, 0, none⟩) n n] 50)).alloc
    (.cells #[.slice A n c] 22)).alloc (.cells #[.int .i64 bz] 3)).alloc (.cells #[.int .i64 tn] 3))
theorem GW_size (w : World) (A : Option Addr) (n c : Nat) (room bz : Int) (tn : Nat) : (GW w A n c room bz tn).heap.size = w.heap.size + 1 + 1 + 1 + 1 + 1 + 1 + 1 := by simp [GW]
theorem GW_start (w : World) (A : Option Addr) (n c : Nat) (room bz : Int) (tn : Nat) (xs0 : List Ob) (most : Nat) : GI w A n c room bz tn xs0 most 0 (GW w A n c room bz tn) := by
  refine ⟨Nat.zero_le _, by unfold GW; go_grown, ?_, ?_, ?_, ?_⟩
  all_goals
    unfold GW
    try rw [obAts_zero]
    (repeat (first | exact Blk.new' (by simp) _ _ | refine Blk.alloc ?_ _))
theorem GW_words (w : World) (A : Option Addr) (n c : Nat) (room bz : Int) (tn : Nat) : Blk (GW w A n c room bz tn) (w.heap.size + 1 + 1 + 1 + 1) 22 #[.slice A n c] ∧ Blk (GW w A n c room bz tn) (w.heap.size + 1 + 1 + 1 + 1 + 1) 3 #[.int .i64 bz] ∧ Blk (GW w A n c room bz tn) (w.heap.size + 1 + 1 + 1 + 1 + 1 + 1) 3 #[.int .i64 tn] := by
  refine ⟨?_, ?_, ?_⟩
  all_goals
    unfold GW
    (repeat (first | exact Blk.new' (by simp) _ _ | refine Blk.alloc ?_ _))
theorem GI.own {w : World} {A : Option Addr} {n c : Nat} {room bz : Int} {tn : Nat} {xs0 : List Ob} {most B : Nat} (hB : w.heap.size + 1 + 1 + 1 < B) : OwnFrom B (GI w A n c room bz tn xs0 most) := by
  intro s W W' row hs hg hr
  obtain ⟨h0, h1, h2, h3, h4, h5⟩ := hs
  exact ⟨h0, ownFrom_below (β := Unit) (B := B) (Nat.le_refl _) (by omega) () W W' row h1 hg hr, ownFrom_heap (β := Unit) (by omega) (fun _ => _) () W W' row h2 hg hr, ownFrom_heap (β := Unit) (by omega) (fun _ => _) () W W' row h3 hg hr, ownFrom_heap (β := Unit) (by omega) (fun _ => _) () W W' row h4 hg hr, ownFrom_heap (β := Unit) (by omega) (fun _ => _) () W W' row h5 hg hr⟩
theorem GI.set_ {w : World} {A : Option Addr} {n c : Nat} {room bz : Int} {tn : Nat} {xs0 : List Ob} {most z : Nat} (hz : w.heap.size + 1 + 1 + 1 < z) (k : Nat) (W : World) (u : Value) (hs : GI w A n c room bz tn xs0 most k W) : GI w A n c room bz tn xs0 most k (W.setCell ⟨z, 0, none⟩ u) := by
  obtain ⟨h0, h1, h2, h3, h4, h5⟩ := hs
  exact ⟨h0, below_set h1 (by omega) u, h2.far (by dsimp only; omega) u, h3.far (by dsimp only; omega) u, h4.far (by dsimp only; omega) u, h5.far (by dsimp only; omega) u⟩
theorem GI.alloc {w W : World} {A : Option Addr} {n c : Nat} {room bz : Int} {tn : Nat} {xs0 : List Ob} {most k : Nat} (hs : GI w A n c room bz tn xs0 most k W) (o : Obj) : GI w A n c room bz tn xs0 most k (W.alloc o) := by
  obtain ⟨h0, h1, h2, h3, h4, h5⟩ := hs
  exact ⟨h0, h1.alloc h1.size o, h2.alloc o, h3.alloc o, h4.alloc o, h5.alloc o⟩
theorem GX.own {w : World} {c : Code} {B : Nat} (hB : w.heap.size + 1 < B) : OwnFrom B (GX w c) := by
  intro s W W' row hs hg hr
  obtain ⟨h0, h1, h2⟩ := hs
  exact ⟨h0, ownFrom_below (β := Unit) (B := B) (Nat.le_refl _) (by omega) () W W' row h1 hg hr, ownFrom_heap (β := Unit) (by omega) (fun _ => _) () W W' row h2 hg hr⟩
theorem GX.set_ {w : World} {z : Nat} (hz : w.heap.size + 1 < z) (c : Code) (k : Nat) (W : World) (u : Value) (hs : GX w c k W) : GX w c k (W.setCell ⟨z, 0, none⟩ u) := by
  obtain ⟨h0, h1, h2⟩ := hs
  exact ⟨h0, below_set h1 (by omega) u, h2.far (by dsimp only; omega) u⟩
theorem KpZ.put {n₀ b B : Nat} (h1 : n₀ ≤ B) (h2 : b + 1 + 1 < B) (W : World) (l : Nat) (o o' : Obj) (hl : B ≤ l) (h : W.heap[l]? = some o) (_h3 : o.isCells = false) (_h4 : o.isWalk = false) : KpZ n₀ b W (W.putObj l o') :=
  ⟨(Below.refl n₀ W).grown (grownBy_putObj' W l o') (by have := (Array.getElem?_eq_some_iff.1 h).1; omega) (fun k e => by cases e; omega), World.putObj_heap_other (by omega), World.putObj_heap_other (by omega), World.putObj_heap_other (by omega)⟩
theorem KpZ.alloc {n₀ b : Nat} {W : World} (h1 : n₀ ≤ W.heap.size) (h2 : b + 1 + 1 < W.heap.size) (o : Obj) : KpZ n₀ b W (W.alloc o) :=
  ⟨(Below.refl _ W).alloc h1 o, Below.heap_alloc _ _ _ (by omega), Below.heap_alloc _ _ _ (by omega), Below.heap_alloc _ _ _ (by omega)⟩
theorem KpZ.set_ {n₀ b g i : Nat} {W : World} (h1 : n₀ ≤ g) (h2 : g ≠ b) (h3 : g ≠ b + 1) (h4 : g ≠ b + 1 + 1) (u : Value) : KpZ n₀ b W (W.setCell ⟨g, i, none⟩ u) :=
  ⟨below_set (Below.refl _ W) h1 u, Below.heap_setCell W ⟨g, i, none⟩ u b (fun e => h2 e.symm), Below.heap_setCell W ⟨g, i, none⟩ u (b + 1) (fun e => h3 e.symm), Below.heap_setCell W ⟨g, i, none⟩ u (b + 1 + 1) (fun e => h4 e.symm)⟩
end Go.Proofs.Ytikdflppccbdaaa
