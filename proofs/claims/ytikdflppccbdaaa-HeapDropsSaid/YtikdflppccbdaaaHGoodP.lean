/-
  PLAIN: what the objects' words are, said place by place and object by object. And what the second loop of heap.Good keeps.
-/
import Derived.Test.YtikdflppccbdaaaHGood
namespace Go.Proofs.Ytikdflppccbdaaa
open Go.ChangeShapes Go.WideShapes Go.ChangeAt Go.RowKit Go.Shelf

theorem stl_spec {f : Nat → Int} {top : Nat} : ∀ (g k : Nat), top - k ≤ g → ∀ s, stl f top k = some s →
    (∀ o ∈ s, k ≤ o ∧ o + ofS (f o) < top) ∧ (∀ i, k ≤ i → i < top → i ∈ s ∨ ∃ o ∈ s, o < i ∧ i ≤ o + ofS (f o)) ∧ (∀ o ∈ s, ∀ i, o < i → i ≤ o + ofS (f o) → i ∉ s)
  | 0, k, hg, s, h => by
    have h0 : ¬ k < top := by omega
    rw [stl_end h0] at h
    injection h with h
    subst h
    exact ⟨by simp, fun i h1 h2 => by omega, by simp⟩
  | g + 1, k, hg, s, h => by
    by_cases h0 : k < top
    · by_cases h1 : OfOk (f k) ∧ k + ofS (f k) < top
      · rw [stl_step h0 h1] at h
        obtain ⟨r, hr, rfl⟩ := Option.map_eq_some_iff.1 h
        obtain ⟨a, b, c⟩ := stl_spec g (k + ofS (f k) + 1) (by omega) r hr
        refine ⟨?_, ?_, ?_⟩
        · intro o ho
          rcases List.mem_cons.1 ho with rfl | ho
          · exact ⟨Nat.le_refl _, h1.2⟩
          · have := a o ho; exact ⟨by omega, this.2⟩
        · intro i h2 h3
          by_cases h4 : i = k
          · subst h4; exact .inl (by simp)
          · by_cases h5 : i ≤ k + ofS (f k)
            · exact .inr ⟨k, by simp, by omega, h5⟩
            · rcases b i (by omega) h3 with h6 | ⟨o, h6, h7, h8⟩
              · exact .inl (by simp [h6])
              · exact .inr ⟨o, by simp [h6], h7, h8⟩
        · intro o ho i h2 h3 hi
          rcases List.mem_cons.1 ho with rfl | ho
          · rcases List.mem_cons.1 hi with rfl | hi
            · omega
            · have := (a i hi).1; omega
          · rcases List.mem_cons.1 hi with h4 | hi
            · have := (a o ho).1; omega
            · exact c o ho i h2 h3 hi
      · rw [stl_bad h0 h1] at h; cases h
    · rw [stl_end h0] at h
      injection h with h
      subst h
      exact ⟨by simp, fun i h1 h2 => by omega, by simp⟩

theorem body_iff {f : Nat → Int} {top bn n : Nat} {sts : List Nat} (h : stl f top bn = some sts) : BodyOk n sts f bn top ↔ ∀ o ∈ sts, ∀ i, o < i → i ≤ o + ofS (f o) → wordB n sts (f i) = true := by
  obtain ⟨a, b, c⟩ := stl_spec _ bn (Nat.le_refl _) sts h
  constructor
  · intro hb o ho i h1 h2
    have h3 := a o ho
    rcases hb i (by omega) (by omega) with h4 | h4
    · exact absurd (by simpa using h4) (c o ho i h1 h2)
    · exact h4
  · intro hb i h1 h2
    rcases b i h1 h2 with h3 | ⟨o, ho, h3, h4⟩
    · exact .inl (by simpa using h3)
    · exact .inr (hb o ho i h3 h4)

/-- The first objects' words may be. -/
def Done2 (f : Nat → Int) (n : Nat) (sts : List Nat) (k : Nat) : Prop := ∀ o ∈ sts.take k, ∀ i, o < i → i ≤ o + ofS (f o) → wordB n sts (f i) = true
theorem Done2.zero (f : Nat → Int) (n : Nat) (sts : List Nat) : Done2 f n sts 0 := by intro o ho; simp at ho
theorem Done2.succ {f : Nat → Int} {n : Nat} {sts : List Nat} {k p : Nat} (h : Done2 f n sts k) (hk : sts[k]? = some p) (hp : ∀ j, j < ofS (f p) → wordB n sts (f (p + 1 + j)) = true) : Done2 f n sts (k + 1) := by
  intro o ho i h1 h2
  rw [List.take_add_one, hk] at ho
  rcases List.mem_append.1 ho with ho | ho
  · exact h o ho i h1 h2
  · obtain rfl : o = p := by simpa using ho
    have := hp (i - (o + 1)) (by omega)
    rwa [show o + 1 + (i - (o + 1)) = i from by omega] at this
theorem Done2.all {f : Nat → Int} {n top bn : Nat} {sts : List Nat} (hs : stl f top bn = some sts) (h : Done2 f n sts sts.length) : BodyOk n sts f bn top := by
  rw [body_iff hs]
  intro o ho
  exact h o (by rw [List.take_of_length_le (Nat.le_refl _)]; exact ho)
theorem not_body {f : Nat → Int} {n top bn : Nat} {sts : List Nat} (hs : stl f top bn = some sts) {k p j : Nat} (hk : sts[k]? = some p) (hj : j < ofS (f p)) (hw : wordB n sts (f (p + 1 + j)) = false) : ¬ BodyOk n sts f bn top := by
  rw [body_iff hs]
  intro h
  have := h p (List.mem_of_getElem? hk) (p + 1 + j) (by omega) (by omega)
  rw [hw] at this; cases this

/-- What the second loop keeps. -/
def GI2 (w : World) (A : Option Addr) (n c : Nat) (room bz : Int) (tn : Nat) (f : Nat → Int) (sts : List Nat) (D bw : Nat) (k : Nat) (W : World) : Prop :=
  Done2 f n sts k ∧ Below w.heap.size w W ∧ Blk W w.heap.size 24 #[.slice A n c, .int .i64 room, .int .i64 bz, .int .i64 tn] ∧ Blk W (w.heap.size + 1) 4 #[.bool false] ∧ Blk W (w.heap.size + 1 + 1) 4 (cellsB n sts) ∧ Blk W (w.heap.size + 1 + 1 + 1) 50 #[.slice (some ⟨w.heap.size + 1 + 1, 0, none⟩) n n] ∧
  Blk W bw 57 #[.func (.func 29) #[] #[.pointer (some ⟨w.heap.size + 1 + 1 + 1, 0, none⟩)]] ∧ W.heap[D]? = some (.deferred (some []))
/-- .. and where it has left. -/
def GX2 (w : World) (D : Nat) (no : Prop) (c : Code) (_k : Nat) (W : World) : Prop := c = .ret ∧ no ∧ Below w.heap.size w W ∧ Blk W (w.heap.size + 1) 4 #[.bool false] ∧ W.heap[D]? = some (.deferred (some []))
section
variable {w : World} {A : Option Addr} {n c : Nat} {room bz : Int} {tn : Nat} {f : Nat → Int} {sts : List Nat} {D bw : Nat}
theorem GI2.own {B : Nat} (hB : w.heap.size + 1 + 1 + 1 < B) (hD : D < B) (hb : bw < B) : OwnFrom B (GI2 w A n c room bz tn f sts D bw) := by
  intro s W W' row hs hg hr
  obtain ⟨h0, h1, h2, h3, h4, h5, h6, h7⟩ := hs
  exact ⟨h0, ownFrom_below (β := Unit) (B := B) (Nat.le_refl _) (by omega) () W W' row h1 hg hr, ownFrom_heap (β := Unit) (by omega) (fun _ => _) () W W' row h2 hg hr, ownFrom_heap (β := Unit) (by omega) (fun _ => _) () W W' row h3 hg hr, ownFrom_heap (β := Unit) (by omega) (fun _ => _) () W W' row h4 hg hr, ownFrom_heap (β := Unit) (by omega) (fun _ => _) () W W' row h5 hg hr,
    ownFrom_heap (β := Unit) (by omega) (fun _ => _) () W W' row h6 hg hr, ownFrom_heap (β := Unit) (by omega) (fun _ => _) () W W' row h7 hg hr⟩
theorem GI2.set_ {z : Nat} (hz : w.heap.size + 1 + 1 + 1 < z) (hD : D ≠ z) (hb : bw ≠ z) (k : Nat) (W : World) (u : Value) (hs : GI2 w A n c room bz tn f sts D bw k W) : GI2 w A n c room bz tn f sts D bw k (W.setCell ⟨z, 0, none⟩ u) := by
  obtain ⟨h0, h1, h2, h3, h4, h5, h6, h7⟩ := hs
  exact ⟨h0, below_set h1 (by omega) u, h2.far (by dsimp only; omega) u, h3.far (by dsimp only; omega) u, h4.far (by dsimp only; omega) u, h5.far (by dsimp only; omega) u, h6.far (by dsimp only; omega) u, (heap_set_ne hD u).trans h7⟩
theorem GI2.alloc {W : World} {k : Nat} (hs : GI2 w A n c room bz tn f sts D bw k W) (o : Obj) : GI2 w A n c room bz tn f sts D bw k (W.alloc o) := by
  obtain ⟨h0, h1, h2, h3, h4, h5, h6, h7⟩ := hs
  exact ⟨h0, h1.alloc h1.size o, h2.alloc o, h3.alloc o, h4.alloc o, h5.alloc o, h6.alloc o, (Below.heap_alloc W o D (Array.getElem?_eq_some_iff.1 h7).1).trans h7⟩
theorem GX2.own {no : Prop} {cc : Code} {B : Nat} (hB : w.heap.size + 1 < B) (hD : D < B) : OwnFrom B (GX2 w D no cc) := by
  intro s W W' row hs hg hr
  obtain ⟨h0, hn, h1, h2, h3⟩ := hs
  exact ⟨h0, hn, ownFrom_below (β := Unit) (B := B) (Nat.le_refl _) (by omega) () W W' row h1 hg hr, ownFrom_heap (β := Unit) (by omega) (fun _ => _) () W W' row h2 hg hr, ownFrom_heap (β := Unit) (by omega) (fun _ => _) () W W' row h3 hg hr⟩
theorem GX2.set_ {no : Prop} {z : Nat} (hz : w.heap.size + 1 < z) (hD : D ≠ z) (cc : Code) (k : Nat) (W : World) (u : Value) (hs : GX2 w D no cc k W) : GX2 w D no cc k (W.setCell ⟨z, 0, none⟩ u) := by
  obtain ⟨h0, hn, h1, h2, h3⟩ := hs
  exact ⟨h0, hn, below_set h1 (by omega) u, h2.far (by dsimp only; omega) u, (heap_set_ne hD u).trans h3⟩
end

/-- The world where the second loop begins. -/
def GW2 (w W : World) (A : Option Addr) (n c : Nat) (bz : Int) (tn : Nat) : World :=
  (((W.alloc (.cells #[.func (.func 29) #[] #[.pointer (some ⟨w.heap.size + 1 + 1 + 1, 0, none⟩)]] 57)).alloc (.cells #[.slice A n c] 22)).alloc (.cells #[.int .i64 bz] 3)).alloc (.cells #[.int .i64 tn] 3)
theorem GW2_facts {w W : World} {A : Option Addr} {n c : Nat} {room bz : Int} {tn : Nat} {xs0 : List Ob} {most k : Nat} {f : Nat → Int} {sts : List Nat} {D : Nat} (hs : GI w A n c room bz tn xs0 most k W) (he : obAts xs0 k = sts) (hD : W.heap[D]? = some (.deferred (some []))) :
    (GW2 w W A n c bz tn).heap.size = W.heap.size + 1 + 1 + 1 + 1 ∧ GI2 w A n c room bz tn f sts D W.heap.size 0 (GW2 w W A n c bz tn) ∧ Blk (GW2 w W A n c bz tn) (W.heap.size + 1) 22 #[.slice A n c] ∧ Blk (GW2 w W A n c bz tn) (W.heap.size + 1 + 1) 3 #[.int .i64 bz] ∧ Blk (GW2 w W A n c bz tn) (W.heap.size + 1 + 1 + 1) 3 #[.int .i64 tn] := by
  obtain ⟨_, h1, h2, h3, h4, h5⟩ := hs
  rw [he] at h4
  have hlt := (Array.getElem?_eq_some_iff.1 hD).1
  have hz := h1.size
  refine ⟨by simp [GW2], ⟨Done2.zero _ _ _, ?_, ?_, ?_, ?_, ?_, ?_, ?_⟩, ?_, ?_, ?_⟩
  · unfold GW2; exact (((h1.alloc h1.size _).alloc (by simp; omega) _).alloc (by simp; omega) _).alloc (by simp; omega) _
  · exact (((h2.alloc _).alloc _).alloc _).alloc _
  · exact (((h3.alloc _).alloc _).alloc _).alloc _
  · exact (((h4.alloc _).alloc _).alloc _).alloc _
  · exact (((h5.alloc _).alloc _).alloc _).alloc _
  · exact (((Blk.new _ _ _).alloc _).alloc _).alloc _
  · unfold GW2
    rw [Below.heap_alloc _ _ _ (by simp; omega), Below.heap_alloc _ _ _ (by simp; omega), Below.heap_alloc _ _ _ (by simp; omega), Below.heap_alloc _ _ _ hlt]
    exact hD
  · unfold GW2; (repeat (first | exact Blk.new' (by simp) _ _ | refine Blk.alloc ?_ _))
  · unfold GW2; (repeat (first | exact Blk.new' (by simp) _ _ | refine Blk.alloc ?_ _))
  · unfold GW2; (repeat (first | exact Blk.new' (by simp) _ _ | refine Blk.alloc ?_ _))
end Go.Proofs.Ytikdflppccbdaaa
