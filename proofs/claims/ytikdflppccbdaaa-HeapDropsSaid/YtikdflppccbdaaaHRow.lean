/-
  ROWS OF THE CALL's OWN THAT ARE WRITTEN INTO: one cell, or a copy.
-/
import Derived.Test.YtikdflppccbdaaaHMem
import Derived.Laws.CopyOwn
import Derived.WalkLawsBesides
import Derived.Deep.DeepMust
namespace Go.Proofs.Ytikdflppccbdaaa
open Go.ChangeShapes Go.WideShapes Go.ChangeAt Go.RowKit

/-- Only block g has turned. -/
structure Only (g : Nat) (w w' : World) : Prop where
  os : w'.os = w.os
  tape : w'.tape = w.tape
  output : w'.output = w.output
  size : w'.heap.size = w.heap.size
  block : ∀ j, j ≠ g → w'.heap[j]? = w.heap[j]?
theorem Only.refl (g : Nat) (w : World) : Only g w w := ⟨rfl, rfl, rfl, rfl, fun _ _ => rfl⟩
theorem Only.below {g B : Nat} {w0 w w' : World} (h : Only g w w') (hb : Below B w0 w) (hB : B ≤ g) : Below B w0 w' :=
  hb.trans ⟨h.os, h.tape, h.output, by rw [h.size]; exact Nat.le_refl _, fun k hk => h.block k (by omega)⟩
theorem Only.blk {g j : Nat} {w w' : World} {t : TypeId} {cs : Array Value} (h : Only g w w') (hb : Blk w j t cs) (hj : j ≠ g) : Blk w' j t cs := (h.block j hj).trans hb
theorem Only.setCell (w : World) (g i : Nat) (u : Value) : Only g w (w.setCell ⟨g, i, none⟩ u) := ⟨rfl, rfl, rfl, by simp [World.setCell], fun j hj => Below.heap_setCell w ⟨g, i, none⟩ u j hj⟩

/-- A row of integers in block g, with room for cap. -/
structure Row (w : World) (g n cap : Nat) (xs : List Int) : Prop where
  len : n = xs.length
  le : n ≤ cap
  max : cap ≤ maxLen
  wf : ∀ x ∈ xs, (Lit.int .i64 x).wf = true
  blk : ∃ cur : List Value, w.heap[g]? = some (.cells cur.toArray 3 (0, 0)) ∧ cur.length = cap ∧ cur.take n = xs.map (.int .i64)
section
variable {w w' : World} {g n cap : Nat} {xs : List Int}
theorem Row.lt (h : Row w g n cap xs) : g < w.heap.size := by obtain ⟨cur, hg, _⟩ := h.blk; exact (Array.getElem?_eq_some_iff.1 hg).1
theorem Row.cell (h : Row w g n cap xs) {i : Nat} (hi : i < n) : w.cell? ⟨g, i, none⟩ = some (.int .i64 (gw xs i)) := by
  obtain ⟨cur, hg, hl, ht⟩ := h.blk
  have e : cur[i]? = some (.int .i64 (gw xs i)) := by
    have h3 : (cur.take n)[i]? = some (.int .i64 (gw xs i)) := by rw [ht, List.getElem?_map, gw_get? (by rw [← h.len]; exact hi)]; rfl
    rwa [List.getElem?_take, if_pos hi] at h3
  simp only [World.cell?, hg]
  simpa using e
theorem Row.frozen (h : Row w g n cap xs) (i : Nat) : w.frozen? ⟨g, i, none⟩ = false := by
  obtain ⟨cur, hg, _⟩ := h.blk
  simp [World.frozen?, hg]
theorem Row.ints (h : Row w g n cap xs) {B : Nat} (hB : g < B) : Ints w B (some ⟨g, 0, none⟩) n cap xs := by
  refine ⟨h.len, h.le, h.max, h.wf, fun h => (by cases h), .inr ⟨_, rfl, hB, fun i hi => ?_⟩⟩
  have hp : (⟨g, 0, none⟩ : Addr).add i = ⟨g, i, none⟩ := by unfold Addr.add; split <;> simp_all
  rw [hp]
  exact h.cell hi
theorem Row.set_ (h : Row w g n cap xs) {i : Nat} (_hi : i < n) {k : Int} (hk : (Lit.int .i64 k).wf = true) : Row (w.setCell ⟨g, i, none⟩ (.int .i64 k)) g n cap (xs.set i k) := by
  obtain ⟨cur, hg, hl, ht⟩ := h.blk
  refine ⟨by simp [h.len], h.le, h.max, ?_, cur.set i (.int .i64 k), ?_, by simp [hl], ?_⟩
  · intro x hx
    rcases List.mem_or_eq_of_mem_set hx with h1 | rfl
    · exact h.wf x h1
    · exact hk
  · have := Blk.set_ (w := w) (g := g) (t := 3) (cs := cur.toArray) hg i (.int .i64 k)
    unfold Blk at this
    rw [this]
    simp [List.setIfInBounds_toArray]
  · rw [List.take_set, ht, List.map_set]
theorem Row.only (h : Row w g n cap xs) {j : Nat} (ho : Only j w w') (hj : g ≠ j) : Row w' g n cap xs := by
  obtain ⟨cur, hg, hl, ht⟩ := h.blk
  exact ⟨h.len, h.le, h.max, h.wf, cur, (ho.block g hj).trans hg, hl, ht⟩
theorem Row.far (h : Row w g n cap xs) {p : Addr} (hp : g ≠ p.block) (u : Value) : Row (w.setCell p u) g n cap xs := by
  obtain ⟨cur, hg, hl, ht⟩ := h.blk
  exact ⟨h.len, h.le, h.max, h.wf, cur, (Below.heap_setCell w p u g hp).trans hg, hl, ht⟩
theorem Row.below (h : Row w g n cap xs) {B : Nat} (hb : Below B w w') (hg : g < B) : Row w' g n cap xs := by
  obtain ⟨cur, hg', hl, ht⟩ := h.blk
  exact ⟨h.len, h.le, h.max, h.wf, cur, (hb.block g hg).trans hg', hl, ht⟩
theorem Row.alloc (h : Row w g n cap xs) (o : Obj) : Row (w.alloc o) g n cap xs := by
  obtain ⟨cur, hg', hl, ht⟩ := h.blk
  exact ⟨h.len, h.le, h.max, h.wf, cur, (Below.heap_alloc w o g h.lt).trans hg', hl, ht⟩
theorem Row.drew (h : Row w g n cap xs) : Row w.drew g n cap xs := ⟨h.len, h.le, h.max, h.wf, h.blk⟩
end
theorem row_of_own {w : World} {B n c : Nat} {A : Option Addr} {xs : List Int} (h : OwnI w B (.slice A n c) xs) (hn : 0 < n) : ∃ g, A = some ⟨g, 0, none⟩ ∧ B ≤ g ∧ Row w g n c xs := by
  have hl := h.ints.len
  have hm := h.ints.max
  have hc := h.ints.cap
  obtain ⟨⟨h1, h2⟩, hw⟩ := h
  simp only [List.length_map, Nat.mul_one] at h1 h2
  rcases h2 with ⟨hv, h0⟩ | ⟨g, cap, cur, hv, hB, hg, hc, hm, hs, ht⟩
  · omega
  · injection hv with e1 e2 e3
    subst e1 e3
    refine ⟨g, rfl, hB, hl, by omega, hm, hw, cur.toList, hg, by simpa using hs, ?_⟩
    rw [hl]; exact ht
theorem row_of_zeros {w : World} {g k : Nat} (h : Blk w g 3 (cellsOf (zeros k))) (hk : k ≤ 1000000) : Row w g k k (zeros k) :=
  ⟨by rw [zeros_length], Nat.le_refl _, by unfold maxLen; omega, zeros_wf k, _, h, by simp [zeros_length], by rw [List.take_of_length_le (by simp [zeros_length])]⟩

/-- A row behind a copy. -/
def spl (xs : List Int) (off : Nat) (ys : List Int) : List Int := splice xs off ys
theorem spl_length {xs : List Int} {off : Nat} {ys : List Int} (h : off + ys.length ≤ xs.length) : (spl xs off ys).length = xs.length := length_splice _ _ _ h

theorem world_setRow_only (w : World) (g : Nat) (cs : Array Value) : Only g w (w.setRow g cs) := ⟨rfl, rfl, rfl, by simp [World.setRow], fun j hj => setRow_other w g j cs hj⟩

/-- copy: into a row of the call's own, from whatever row that is read. -/
theorem run_copyI {w : World} {g n cap : Nat} {xs : List Int} (hr : Row w g n cap xs) {A : Option Addr} {m c Bs : Nat} {ys : List Int} (hi : Ints w Bs A m c ys) {off dLen dCap : Nat} {dp : Option Addr} (hdp : 0 < m → dp = some ⟨g, off, none⟩) (hm : m ≤ dLen) (hoff : off + m ≤ n) (ty : TypeId) :
    ∃ w', (Builtin.copy_ #[22, 22] ty #[.slice dp dLen dCap, .slice A m c]).run Try.prog w = .ok (.int .i64 m) w' ∧ Only g w w' ∧ Row w' g n cap (spl xs off ys) := by
  have hsz : (Try.prog.info? 3).map (·.size) = some 1 := by obtain ⟨i, h1, _, h3, _⟩ := info_int.parts; rw [h1]; simp [h3]
  by_cases h0 : m = 0
  · subst h0
    obtain rfl : ys = [] := List.length_eq_zero_iff.1 hi.len.symm
    refine ⟨w, run_copy_none (P := Try.prog) w 22 22 ty 3 dp A dLen dCap 0 c Try.underlying22 hsz (by simp), Only.refl _ _, ?_⟩
    have : spl xs off [] = xs := by simp [spl, splice]
    rw [this]; exact hr
  · obtain rfl := hdp (by omega)
    obtain ⟨ad, rfl⟩ := hi.some_ (i := 0) (by omega)
    obtain ⟨cur, hg, hl, ht⟩ := hr.blk
    have hlen := hi.len
    have hle := hr.le
    have hrun := run_copy_row (P := Try.prog) w 22 22 ty 3 g off dLen dCap ad m c cur.toArray 3 (ys.map (.int .i64)) Try.underlying22 hsz hg (by rw [List.length_map, ← hlen]; exact (Nat.min_eq_left hm).symm) (news_of_ints hi) (by rw [List.length_map, ← hlen, List.size_toArray, hl]; omega) (by simp [Value.oneCell'])
    simp only [goInt, List.length_map] at hrun
    rw [← hlen] at hrun
    refine ⟨_, hrun, world_setRow_only w g _, ⟨?_, hle, hr.max, ?_, splice cur off (ys.map (.int .i64)), ?_, ?_, ?_⟩⟩
    · rw [spl_length (by rw [← hlen, ← hr.len]; exact hoff)]; exact hr.len
    · intro x hx
      unfold spl splice at hx
      rcases List.mem_append.1 hx with h1 | h1
      · exact hr.wf x (List.mem_of_mem_take h1)
      · rcases List.mem_append.1 h1 with h1 | h1
        · exact hi.wf x h1
        · exact hr.wf x (List.mem_of_mem_drop h1)
    · rw [setRow_heap w g _ _ 3 _ hg]; simp [splice, ← hlen]
    · rw [length_splice _ _ _ (by simp [← hlen]; omega)]; exact hl
    · have e2 : (splice cur off (ys.map (.int .i64))).take n = splice (cur.take n) off (ys.map (.int .i64)) := by
        unfold splice
        apply List.ext_getElem?
        intro i
        simp only [List.getElem?_take, List.getElem?_append, List.length_take, List.length_map, List.getElem?_drop, List.getElem?_map]
        rw [← hlen, show min off cur.length = off from by omega, show min off (min n cur.length) = off from by omega]
        repeat' split
        all_goals first | rfl | (exfalso; omega)
      rw [e2, ht]
      simp [spl, splice, List.map_append, List.map_take, List.map_drop]
end Go.Proofs.Ytikdflppccbdaaa
