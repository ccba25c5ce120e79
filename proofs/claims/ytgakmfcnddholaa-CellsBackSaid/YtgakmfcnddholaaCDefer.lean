/-
  THE WALK OF THE FUNCTION THAT cells.Words DEFERS: it recovers a fault, or does nothing.
-/
import Derived.Test.YtgakmfcnddholaaCMay
import Derived.Tactics
import Derived.Tactics2
import Derived.Defers
import Derived.Recover
import Derived.Laws.Pointers
import Derived.TacticsInMore
import Derived.RegionIn
import Derived.LoopNIn
import Derived.RecoverIn
import Derived.ControlIn
import Derived.Deep.RegionHeld3
namespace Go.Proofs.Ytgakmfcnddholaa
open Go.ChangeShapes Go.WideShapes Go.ChangeAt Go.RowKit

theorem assert_fault (k : Int) (w : World) : (Instr.typeAssert (.iface 57 (.agg #[.int .i64 k])) 20 57 true).run Try.prog w = .ok (.tuple #[.agg #[.int .i64 k], .bool true]) w := by kernel_rfl
/-- Nothing to recover. -/
theorem words_idle (p4 p5 p6 : Addr) (n : Nat) (w : World) :
    CallsDIn Fence.wide n Try.prog 30 #[.pointer (some p4), .pointer (some p5), .pointer (some p6)] .returning w fun e u' w' => e = .returned (.tuple #[]) ∧ u' = .returning ∧ w' = w := by
  refine callsDIn_of_wpSIn Try.func30 rfl trivial fun c₀ cs hu => ?_
  simp only [Try.ntmps30, List.size_toArray, List.length_cons, List.length_nil, Nat.reduceAdd, Nat.reduceSub, Array.replicate_succ, Array.replicate_zero, List.push_toArray, List.append_toArray, List.nil_append, List.cons_append]
  apply wpSIn_seq
  apply wpSIn_region
  simp [wpOpsSIn, go_sem, recoverD, hu, Exit.thenS]
  refine wpSIn_of_wpIn rfl ?_
  gi_wp2
  cases c₀
  simp_all [bodyPostS, results, Try.results30]

/-- A fault is recovered: no words, none, and its number. -/
theorem words_catch (g4 g5 g6 : Nat) (s4 : Value) (x5 x6 k : Int) (n : Nat) (w : World) (h4 : Blk w g4 36 #[s4]) (h5 : Blk w g5 3 #[.int .i64 x5]) (h6 : Blk w g6 22 #[.int .i64 x6]) :
    CallsDIn Fence.wide n Try.prog 30 #[.pointer (some ⟨g4, 0, none⟩), .pointer (some ⟨g5, 0, none⟩), .pointer (some ⟨g6, 0, none⟩)] (.panicking [flt k]) w fun e u' w' =>
      e = .returned (.tuple #[]) ∧ settle u' = .returning ∧ Blk w' g4 36 #[.slice none 0 0] ∧ Blk w' g5 3 #[.int .i64 0] ∧ Blk w' g6 22 #[.int .i64 k] ∧ ∀ B, B ≤ g4 → B ≤ g5 → B ≤ g6 → B ≤ w.heap.size → Below B w w' := by
  refine callsDIn_of_wpSIn Try.func30 rfl trivial fun c₀ cs hu => ?_
  simp only [Try.ntmps30, List.size_toArray, List.length_cons, List.length_nil, Nat.reduceAdd, Nat.reduceSub, Array.replicate_succ, Array.replicate_zero, List.push_toArray, List.append_toArray, List.nil_append, List.cons_append]
  apply wpSIn_seq
  apply wpSIn_region
  unfold flt at hu
  simp [wpOpsSIn, go_sem, recoverD, hu, Exit.thenS]
  refine wpSIn_of_wpIn rfl (wpIn_wide.2 ?_)
  have hta := assert_fault k
  have l4 := h4.lt
  have l5 := h5.lt
  have l6 := h6.lt
  have n45 := h4.ne_ h5 (by decide)
  have n46 := h4.ne_ h6 (by decide)
  have n56 := h5.ne_ h6 (by decide)
  have n54 := n45.symm
  have n64 := n46.symm
  have n65 := n56.symm
  have m4 : g4 ≠ w.heap.size := by omega
  have m5 : g5 ≠ w.heap.size := by omega
  have m6 : g6 ≠ w.heap.size := by omega
  have m4' := m4.symm
  have m5' := m5.symm
  have m6' := m6.symm
  have x4 : ∀ o, (w.alloc o).cell? ⟨g4, 0, none⟩ = some s4 := fun o => (h4.alloc o).cell0
  have x5' : ∀ o, (w.alloc o).cell? ⟨g5, 0, none⟩ = some (.int .i64 x5) := fun o => (h5.alloc o).cell0
  have x6' : ∀ o, (w.alloc o).cell? ⟨g6, 0, none⟩ = some (.int .i64 x6) := fun o => (h6.alloc o).cell0
  have f4 : ∀ o, (w.alloc o).frozen? ⟨g4, 0, none⟩ = false := fun o => (h4.alloc o).frozen 0
  have f5 : ∀ o, (w.alloc o).frozen? ⟨g5, 0, none⟩ = false := fun o => (h5.alloc o).frozen 0
  have f6 : ∀ o, (w.alloc o).frozen? ⟨g6, 0, none⟩ = false := fun o => (h6.alloc o).frozen 0
  have y4 := h4.cell0
  have y5 := h5.cell0
  have y6 := h6.cell0
  have e4 := h4.frozen 0
  have e5 := h5.frozen 0
  have e6 := h6.frozen 0
  go_wp2
  have nk : ∀ X : World, X.heap.size = w.heap.size → (X.alloc (.cells #[.int .i64 k] 57)).cell? ⟨w.heap.size, 0, none⟩ = some (.int .i64 k) := fun X hX => (Blk.new' hX.symm 57 #[.int .i64 k]).cell0
  have nk' : ∀ X : World, X.heap.size = w.heap.size → (X.alloc (.cells #[.int .i64 k] 57)).drew.cell? ⟨w.heap.size, 0, none⟩ = some (.int .i64 k) := nk
  go_region_held3 (fun w' => w'.cell? ⟨w.heap.size, 0, none⟩ = some (.int .i64 k)) (first | exact nk _ (by simp) | exact nk' _ (by simp) | go_keep) (fail)
  refine ⟨rfl, _, rfl, .tuple #[], by simp [results, Try.results30], rfl, rfl, ?_, ?_, ?_, ?_⟩
  · exact ((((h4.set0 _).far (p := ⟨g5, 0, none⟩) n45 _).far (p := ⟨g6, 0, none⟩) n46 _).alloc _ : Blk _ g4 _ _)
  · exact ((((h5.far (p := ⟨g4, 0, none⟩) n54 _).set0 _).far (p := ⟨g6, 0, none⟩) n56 _).alloc _ : Blk _ g5 _ _)
  · exact ((((h6.far (p := ⟨g4, 0, none⟩) n64 _).far (p := ⟨g5, 0, none⟩) n65 _).set0 _).alloc _ : Blk _ g6 _ _)
  · intro B b4 b5 b6 bs
    exact (((below_set (below_set (below_set (Below.refl B w) b4 _) b5 _) b6 _).alloc (by simpa using bs) _).drew)
end Go.Proofs.Ytgakmfcnddholaa
