/-
  THE WALK OF THE FUNCTION THAT cpsrun.machine.whole DEFERS; A SCOPE WITH A LABEL, JUMPED TO AS OFTEN AS A NUMBER ALLOWS.
-/
import Derived.Test.YtdmkjndlobichaaKCall2
import Derived.Defers
import Derived.Recover
import Derived.Scope
import Derived.ScopeJumps
import Derived.WalkMore
import Derived.FnLit
import Derived.Deep.LoopGhost
import Derived.Laws.ResultCell
namespace Go
section
variable {P : Program} {a : Act} {w : World} {Q : Exit → Act → World → Prop}
theorem wp_scope_gas {c rest : Code} (l : Nat) (J : Nat → Act → World → Prop) (hf : findLabel c l = some rest)
    (first : c.wp P (Exit.jump l (fun a' w' => ∃ n, J n a' w') Q) a w)
    (pass : ∀ n a w, J n a w → rest.wp P (Exit.jump l (fun a' w' => ∃ n', n' < n ∧ J n' a' w') Q) a w) : (Code.scope c).wp P Q a w := by
  refine wp_scope_jumps l (fun a w => ∃ n, J n a w) (fun a w => leastOf (fun n => J n a w)) hf first ?_
  intro a w hI
  refine wp_mono (pass _ a w (leastOf_spec hI).1) ?_
  intro e a' w' hq
  cases e with
  | goto l' =>
    obtain ⟨h1, n', hlt, hI'⟩ := hq
    exact ⟨h1, ⟨n', hI'⟩, Nat.lt_of_le_of_lt ((leastOf_spec ⟨n', hI'⟩).2 n' hI') hlt⟩
  | normal => exact hq
  | exit id => exact hq
  | ret => exact hq
  | panic ch => exact hq
  | outgrown => exact hq
end
end Go
namespace Go.Proofs.Ytdmkjndlobichaa
set_option linter.all false
open Go.ChangeShapes Go.WideShapes Go.ChangeAt Go.RowKit Go.Maps
theorem assert_stopK (k : Int) (b : Bool) (w : World) : (Instr.typeAssert (.iface 115 (.agg #[.int .i64 k, .bool b])) 20 115 true).run Try.prog w = .ok (.tuple #[.agg #[.int .i64 k, .bool b], .bool true]) w := by kernel_rfl
/-- What a caught stop leaves: the result's block, and one more. -/
structure CaughtK (g0 : Nat) (e0 : Int) (st : Bool) (w w' : World) : Prop where
  res : Blk w' g0 115 #[.int .i64 e0, .bool st]
  os : w'.os = w.os
  tape : w'.tape = w.tape
  output : w'.output = w.output
  size : w.heap.size ≤ w'.heap.size
  block : ∀ g, g < w.heap.size → g ≠ g0 → w'.heap[g]? = w.heap[g]?
set_option maxHeartbeats 4000000 in
set_option maxRecDepth 100000 in
theorem catchK (g0 : Nat) (e0 e1 : Int) (st s1 : Bool) (w : World) (h0 : Blk w g0 115 #[.int .i64 e1, .bool s1]) :
    CallsD Try.prog 89 #[.pointer (some ⟨g0, 0, none⟩)] (.panicking [{ v := .iface 115 (.agg #[.int .i64 e0, .bool st]), recovered := false }]) w fun e u' w' =>
      e = .returned (.tuple #[]) ∧ settle u' = .returning ∧ CaughtK g0 e0 st w w' := by
  refine callsD_of_wpS Try.func89 rfl fun c₀ cs hu => ?_
  simp only [Try.ntmps89, List.size_toArray, List.length_cons, List.length_nil, Nat.reduceAdd, Nat.reduceSub, Array.replicate_succ, Array.replicate_zero, List.push_toArray, List.append_toArray, List.nil_append, List.cons_append]
  apply wpS_seq
  apply wpS_region
  simp [wpOpsS, go_sem, recoverD, hu, Exit.thenS]
  refine wpS_of_wp ?_
  have hta := assert_stopK e0 st
  have a0 : w.cell? ⟨g0, 0, none⟩ = some (.int .i64 e1) := h0.cell 0
  have a1 : w.cell? ⟨g0, 1, none⟩ = some (.bool s1) := h0.cell 1
  have l0 := h0.lt
  have n0 : g0 ≠ w.heap.size := by omega
  have n0' := n0.symm
  have f0 := h0.frozen 0
  have f1 := h0.frozen 1
  have H := hid h0
  clear h0
  go_wp2
  refine ⟨rfl, _, rfl, .tuple #[], by simp [results, Try.results89], rfl, rfl, ?_⟩
  refine ⟨((H.out.set_ 0 _).set_ 1 _).alloc _, rfl, rfl, rfl, by simp, fun g hg hne => ?_⟩
  exact (Below.heap_alloc _ _ _ (by simpa using hg)).trans ((Below.heap_setCell _ ⟨g0, 1, none⟩ _ g hne).trans (Below.heap_setCell _ ⟨g0, 0, none⟩ _ g hne))
end Go.Proofs.Ytdmkjndlobichaa
