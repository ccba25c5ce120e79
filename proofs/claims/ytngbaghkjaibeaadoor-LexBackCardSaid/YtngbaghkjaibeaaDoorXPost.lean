/-
  FROM A WALK TO A ROW THAT LISTS VARIABLES, AND TO ITS CARD: the walk may use what the row lists.
-/
import Derived.Test.YtngbaghkjaibeaaDoorXSame
import Derived.LaidMore
import Derived.Stop.Joined
import Derived.Stop.LaidErr
import Derived.Lib.LaidTab
import Derived.MakeChecks
namespace Go.Proofs.YtngbaghkjaibeaaDoor
set_option linter.all false
open Go.ChangeShapes Go.WideShapes Go.ChangeAt Go.RowKit

/-- As Answers; what the row lists lies where the call begins. -/
def AnswersL {H : Type} (enc : TypeId × Value → H) (P : Program) (F : FuncId) (fn : Func) (laid : List (String × DataW Unit)) : Prop :=
  ∀ (W : World) (base : Nat) (args : Array Value) (ds : List (DataW H)) (ps : List MemPlace),
    DataW.TrodAll enc P W 0 (fun _ => true) true fn.params.toList args.toList ds ps →
    (∀ (j : Nat) t v, fn.params[j]? = some t → args[j]? = some v → Value.okWide P W .any base t v) →
    (∀ x ∈ ps, x.block < W.heap.size) →
    (DataW.weightsEach P fn.params.toList ds).all (· ≤ reachBytes) = true → laidMetH P laid W →
    Calls P F args W fun e W' => e = .returned (.bool true) ∧ Below W.heap.size W W'
theorem lifted_of_walk_laid {H : Type} {enc : TypeId × Value → H} {C : Checked} {os : Os} {F : FuncId} {fn : Func} {s : ChangeSpec} {tb : TypeId} {laid : List (String × DataW Unit)}
    (own : ownKnob C.prog.godebug = none) (started : os.Started) (noInit : C.prog.inits.idxOf? F = none) (hfn : C.prog.funcs[F]? = some fn)
    (hvars : s.vars = []) (hspec : ∀ ds : List (DataW H), ds.length = fn.params.toList.length → s.fn H ds = { results := [.lit (.bool true)], args := ds })
    (hres : fn.resultTypes = #[tb]) (htb : C.prog.underlying tb = some .bool) (hl : laidOutB C.prog = true)
    (hall : fn.params.toList.all (fun t => C.prog.readableRec t && decide (t < C.prog.types.size)) = true)
    (witness : ∃ (w : World) (tape : Tape) (i : Input), w.os = os ∧ (w.forCall tape i).Shaped C.prog ∧ i.vars = [] ∧ Input.okWide C.prog (w.forCall tape i) .any w.heap.size F i ∧
      ((s.pre enc C.prog fn [] false (w.forCall tape i).memory i.args ∧ laidMetH C.prog laid (w.forCall tape i).memory) ∧ sizedMet enc C.prog fn (OpenSpec.ofChange s) false (w.forCall tape i).memory i.args) ∧ ({} : Assume).holds C.prog (lone (Frame.enter C.prog F i.args .normal) [] (w.forCall tape i)))
    (walk : AnswersL enc C.prog F fn laid) :
    ReturnsInHanded {} C os F .any (fun w args => (s.pre enc C.prog fn [] false w args ∧ laidMetH C.prog laid w) ∧ sizedMet enc C.prog fn (OpenSpec.ofChange s) false w args) (s.post enc C.prog fn false true false false) := by
  refine returnsInHanded_of_change_and (X := fun w _ => laidMetH C.prog laid w) (fun _ _ _ hh h => h.of_heap hh) own started noInit hfn witness ?_
  intro W base args ds gs before hval hW _ hwt hX _
  have hW' := hW
  obtain ⟨p, q, hA, hV, rfl, hfz, hnd⟩ := hW
  rw [hvars] at hV
  obtain ⟨rfl, rfl⟩ := trodVars_none hV
  have hlt : ∀ x ∈ p, x.block < W.heap.size := fun x hx => hW'.lt x (by simpa using hx)
  have hvt : s.plain.varTypes C.prog = [] := by
    show s.vars.filterMap _ = []
    rw [hvars]; rfl
  rw [hvt] at hwt
  simp only [List.append_nil] at hwt
  refine (walk W base args ds p hA hval hlt hwt hX).mono fun e W' ⟨he, hb⟩ => ?_
  subst he
  have hs := hspec ds (trodAll_length hA)
  refine ⟨_, rfl, post_of_below (pa := p) (pv := []) hW' ?_ ?_ ?_ (by simp) hb (ok_one hres rfl (okWide_bool_mk htb _))⟩
  · intro b sp hd
    rw [List.append_nil, hs, hres]
    exact trodAll_cons_mk (shut_bool htb _) trodAll_mk0
  · intro sp hsp
    rw [List.append_nil, hs]
    exact trodAll_below hl hb hall hA hlt (fun x hx => hsp x (by simpa using hx))
  · intro sp hsp
    rw [List.append_nil, hs, hvars]
    rfl
/-- The door's own run meets what the rows list. -/
theorem door_met (os : Os) (args : Array Value) : laidMetH Tryd.prog Rows.lexReadsRow.laid ((World.doorLaid Tryd.prog 62 os).forCall (fun _ _ => 0) ⟨#[], args, []⟩).memory :=
  laidMetH_of_parts3 (fuel := 8) (laidMet_of_run' 8 (by kernel_rfl) (by kernel_rfl)) (by kernel_rfl) (by kernel_rfl)
/-- What the rows list: the errors' variables hold errors, and the table lies. -/
theorem laid_ok {W : World} (h : laidMetH Tryd.prog Rows.lexReadsRow.laid W) : ErrVars W := by
  rw [Go.MakeChecks.laidMetH_plain _ _ _ (by kernel_rfl)] at h
  have hrow : ∀ u, Tryd.prog.typeName? 3 u = some "*errors.errorString" → u = 107 := fun u hu =>
    typeName_ptr_named (nm := "errors.errorString") (by kernel_rfl) (by kernel_rfl) (by decide) u (by exact hu)
  obtain ⟨a1, s1, hv1, -, -, -⟩ := laid_sentinel (g := 2) (ti := 67) (tp := 107) (te := 109) (ts := 9) h.tail.tail.tail (by kernel_rfl) (by kernel_rfl) Tryd.underlying67 hrow Tryd.underlying107 Tryd.underlying109 rfl rfl Tryd.underlying9 (by kernel_rfl) (by kernel_rfl)
  obtain ⟨a2, s2, hv2, -, -, -⟩ := laid_sentinel (g := 1) (ti := 67) (tp := 107) (te := 109) (ts := 9) h.tail.tail.tail.tail (by kernel_rfl) (by kernel_rfl) Tryd.underlying67 hrow Tryd.underlying107 Tryd.underlying109 rfl rfl Tryd.underlying9 (by kernel_rfl) (by kernel_rfl)
  have c1 : W.cell? ⟨2, 0, none⟩ = some (.iface 107 (.pointer (some a1))) := by have h0 := World.var?_cell (P := Tryd.prog) (g := 2) (by kernel_rfl) hv1 0; simpa using h0
  have c2 : W.cell? ⟨1, 0, none⟩ = some (.iface 107 (.pointer (some a2))) := by have h0 := World.var?_cell (P := Tryd.prog) (g := 1) (by kernel_rfl) hv2 0; simpa using h0
  intro g hg
  rcases hg with rfl | rfl
  · exact ⟨_, c2, .inr ⟨_, _, rfl⟩, World.block_lt_of_cell? W _ c2⟩
  · exact ⟨_, c1, .inr ⟨_, _, rfl⟩, World.block_lt_of_cell? W _ c1⟩
end Go.Proofs.YtngbaghkjaibeaaDoor
