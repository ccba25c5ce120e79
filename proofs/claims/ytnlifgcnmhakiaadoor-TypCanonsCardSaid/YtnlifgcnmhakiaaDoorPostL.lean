/-
  FROM A WALK TO A ROW THAT LISTS VARIABLES, AND TO ITS CARD.
-/
import Derived.Test.YtnlifgcnmhakiaaDoorPost
import Derived.LaidMore
import Derived.Stop.Joined
import Derived.Test.YtnlifgcnmhakiaaDoorRows
namespace Go.Proofs.YtnlifgcnmhakiaaDoor
open Go.ChangeShapes Go.WideShapes Go.ChangeAt Go.RowKit

theorem lifted_of_walk_laid {H : Type} {enc : TypeId × Value → H} {C : Checked} {os : Os} {F : FuncId} {fn : Func} {s : ChangeSpec} {tb : TypeId} {laid : List (String × DataW Unit)}
    (own : ownKnob C.prog.godebug = none) (started : os.Started) (noInit : C.prog.inits.idxOf? F = none) (hfn : C.prog.funcs[F]? = some fn)
    (hvars : s.vars = []) (hspec : ∀ ds : List (DataW H), ds.length = fn.params.toList.length → s.fn H ds = { results := [.lit (.bool true)], args := ds })
    (hres : fn.resultTypes = #[tb]) (htb : C.prog.underlying tb = some .bool) (hl : laidOutB C.prog = true)
    (hall : fn.params.toList.all (fun t => C.prog.readableRec t && decide (t < C.prog.types.size)) = true)
    (witness : ∃ (w : World) (tape : Tape) (i : Input), w.os = os ∧ (w.forCall tape i).Shaped C.prog ∧ i.vars = [] ∧ Input.okWide C.prog (w.forCall tape i) .any w.heap.size F i ∧
      ((s.pre enc C.prog fn [] false (w.forCall tape i).memory i.args ∧ laidMetH C.prog laid (w.forCall tape i).memory) ∧ sizedMet enc C.prog fn (OpenSpec.ofChange s) false (w.forCall tape i).memory i.args) ∧ ({} : Assume).holds C.prog (lone (Frame.enter C.prog F i.args .normal) [] (w.forCall tape i)))
    (walk : Answers enc C.prog F fn) :
    ReturnsInHanded {} C os F .any (fun w args => (s.pre enc C.prog fn [] false w args ∧ laidMetH C.prog laid w) ∧ sizedMet enc C.prog fn (OpenSpec.ofChange s) false w args) (s.post enc C.prog fn false true false false) := by
  refine returnsInHanded_of_change_and (X := fun w _ => laidMetH C.prog laid w) (fun _ _ _ hh h => h.of_heap hh) own started noInit hfn witness ?_
  intro W base args ds gs before hval hW _ hwt _ _
  have hW' := hW
  obtain ⟨p, q, hA, hV, rfl, hfz, hnd⟩ := hW
  rw [hvars] at hV
  obtain ⟨rfl, rfl⟩ := trodVars_none hV
  have hlt : ∀ x ∈ p, x.block < W.heap.size := fun x hx => hW'.lt x (by simpa using hx)
  have hvt : s.plain.varTypes C.prog = [] := by
    show s.vars.filterMap _ = []
    rw [hvars]; rfl
  rw [hvt] at hwt
  simp only [List.append_nil] at hwt
  refine (walk W base args ds p hA hval hlt hwt).mono fun e W' ⟨he, hb⟩ => ?_
  subst he
  have hs := hspec ds (trodAll_length hA)
  refine ⟨_, rfl, post_of_below (pa := p) (pv := []) hW' ?_ ?_ ?_ (by simp) hb (ok_one hres rfl (okWide_bool_mk htb _))⟩
  · intro b sp hd
    rw [List.append_nil, hs, hres]
    exact trodAll_cons_mk (shut_bool htb _) trodAll_mk0
  · intro sp hsp
    rw [List.append_nil, hs]
    exact trodAll_below hl hb hall hA hlt (fun x hx => hsp x (by simpa using hx))
  · intro sp hsp
    rw [List.append_nil, hs, hvars]
    rfl
/-- The door's own run meets what a row lists. -/
theorem door_met (os : Os) (args : Array Value) : laidMetH Tryd.prog Rows.typMostRow.laid ((World.doorLaid Tryd.prog 24 os).forCall (fun _ _ => 0) ⟨#[], args, []⟩).memory :=
  laidMetH_of_parts3 (fuel := 8) (laidMet_of_run' 8 (by kernel_rfl) (by kernel_rfl)) (by kernel_rfl) (by kernel_rfl)
end Go.Proofs.YtnlifgcnmhakiaaDoor
