/-
  NARROWER THAN 'FOR EVERY INPUT', by the rows' own cells (each row's printed sentence says how): EvalFuel: loops · EvalLet: loops · EvalTells: loops · EvalRuns: loops.
  DERIVED. THE GIVEN ROWS OF THIS SEAT. 4 by the template 'for every input the law returns true; each argument reads behind the call as it read before'; 0 by the template 'total and deterministic' (their statements: YtohdaclbgedeiaaTotals.lean).
  GIVEN WITH THE SEED: the statements are not yours to turn. If you find one false, say at which input.
  Laid BY PROGRAM, IN A SANDBOX (cutbox-rows.mjs): the forced cells as the released guide's own fill.sh prints them over the translation a2f875c6906ee203… (all of the seat's roots in one cut). By AI agents, Wed Nov 11 2026. No macro, syntax, notation, axiom, sorry.
-/
import Derived.Test.YtohdaclbgedeiaaChecked
import GoSem.Claim
import GoSem.ClaimJoined
import GoSem.ClaimMapViews
import Derived.JoinedTies
import Derived.KernelRfl
namespace Go.Proofs.Ytohdaclbgedeiaa
/- THE CELL 'sum', in the pinned program and in every row, IS THE sha256 OF THE DUMP (.gsa) THAT YtohdaclbgedeiaaProg.lean LOADS. Nothing in Lean hashes anything: it is a label: what it is worth is what the hold of that sum in a sandbox is worth. -/
noncomputable def Try.pinned : Pinned := { name := "ytohdaclbgedeiaa", sum := "a2f875c6906ee203750b2a6abbf7320200463c4d8b2de7da5f2f3ddfbde1a93e", checked := Try.checked }
namespace Rows
def none {H : Type} : Left H := { results := [], args := [] }

/-- 'athanorlaw21.EvalFuel': WHATEVER THE INPUT: true; the input reads as it did. -/
def evalFuelSpec : ChangeSpec := { name := "evalFuel", fn := fun _ => fun
  | [d1, d2, d3] => { results := [.lit (.bool true)], args := [d1, d2, d3] }
  | _ => none }
def evalFuelRow : OpenClaim := { program := "ytohdaclbgedeiaa", sum := "a2f875c6906ee203750b2a6abbf7320200463c4d8b2de7da5f2f3ddfbde1a93e", func := "athanor/athanorlaw21.EvalFuel", spec := "evalFuel", unfollowed := true, recurses := true, loops := true, apart := false }
def EvalFuelSaid : Prop := evalFuelRow.holds Try.pinned (OpenSpec.ofChange evalFuelSpec)

/-- ITS FALSE NEIGHBOUR: 'it returns false'. Refute it at one input. -/
def evalFuelWrong : ChangeSpec := { name := "evalFuel", fn := fun _ => fun
  | [d1, d2, d3] => { results := [.lit (.bool false)], args := [d1, d2, d3] }
  | _ => none }
def EvalFuelWrongFalsely : Prop := evalFuelRow.holds Try.pinned (OpenSpec.ofChange evalFuelWrong)

/-- 'athanorlaw21.EvalLet': WHATEVER THE INPUT: true; the input reads as it did. -/
def evalLetSpec : ChangeSpec := { name := "evalLet", fn := fun _ => fun
  | [d1, d2, d3] => { results := [.lit (.bool true)], args := [d1, d2, d3] }
  | _ => none }
def evalLetRow : OpenClaim := { program := "ytohdaclbgedeiaa", sum := "a2f875c6906ee203750b2a6abbf7320200463c4d8b2de7da5f2f3ddfbde1a93e", func := "athanor/athanorlaw21.EvalLet", spec := "evalLet", unfollowed := true, recurses := true, loops := true, apart := false }
def EvalLetSaid : Prop := evalLetRow.holds Try.pinned (OpenSpec.ofChange evalLetSpec)

/-- ITS FALSE NEIGHBOUR: 'it returns false'. Refute it at one input. -/
def evalLetWrong : ChangeSpec := { name := "evalLet", fn := fun _ => fun
  | [d1, d2, d3] => { results := [.lit (.bool false)], args := [d1, d2, d3] }
  | _ => none }
def EvalLetWrongFalsely : Prop := evalLetRow.holds Try.pinned (OpenSpec.ofChange evalLetWrong)

/-- 'athanorlaw21.EvalTells': WHATEVER THE INPUT: true; the input reads as it did. -/
def evalTellsSpec : ChangeSpec := { name := "evalTells", fn := fun _ => fun
  | [d1, d2, d3] => { results := [.lit (.bool true)], args := [d1, d2, d3] }
  | _ => none }
def evalTellsRow : OpenClaim := { program := "ytohdaclbgedeiaa", sum := "a2f875c6906ee203750b2a6abbf7320200463c4d8b2de7da5f2f3ddfbde1a93e", func := "athanor/athanorlaw21.EvalTells", spec := "evalTells", unfollowed := true, recurses := true, loops := true, apart := false }
def EvalTellsSaid : Prop := evalTellsRow.holds Try.pinned (OpenSpec.ofChange evalTellsSpec)

/-- ITS FALSE NEIGHBOUR: 'it returns false'. Refute it at one input. -/
def evalTellsWrong : ChangeSpec := { name := "evalTells", fn := fun _ => fun
  | [d1, d2, d3] => { results := [.lit (.bool false)], args := [d1, d2, d3] }
  | _ => none }
def EvalTellsWrongFalsely : Prop := evalTellsRow.holds Try.pinned (OpenSpec.ofChange evalTellsWrong)

/-- 'athanorlaw21.EvalRuns': WHATEVER THE INPUT: true; the input reads as it did. -/
def evalRunsSpec : ChangeSpec := { name := "evalRuns", fn := fun _ => fun
  | [d1, d2, d3] => { results := [.lit (.bool true)], args := [d1, d2, d3] }
  | _ => none }
def evalRunsRow : OpenClaim := { program := "ytohdaclbgedeiaa", sum := "a2f875c6906ee203750b2a6abbf7320200463c4d8b2de7da5f2f3ddfbde1a93e", func := "athanor/athanorlaw21.EvalRuns", spec := "evalRuns", unfollowed := true, recurses := true, loops := true, apart := false }
def EvalRunsSaid : Prop := evalRunsRow.holds Try.pinned (OpenSpec.ofChange evalRunsSpec)

/-- ITS FALSE NEIGHBOUR: 'it returns false'. Refute it at one input. -/
def evalRunsWrong : ChangeSpec := { name := "evalRuns", fn := fun _ => fun
  | [d1, d2, d3] => { results := [.lit (.bool false)], args := [d1, d2, d3] }
  | _ => none }
def EvalRunsWrongFalsely : Prop := evalRunsRow.holds Try.pinned (OpenSpec.ofChange evalRunsWrong)

/- THE SECOND FORM. 'bulk': how many values and letters a reading holds, each counted each time it is reached (what is shared counts as often as it is met; a slice's spare places count too). A statement '..UptoSaid' is the law's where the arguments, and the package variables that the reading takes, are together of bulk at most 1048576: NARROWER than '..Said'. Prove '..Said' where nothing that the law and all that it calls make is longer than what came in: it says more and counts as full. Else prove '..UptoSaid'. A law counts once. -/
mutual
def uptoBulk {H : Type} : DataW H → Nat
  | .lit (.string bytes) => bytes.length + 1
  | .lit _ => 1
  | .nil => 1
  | .ptr d => uptoBulk d + 1
  | .slice elems spare => uptoBulkAll elems + uptoBulkAll spare + 1
  | .agg parts => uptoBulkAll parts + 1
  | .iface _ d => uptoBulk d + 1
  | .map entries => uptoBulkEntries entries + 1
  | .held _ => 1
def uptoBulkAll {H : Type} : List (DataW H) → Nat
  | [] => 0
  | d :: r => uptoBulk d + uptoBulkAll r
def uptoBulkEntries {H : Type} : List (Lit × DataW H) → Nat
  | [] => 0
  | x :: r => uptoBulkEntry x + uptoBulkEntries r
def uptoBulkEntry {H : Type} : Lit × DataW H → Nat
  | (.string bytes, d) => bytes.length + uptoBulk d + 1
  | (_, d) => uptoBulk d + 1
 end
def uptoSmall : (H : Type) → List (DataW H) → Bool := fun _ ds => decide (uptoBulkAll ds ≤ 1048576)
def OpenSpec.upto (s : _root_.Go.ChangeSpec) : _root_.Go.OpenSpec := { _root_.Go.OpenSpec.ofChange s with cond := some uptoSmall }

/-- 'athanorlaw21.EvalFuel', WHERE WHAT IT READS IS OF BULK AT MOST 1048576: true; the input reads as it did. -/
def evalFuelUptoRow : OpenClaim := { program := "ytohdaclbgedeiaa", sum := "a2f875c6906ee203750b2a6abbf7320200463c4d8b2de7da5f2f3ddfbde1a93e", func := "athanor/athanorlaw21.EvalFuel", spec := "evalFuel", unfollowed := true, recurses := true, loops := true, apart := false, narrowed := true }
def EvalFuelUptoSaid : Prop := evalFuelUptoRow.holds Try.pinned (OpenSpec.upto evalFuelSpec)

/-- 'athanorlaw21.EvalLet', WHERE WHAT IT READS IS OF BULK AT MOST 1048576: true; the input reads as it did. -/
def evalLetUptoRow : OpenClaim := { program := "ytohdaclbgedeiaa", sum := "a2f875c6906ee203750b2a6abbf7320200463c4d8b2de7da5f2f3ddfbde1a93e", func := "athanor/athanorlaw21.EvalLet", spec := "evalLet", unfollowed := true, recurses := true, loops := true, apart := false, narrowed := true }
def EvalLetUptoSaid : Prop := evalLetUptoRow.holds Try.pinned (OpenSpec.upto evalLetSpec)

/-- 'athanorlaw21.EvalTells', WHERE WHAT IT READS IS OF BULK AT MOST 1048576: true; the input reads as it did. -/
def evalTellsUptoRow : OpenClaim := { program := "ytohdaclbgedeiaa", sum := "a2f875c6906ee203750b2a6abbf7320200463c4d8b2de7da5f2f3ddfbde1a93e", func := "athanor/athanorlaw21.EvalTells", spec := "evalTells", unfollowed := true, recurses := true, loops := true, apart := false, narrowed := true }
def EvalTellsUptoSaid : Prop := evalTellsUptoRow.holds Try.pinned (OpenSpec.upto evalTellsSpec)

/-- 'athanorlaw21.EvalRuns', WHERE WHAT IT READS IS OF BULK AT MOST 1048576: true; the input reads as it did. -/
def evalRunsUptoRow : OpenClaim := { program := "ytohdaclbgedeiaa", sum := "a2f875c6906ee203750b2a6abbf7320200463c4d8b2de7da5f2f3ddfbde1a93e", func := "athanor/athanorlaw21.EvalRuns", spec := "evalRuns", unfollowed := true, recurses := true, loops := true, apart := false, narrowed := true }
def EvalRunsUptoSaid : Prop := evalRunsUptoRow.holds Try.pinned (OpenSpec.upto evalRunsSpec)

end Rows
end Go.Proofs.Ytohdaclbgedeiaa
