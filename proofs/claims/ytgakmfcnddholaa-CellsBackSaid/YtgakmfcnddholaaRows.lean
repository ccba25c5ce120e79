/-
  NARROWER THAN 'FOR EVERY INPUT', by the rows' own cells (each row's printed sentence says how): CellsPuts: loops · CellsBack: loops.
  DERIVED. THE GIVEN ROWS OF THIS SEAT. 5 by the template 'for every input the law returns true; each argument reads behind the call as it read before'; 0 by the template 'total and deterministic' (their statements: YtgakmfcnddholaaTotals.lean).
  GIVEN WITH THE SEED: the statements are not yours to turn. If you find one false, say at which input.
  Laid BY PROGRAM, IN A SANDBOX (cutbox-rows.mjs): the forced cells as the released guide's own fill.sh prints them over the translation f3c1d9b48978a5f0… (all of the seat's roots in one cut). By AI agents, Wed Nov 11 2026. No macro, syntax, notation, axiom, sorry.
-/
import Derived.Test.YtgakmfcnddholaaChecked
import GoSem.Claim
import GoSem.ClaimJoined
import GoSem.ClaimMapViews
import Derived.JoinedTies
import Derived.KernelRfl
namespace Go.Proofs.Ytgakmfcnddholaa
/- THE CELL 'sum', in the pinned program and in every row, IS THE sha256 OF THE DUMP (.gsa) THAT YtgakmfcnddholaaProg.lean LOADS. Nothing in Lean hashes anything: it is a label: what it is worth is what the hold of that sum in a sandbox is worth. -/
noncomputable def Try.pinned : Pinned := { name := "ytgakmfcnddholaa", sum := "f3c1d9b48978a5f026ca2670e1d3f6602e2f43fd0b32e840d53761166b0f495f", checked := Try.checked }
namespace Rows
def none {H : Type} : Left H := { results := [], args := [] }

/-- 'athanorlaw27.CellsHeads': WHATEVER THE INPUT: true; the input reads as it did. -/
def cellsHeadsSpec : ChangeSpec := { name := "cellsHeads", fn := fun _ => fun
  | [d1, d2, d3] => { results := [.lit (.bool true)], args := [d1, d2, d3] }
  | _ => none }
def cellsHeadsRow : OpenClaim := { program := "ytgakmfcnddholaa", sum := "f3c1d9b48978a5f026ca2670e1d3f6602e2f43fd0b32e840d53761166b0f495f", func := "athanor/athanorlaw27.CellsHeads", spec := "cellsHeads", unfollowed := true, recurses := true, apart := false }
def CellsHeadsSaid : Prop := cellsHeadsRow.holds Try.pinned (OpenSpec.ofChange cellsHeadsSpec)

/-- ITS FALSE NEIGHBOUR: 'it returns false'. Refute it at one input. -/
def cellsHeadsWrong : ChangeSpec := { name := "cellsHeads", fn := fun _ => fun
  | [d1, d2, d3] => { results := [.lit (.bool false)], args := [d1, d2, d3] }
  | _ => none }
def CellsHeadsWrongFalsely : Prop := cellsHeadsRow.holds Try.pinned (OpenSpec.ofChange cellsHeadsWrong)

/-- 'athanorlaw27.CellsPuts': WHATEVER THE INPUT: true; the input reads as it did. -/
def cellsPutsSpec : ChangeSpec := { name := "cellsPuts", fn := fun _ => fun
  | [d1, d2] => { results := [.lit (.bool true)], args := [d1, d2] }
  | _ => none }
def cellsPutsRow : OpenClaim := { program := "ytgakmfcnddholaa", sum := "f3c1d9b48978a5f026ca2670e1d3f6602e2f43fd0b32e840d53761166b0f495f", func := "athanor/athanorlaw27.CellsPuts", spec := "cellsPuts", unfollowed := true, recurses := true, loops := true, apart := false }
def CellsPutsSaid : Prop := cellsPutsRow.holds Try.pinned (OpenSpec.ofChange cellsPutsSpec)

/-- ITS FALSE NEIGHBOUR: 'it returns false'. Refute it at one input. -/
def cellsPutsWrong : ChangeSpec := { name := "cellsPuts", fn := fun _ => fun
  | [d1, d2] => { results := [.lit (.bool false)], args := [d1, d2] }
  | _ => none }
def CellsPutsWrongFalsely : Prop := cellsPutsRow.holds Try.pinned (OpenSpec.ofChange cellsPutsWrong)

/-- 'athanorlaw27.CellsWords': WHATEVER THE INPUT: true; the input reads as it did. -/
def cellsWordsSpec : ChangeSpec := { name := "cellsWords", fn := fun _ => fun
  | [d] => { results := [.lit (.bool true)], args := [d] }
  | _ => none }
def cellsWordsRow : OpenClaim := { program := "ytgakmfcnddholaa", sum := "f3c1d9b48978a5f026ca2670e1d3f6602e2f43fd0b32e840d53761166b0f495f", func := "athanor/athanorlaw27.CellsWords", spec := "cellsWords", unfollowed := true, recurses := true, apart := false }
def CellsWordsSaid : Prop := cellsWordsRow.holds Try.pinned (OpenSpec.ofChange cellsWordsSpec)

/-- ITS FALSE NEIGHBOUR: 'it returns false'. Refute it at one input. -/
def cellsWordsWrong : ChangeSpec := { name := "cellsWords", fn := fun _ => fun
  | [d] => { results := [.lit (.bool false)], args := [d] }
  | _ => none }
def CellsWordsWrongFalsely : Prop := cellsWordsRow.holds Try.pinned (OpenSpec.ofChange cellsWordsWrong)

/-- 'athanorlaw27.CellsReads': WHATEVER THE INPUT: true; the input reads as it did. -/
def cellsReadsSpec : ChangeSpec := { name := "cellsReads", fn := fun _ => fun
  | [d1, d2] => { results := [.lit (.bool true)], args := [d1, d2] }
  | _ => none }
def cellsReadsRow : OpenClaim := { program := "ytgakmfcnddholaa", sum := "f3c1d9b48978a5f026ca2670e1d3f6602e2f43fd0b32e840d53761166b0f495f", func := "athanor/athanorlaw27.CellsReads", spec := "cellsReads", unfollowed := true, recurses := true, apart := false }
def CellsReadsSaid : Prop := cellsReadsRow.holds Try.pinned (OpenSpec.ofChange cellsReadsSpec)

/-- ITS FALSE NEIGHBOUR: 'it returns false'. Refute it at one input. -/
def cellsReadsWrong : ChangeSpec := { name := "cellsReads", fn := fun _ => fun
  | [d1, d2] => { results := [.lit (.bool false)], args := [d1, d2] }
  | _ => none }
def CellsReadsWrongFalsely : Prop := cellsReadsRow.holds Try.pinned (OpenSpec.ofChange cellsReadsWrong)

/-- 'athanorlaw27.CellsBack': WHATEVER THE INPUT: true; the input reads as it did. -/
def cellsBackSpec : ChangeSpec := { name := "cellsBack", fn := fun _ => fun
  | [d1, d2] => { results := [.lit (.bool true)], args := [d1, d2] }
  | _ => none }
def cellsBackRow : OpenClaim := { program := "ytgakmfcnddholaa", sum := "f3c1d9b48978a5f026ca2670e1d3f6602e2f43fd0b32e840d53761166b0f495f", func := "athanor/athanorlaw27.CellsBack", spec := "cellsBack", unfollowed := true, recurses := true, loops := true, apart := false }
def CellsBackSaid : Prop := cellsBackRow.holds Try.pinned (OpenSpec.ofChange cellsBackSpec)

/-- ITS FALSE NEIGHBOUR: 'it returns false'. Refute it at one input. -/
def cellsBackWrong : ChangeSpec := { name := "cellsBack", fn := fun _ => fun
  | [d1, d2] => { results := [.lit (.bool false)], args := [d1, d2] }
  | _ => none }
def CellsBackWrongFalsely : Prop := cellsBackRow.holds Try.pinned (OpenSpec.ofChange cellsBackWrong)

/- THE SECOND FORM. 'bulk': how many values and letters a reading holds, each counted each time it is reached (what is shared counts as often as it is met; a slice's spare places count too). A statement '..UptoSaid' is the law's where the arguments, and the package variables that the reading takes, are together of bulk at most 1048576: NARROWER than '..Said'. Prove '..Said' where nothing that the law and all that it calls make is longer than what came in: it says more and counts as full. Else prove '..UptoSaid'. A law counts once. -/
mutual
def uptoBulk {H : Type} : DataW H → Nat
  | .lit (.string bytes) => bytes.length + 1
  | .lit _ => 1
  | .nil => 1
  | .ptr d => uptoBulk d + 1
  | .slice elems spare => uptoBulkAll elems + uptoBulkAll spare + 1
  | .agg parts => uptoBulkAll parts + 1
  | .iface _ d => uptoBulk d + 1
  | .map entries => uptoBulkEntries entries + 1
  | .held _ => 1
def uptoBulkAll {H : Type} : List (DataW H) → Nat
  | [] => 0
  | d :: r => uptoBulk d + uptoBulkAll r
def uptoBulkEntries {H : Type} : List (Lit × DataW H) → Nat
  | [] => 0
  | x :: r => uptoBulkEntry x + uptoBulkEntries r
def uptoBulkEntry {H : Type} : Lit × DataW H → Nat
  | (.string bytes, d) => bytes.length + uptoBulk d + 1
  | (_, d) => uptoBulk d + 1
 end
def uptoSmall : (H : Type) → List (DataW H) → Bool := fun _ ds => decide (uptoBulkAll ds ≤ 1048576)
def OpenSpec.upto (s : _root_.Go.ChangeSpec) : _root_.Go.OpenSpec := { _root_.Go.OpenSpec.ofChange s with cond := some uptoSmall }

/-- 'athanorlaw27.CellsHeads', WHERE WHAT IT READS IS OF BULK AT MOST 1048576: true; the input reads as it did. -/
def cellsHeadsUptoRow : OpenClaim := { program := "ytgakmfcnddholaa", sum := "f3c1d9b48978a5f026ca2670e1d3f6602e2f43fd0b32e840d53761166b0f495f", func := "athanor/athanorlaw27.CellsHeads", spec := "cellsHeads", unfollowed := true, recurses := true, apart := false, narrowed := true }
def CellsHeadsUptoSaid : Prop := cellsHeadsUptoRow.holds Try.pinned (OpenSpec.upto cellsHeadsSpec)

/-- 'athanorlaw27.CellsPuts', WHERE WHAT IT READS IS OF BULK AT MOST 1048576: true; the input reads as it did. -/
def cellsPutsUptoRow : OpenClaim := { program := "ytgakmfcnddholaa", sum := "f3c1d9b48978a5f026ca2670e1d3f6602e2f43fd0b32e840d53761166b0f495f", func := "athanor/athanorlaw27.CellsPuts", spec := "cellsPuts", unfollowed := true, recurses := true, loops := true, apart := false, narrowed := true }
def CellsPutsUptoSaid : Prop := cellsPutsUptoRow.holds Try.pinned (OpenSpec.upto cellsPutsSpec)

/-- 'athanorlaw27.CellsWords', WHERE WHAT IT READS IS OF BULK AT MOST 1048576: true; the input reads as it did. -/
def cellsWordsUptoRow : OpenClaim := { program := "ytgakmfcnddholaa", sum := "f3c1d9b48978a5f026ca2670e1d3f6602e2f43fd0b32e840d53761166b0f495f", func := "athanor/athanorlaw27.CellsWords", spec := "cellsWords", unfollowed := true, recurses := true, apart := false, narrowed := true }
def CellsWordsUptoSaid : Prop := cellsWordsUptoRow.holds Try.pinned (OpenSpec.upto cellsWordsSpec)

/-- 'athanorlaw27.CellsReads', WHERE WHAT IT READS IS OF BULK AT MOST 1048576: true; the input reads as it did. -/
def cellsReadsUptoRow : OpenClaim := { program := "ytgakmfcnddholaa", sum := "f3c1d9b48978a5f026ca2670e1d3f6602e2f43fd0b32e840d53761166b0f495f", func := "athanor/athanorlaw27.CellsReads", spec := "cellsReads", unfollowed := true, recurses := true, apart := false, narrowed := true }
def CellsReadsUptoSaid : Prop := cellsReadsUptoRow.holds Try.pinned (OpenSpec.upto cellsReadsSpec)

/-- 'athanorlaw27.CellsBack', WHERE WHAT IT READS IS OF BULK AT MOST 1048576: true; the input reads as it did. -/
def cellsBackUptoRow : OpenClaim := { program := "ytgakmfcnddholaa", sum := "f3c1d9b48978a5f026ca2670e1d3f6602e2f43fd0b32e840d53761166b0f495f", func := "athanor/athanorlaw27.CellsBack", spec := "cellsBack", unfollowed := true, recurses := true, loops := true, apart := false, narrowed := true }
def CellsBackUptoSaid : Prop := cellsBackUptoRow.holds Try.pinned (OpenSpec.upto cellsBackSpec)

end Rows
end Go.Proofs.Ytgakmfcnddholaa
