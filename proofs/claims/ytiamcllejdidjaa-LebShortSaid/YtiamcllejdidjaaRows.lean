/-
  No cell of these rows narrows 'for every input' (looked for: loops, veiled, ifaces, maps, wideKeys, modest, calm, conditions, laid).
  DERIVED. THE GIVEN ROWS OF THIS SEAT. 11 by the template 'for every input the law returns true; each argument reads behind the call as it read before'; 0 by the template 'total and deterministic' (their statements: YtiamcllejdidjaaTotals.lean).
  GIVEN WITH THE SEED: the statements are not yours to turn. If you find one false, say at which input.
  Laid BY PROGRAM, IN A SANDBOX (cutbox-rows.mjs): the forced cells as the released guide's own fill.sh prints them over the translation b2de3aa5761142b7… (all of the seat's roots in one cut). By AI agents, Wed Nov 11 2026. No macro, syntax, notation, axiom, sorry.
-/
import Derived.Test.YtiamcllejdidjaaChecked
import GoSem.Claim
import GoSem.ClaimJoined
import GoSem.ClaimMapViews
import Derived.JoinedTies
import Derived.KernelRfl
namespace Go.Proofs.Ytiamcllejdidjaa
/- THE CELL 'sum', in the pinned program and in every row, IS THE sha256 OF THE DUMP (.gsa) THAT YtiamcllejdidjaaProg.lean LOADS. Nothing in Lean hashes anything: it is a label: what it is worth is what the hold of that sum in a sandbox is worth. -/
noncomputable def Try.pinned : Pinned := { name := "ytiamcllejdidjaa", sum := "b2de3aa5761142b7ac482d4913e3e50b9071dd897d3393fe6f8b2756a21ccc98", checked := Try.checked }
namespace Rows
def none {H : Type} : Left H := { results := [], args := [] }

/-- 'athanorlaw10.IntsDoes': WHATEVER THE INPUT: true; the input reads as it did. -/
def intsDoesSpec : ChangeSpec := { name := "intsDoes", fn := fun _ => fun
  | [d1, d2, d3] => { results := [.lit (.bool true)], args := [d1, d2, d3] }
  | _ => none }
def intsDoesRow : OpenClaim := { program := "ytiamcllejdidjaa", sum := "b2de3aa5761142b7ac482d4913e3e50b9071dd897d3393fe6f8b2756a21ccc98", func := "athanor/athanorlaw10.IntsDoes", spec := "intsDoes", apart := false }
def IntsDoesSaid : Prop := intsDoesRow.holds Try.pinned (OpenSpec.ofChange intsDoesSpec)

/-- ITS FALSE NEIGHBOUR: 'it returns false'. Refute it at one input. -/
def intsDoesWrong : ChangeSpec := { name := "intsDoes", fn := fun _ => fun
  | [d1, d2, d3] => { results := [.lit (.bool false)], args := [d1, d2, d3] }
  | _ => none }
def IntsDoesWrongFalsely : Prop := intsDoesRow.holds Try.pinned (OpenSpec.ofChange intsDoesWrong)

/-- 'athanorlaw10.IntsDivides': WHATEVER THE INPUT: true; the input reads as it did. -/
def intsDividesSpec : ChangeSpec := { name := "intsDivides", fn := fun _ => fun
  | [d1, d2] => { results := [.lit (.bool true)], args := [d1, d2] }
  | _ => none }
def intsDividesRow : OpenClaim := { program := "ytiamcllejdidjaa", sum := "b2de3aa5761142b7ac482d4913e3e50b9071dd897d3393fe6f8b2756a21ccc98", func := "athanor/athanorlaw10.IntsDivides", spec := "intsDivides", apart := false }
def IntsDividesSaid : Prop := intsDividesRow.holds Try.pinned (OpenSpec.ofChange intsDividesSpec)

/-- ITS FALSE NEIGHBOUR: 'it returns false'. Refute it at one input. -/
def intsDividesWrong : ChangeSpec := { name := "intsDivides", fn := fun _ => fun
  | [d1, d2] => { results := [.lit (.bool false)], args := [d1, d2] }
  | _ => none }
def IntsDividesWrongFalsely : Prop := intsDividesRow.holds Try.pinned (OpenSpec.ofChange intsDividesWrong)

/-- 'athanorlaw10.IntsWraps': WHATEVER THE INPUT: true; the input reads as it did. -/
def intsWrapsSpec : ChangeSpec := { name := "intsWraps", fn := fun _ => fun
  | [d] => { results := [.lit (.bool true)], args := [d] }
  | _ => none }
def intsWrapsRow : OpenClaim := { program := "ytiamcllejdidjaa", sum := "b2de3aa5761142b7ac482d4913e3e50b9071dd897d3393fe6f8b2756a21ccc98", func := "athanor/athanorlaw10.IntsWraps", spec := "intsWraps", apart := false }
def IntsWrapsSaid : Prop := intsWrapsRow.holds Try.pinned (OpenSpec.ofChange intsWrapsSpec)

/-- ITS FALSE NEIGHBOUR: 'it returns false'. Refute it at one input. -/
def intsWrapsWrong : ChangeSpec := { name := "intsWraps", fn := fun _ => fun
  | [d] => { results := [.lit (.bool false)], args := [d] }
  | _ => none }
def IntsWrapsWrongFalsely : Prop := intsWrapsRow.holds Try.pinned (OpenSpec.ofChange intsWrapsWrong)

/-- 'athanorlaw10.IntsRing': WHATEVER THE INPUT: true; the input reads as it did. -/
def intsRingSpec : ChangeSpec := { name := "intsRing", fn := fun _ => fun
  | [d1, d2, d3] => { results := [.lit (.bool true)], args := [d1, d2, d3] }
  | _ => none }
def intsRingRow : OpenClaim := { program := "ytiamcllejdidjaa", sum := "b2de3aa5761142b7ac482d4913e3e50b9071dd897d3393fe6f8b2756a21ccc98", func := "athanor/athanorlaw10.IntsRing", spec := "intsRing", apart := false }
def IntsRingSaid : Prop := intsRingRow.holds Try.pinned (OpenSpec.ofChange intsRingSpec)

/-- ITS FALSE NEIGHBOUR: 'it returns false'. Refute it at one input. -/
def intsRingWrong : ChangeSpec := { name := "intsRing", fn := fun _ => fun
  | [d1, d2, d3] => { results := [.lit (.bool false)], args := [d1, d2, d3] }
  | _ => none }
def IntsRingWrongFalsely : Prop := intsRingRow.holds Try.pinned (OpenSpec.ofChange intsRingWrong)

/-- 'athanorlaw01.LebPuts': WHATEVER THE INPUT: true; the input reads as it did. -/
def lebPutsSpec : ChangeSpec := { name := "lebPuts", fn := fun _ => fun
  | [d1, d2] => { results := [.lit (.bool true)], args := [d1, d2] }
  | _ => none }
def lebPutsRow : OpenClaim := { program := "ytiamcllejdidjaa", sum := "b2de3aa5761142b7ac482d4913e3e50b9071dd897d3393fe6f8b2756a21ccc98", func := "athanor/athanorlaw01.LebPuts", spec := "lebPuts", unfollowed := true, recurses := true, apart := false }
def LebPutsSaid : Prop := lebPutsRow.holds Try.pinned (OpenSpec.ofChange lebPutsSpec)

/-- ITS FALSE NEIGHBOUR: 'it returns false'. Refute it at one input. -/
def lebPutsWrong : ChangeSpec := { name := "lebPuts", fn := fun _ => fun
  | [d1, d2] => { results := [.lit (.bool false)], args := [d1, d2] }
  | _ => none }
def LebPutsWrongFalsely : Prop := lebPutsRow.holds Try.pinned (OpenSpec.ofChange lebPutsWrong)

/-- 'athanorlaw01.LebReads': WHATEVER THE INPUT: true; the input reads as it did. -/
def lebReadsSpec : ChangeSpec := { name := "lebReads", fn := fun _ => fun
  | [d1, d2, d3] => { results := [.lit (.bool true)], args := [d1, d2, d3] }
  | _ => none }
def lebReadsRow : OpenClaim := { program := "ytiamcllejdidjaa", sum := "b2de3aa5761142b7ac482d4913e3e50b9071dd897d3393fe6f8b2756a21ccc98", func := "athanor/athanorlaw01.LebReads", spec := "lebReads", unfollowed := true, recurses := true, apart := false }
def LebReadsSaid : Prop := lebReadsRow.holds Try.pinned (OpenSpec.ofChange lebReadsSpec)

/-- ITS FALSE NEIGHBOUR: 'it returns false'. Refute it at one input. -/
def lebReadsWrong : ChangeSpec := { name := "lebReads", fn := fun _ => fun
  | [d1, d2, d3] => { results := [.lit (.bool false)], args := [d1, d2, d3] }
  | _ => none }
def LebReadsWrongFalsely : Prop := lebReadsRow.holds Try.pinned (OpenSpec.ofChange lebReadsWrong)

/-- 'athanorlaw10.IntsWords': WHATEVER THE INPUT: true; the input reads as it did. -/
def intsWordsSpec : ChangeSpec := { name := "intsWords", fn := fun _ => fun
  | [d1, d2] => { results := [.lit (.bool true)], args := [d1, d2] }
  | _ => none }
def intsWordsRow : OpenClaim := { program := "ytiamcllejdidjaa", sum := "b2de3aa5761142b7ac482d4913e3e50b9071dd897d3393fe6f8b2756a21ccc98", func := "athanor/athanorlaw10.IntsWords", spec := "intsWords", apart := false }
def IntsWordsSaid : Prop := intsWordsRow.holds Try.pinned (OpenSpec.ofChange intsWordsSpec)

/-- ITS FALSE NEIGHBOUR: 'it returns false'. Refute it at one input. -/
def intsWordsWrong : ChangeSpec := { name := "intsWords", fn := fun _ => fun
  | [d1, d2] => { results := [.lit (.bool false)], args := [d1, d2] }
  | _ => none }
def IntsWordsWrongFalsely : Prop := intsWordsRow.holds Try.pinned (OpenSpec.ofChange intsWordsWrong)

/-- 'athanorlaw01.LebSigned': WHATEVER THE INPUT: true; the input reads as it did. -/
def lebSignedSpec : ChangeSpec := { name := "lebSigned", fn := fun _ => fun
  | [d1, d2, d3] => { results := [.lit (.bool true)], args := [d1, d2, d3] }
  | _ => none }
def lebSignedRow : OpenClaim := { program := "ytiamcllejdidjaa", sum := "b2de3aa5761142b7ac482d4913e3e50b9071dd897d3393fe6f8b2756a21ccc98", func := "athanor/athanorlaw01.LebSigned", spec := "lebSigned", unfollowed := true, recurses := true, apart := false }
def LebSignedSaid : Prop := lebSignedRow.holds Try.pinned (OpenSpec.ofChange lebSignedSpec)

/-- ITS FALSE NEIGHBOUR: 'it returns false'. Refute it at one input. -/
def lebSignedWrong : ChangeSpec := { name := "lebSigned", fn := fun _ => fun
  | [d1, d2, d3] => { results := [.lit (.bool false)], args := [d1, d2, d3] }
  | _ => none }
def LebSignedWrongFalsely : Prop := lebSignedRow.holds Try.pinned (OpenSpec.ofChange lebSignedWrong)

/-- 'athanorlaw01.LebBack': WHATEVER THE INPUT: true; the input reads as it did. -/
def lebBackSpec : ChangeSpec := { name := "lebBack", fn := fun _ => fun
  | [d1, d2, d3] => { results := [.lit (.bool true)], args := [d1, d2, d3] }
  | _ => none }
def lebBackRow : OpenClaim := { program := "ytiamcllejdidjaa", sum := "b2de3aa5761142b7ac482d4913e3e50b9071dd897d3393fe6f8b2756a21ccc98", func := "athanor/athanorlaw01.LebBack", spec := "lebBack", unfollowed := true, recurses := true, apart := false }
def LebBackSaid : Prop := lebBackRow.holds Try.pinned (OpenSpec.ofChange lebBackSpec)

/-- ITS FALSE NEIGHBOUR: 'it returns false'. Refute it at one input. -/
def lebBackWrong : ChangeSpec := { name := "lebBack", fn := fun _ => fun
  | [d1, d2, d3] => { results := [.lit (.bool false)], args := [d1, d2, d3] }
  | _ => none }
def LebBackWrongFalsely : Prop := lebBackRow.holds Try.pinned (OpenSpec.ofChange lebBackWrong)

/-- 'athanorlaw01.LebShort': WHATEVER THE INPUT: true; the input reads as it did. -/
def lebShortSpec : ChangeSpec := { name := "lebShort", fn := fun _ => fun
  | [d1, d2] => { results := [.lit (.bool true)], args := [d1, d2] }
  | _ => none }
def lebShortRow : OpenClaim := { program := "ytiamcllejdidjaa", sum := "b2de3aa5761142b7ac482d4913e3e50b9071dd897d3393fe6f8b2756a21ccc98", func := "athanor/athanorlaw01.LebShort", spec := "lebShort", unfollowed := true, recurses := true, apart := false }
def LebShortSaid : Prop := lebShortRow.holds Try.pinned (OpenSpec.ofChange lebShortSpec)

/-- ITS FALSE NEIGHBOUR: 'it returns false'. Refute it at one input. -/
def lebShortWrong : ChangeSpec := { name := "lebShort", fn := fun _ => fun
  | [d1, d2] => { results := [.lit (.bool false)], args := [d1, d2] }
  | _ => none }
def LebShortWrongFalsely : Prop := lebShortRow.holds Try.pinned (OpenSpec.ofChange lebShortWrong)

/-- 'athanorlaw01.LebJoins': WHATEVER THE INPUT: true; the input reads as it did. -/
def lebJoinsSpec : ChangeSpec := { name := "lebJoins", fn := fun _ => fun
  | [d1, d2] => { results := [.lit (.bool true)], args := [d1, d2] }
  | _ => none }
def lebJoinsRow : OpenClaim := { program := "ytiamcllejdidjaa", sum := "b2de3aa5761142b7ac482d4913e3e50b9071dd897d3393fe6f8b2756a21ccc98", func := "athanor/athanorlaw01.LebJoins", spec := "lebJoins", unfollowed := true, recurses := true, apart := false }
def LebJoinsSaid : Prop := lebJoinsRow.holds Try.pinned (OpenSpec.ofChange lebJoinsSpec)

/-- ITS FALSE NEIGHBOUR: 'it returns false'. Refute it at one input. -/
def lebJoinsWrong : ChangeSpec := { name := "lebJoins", fn := fun _ => fun
  | [d1, d2] => { results := [.lit (.bool false)], args := [d1, d2] }
  | _ => none }
def LebJoinsWrongFalsely : Prop := lebJoinsRow.holds Try.pinned (OpenSpec.ofChange lebJoinsWrong)

/- THE SECOND FORM. 'bulk': how many values and letters a reading holds, each counted each time it is reached (what is shared counts as often as it is met; a slice's spare places count too). A statement '..UptoSaid' is the law's where the arguments, and the package variables that the reading takes, are together of bulk at most 1048576: NARROWER than '..Said'. Prove '..Said' where nothing that the law and all that it calls make is longer than what came in: it says more and counts as full. Else prove '..UptoSaid'. A law counts once. -/
mutual
def uptoBulk {H : Type} : DataW H → Nat
  | .lit (.string bytes) => bytes.length + 1
  | .lit _ => 1
  | .nil => 1
  | .ptr d => uptoBulk d + 1
  | .slice elems spare => uptoBulkAll elems + uptoBulkAll spare + 1
  | .agg parts => uptoBulkAll parts + 1
  | .iface _ d => uptoBulk d + 1
  | .map entries => uptoBulkEntries entries + 1
  | .held _ => 1
def uptoBulkAll {H : Type} : List (DataW H) → Nat
  | [] => 0
  | d :: r => uptoBulk d + uptoBulkAll r
def uptoBulkEntries {H : Type} : List (Lit × DataW H) → Nat
  | [] => 0
  | x :: r => uptoBulkEntry x + uptoBulkEntries r
def uptoBulkEntry {H : Type} : Lit × DataW H → Nat
  | (.string bytes, d) => bytes.length + uptoBulk d + 1
  | (_, d) => uptoBulk d + 1
 end
def uptoSmall : (H : Type) → List (DataW H) → Bool := fun _ ds => decide (uptoBulkAll ds ≤ 1048576)
def OpenSpec.upto (s : _root_.Go.ChangeSpec) : _root_.Go.OpenSpec := { _root_.Go.OpenSpec.ofChange s with cond := some uptoSmall }

/-- 'athanorlaw10.IntsDoes', WHERE WHAT IT READS IS OF BULK AT MOST 1048576: true; the input reads as it did. -/
def intsDoesUptoRow : OpenClaim := { program := "ytiamcllejdidjaa", sum := "b2de3aa5761142b7ac482d4913e3e50b9071dd897d3393fe6f8b2756a21ccc98", func := "athanor/athanorlaw10.IntsDoes", spec := "intsDoes", apart := false, narrowed := true }
def IntsDoesUptoSaid : Prop := intsDoesUptoRow.holds Try.pinned (OpenSpec.upto intsDoesSpec)

/-- 'athanorlaw10.IntsDivides', WHERE WHAT IT READS IS OF BULK AT MOST 1048576: true; the input reads as it did. -/
def intsDividesUptoRow : OpenClaim := { program := "ytiamcllejdidjaa", sum := "b2de3aa5761142b7ac482d4913e3e50b9071dd897d3393fe6f8b2756a21ccc98", func := "athanor/athanorlaw10.IntsDivides", spec := "intsDivides", apart := false, narrowed := true }
def IntsDividesUptoSaid : Prop := intsDividesUptoRow.holds Try.pinned (OpenSpec.upto intsDividesSpec)

/-- 'athanorlaw10.IntsWraps', WHERE WHAT IT READS IS OF BULK AT MOST 1048576: true; the input reads as it did. -/
def intsWrapsUptoRow : OpenClaim := { program := "ytiamcllejdidjaa", sum := "b2de3aa5761142b7ac482d4913e3e50b9071dd897d3393fe6f8b2756a21ccc98", func := "athanor/athanorlaw10.IntsWraps", spec := "intsWraps", apart := false, narrowed := true }
def IntsWrapsUptoSaid : Prop := intsWrapsUptoRow.holds Try.pinned (OpenSpec.upto intsWrapsSpec)

/-- 'athanorlaw10.IntsRing', WHERE WHAT IT READS IS OF BULK AT MOST 1048576: true; the input reads as it did. -/
def intsRingUptoRow : OpenClaim := { program := "ytiamcllejdidjaa", sum := "b2de3aa5761142b7ac482d4913e3e50b9071dd897d3393fe6f8b2756a21ccc98", func := "athanor/athanorlaw10.IntsRing", spec := "intsRing", apart := false, narrowed := true }
def IntsRingUptoSaid : Prop := intsRingUptoRow.holds Try.pinned (OpenSpec.upto intsRingSpec)

/-- 'athanorlaw01.LebPuts', WHERE WHAT IT READS IS OF BULK AT MOST 1048576: true; the input reads as it did. -/
def lebPutsUptoRow : OpenClaim := { program := "ytiamcllejdidjaa", sum := "b2de3aa5761142b7ac482d4913e3e50b9071dd897d3393fe6f8b2756a21ccc98", func := "athanor/athanorlaw01.LebPuts", spec := "lebPuts", unfollowed := true, recurses := true, apart := false, narrowed := true }
def LebPutsUptoSaid : Prop := lebPutsUptoRow.holds Try.pinned (OpenSpec.upto lebPutsSpec)

/-- 'athanorlaw01.LebReads', WHERE WHAT IT READS IS OF BULK AT MOST 1048576: true; the input reads as it did. -/
def lebReadsUptoRow : OpenClaim := { program := "ytiamcllejdidjaa", sum := "b2de3aa5761142b7ac482d4913e3e50b9071dd897d3393fe6f8b2756a21ccc98", func := "athanor/athanorlaw01.LebReads", spec := "lebReads", unfollowed := true, recurses := true, apart := false, narrowed := true }
def LebReadsUptoSaid : Prop := lebReadsUptoRow.holds Try.pinned (OpenSpec.upto lebReadsSpec)

/-- 'athanorlaw10.IntsWords', WHERE WHAT IT READS IS OF BULK AT MOST 1048576: true; the input reads as it did. -/
def intsWordsUptoRow : OpenClaim := { program := "ytiamcllejdidjaa", sum := "b2de3aa5761142b7ac482d4913e3e50b9071dd897d3393fe6f8b2756a21ccc98", func := "athanor/athanorlaw10.IntsWords", spec := "intsWords", apart := false, narrowed := true }
def IntsWordsUptoSaid : Prop := intsWordsUptoRow.holds Try.pinned (OpenSpec.upto intsWordsSpec)

/-- 'athanorlaw01.LebSigned', WHERE WHAT IT READS IS OF BULK AT MOST 1048576: true; the input reads as it did. -/
def lebSignedUptoRow : OpenClaim := { program := "ytiamcllejdidjaa", sum := "b2de3aa5761142b7ac482d4913e3e50b9071dd897d3393fe6f8b2756a21ccc98", func := "athanor/athanorlaw01.LebSigned", spec := "lebSigned", unfollowed := true, recurses := true, apart := false, narrowed := true }
def LebSignedUptoSaid : Prop := lebSignedUptoRow.holds Try.pinned (OpenSpec.upto lebSignedSpec)

/-- 'athanorlaw01.LebBack', WHERE WHAT IT READS IS OF BULK AT MOST 1048576: true; the input reads as it did. -/
def lebBackUptoRow : OpenClaim := { program := "ytiamcllejdidjaa", sum := "b2de3aa5761142b7ac482d4913e3e50b9071dd897d3393fe6f8b2756a21ccc98", func := "athanor/athanorlaw01.LebBack", spec := "lebBack", unfollowed := true, recurses := true, apart := false, narrowed := true }
def LebBackUptoSaid : Prop := lebBackUptoRow.holds Try.pinned (OpenSpec.upto lebBackSpec)

/-- 'athanorlaw01.LebShort', WHERE WHAT IT READS IS OF BULK AT MOST 1048576: true; the input reads as it did. -/
def lebShortUptoRow : OpenClaim := { program := "ytiamcllejdidjaa", sum := "b2de3aa5761142b7ac482d4913e3e50b9071dd897d3393fe6f8b2756a21ccc98", func := "athanor/athanorlaw01.LebShort", spec := "lebShort", unfollowed := true, recurses := true, apart := false, narrowed := true }
def LebShortUptoSaid : Prop := lebShortUptoRow.holds Try.pinned (OpenSpec.upto lebShortSpec)

/-- 'athanorlaw01.LebJoins', WHERE WHAT IT READS IS OF BULK AT MOST 1048576: true; the input reads as it did. -/
def lebJoinsUptoRow : OpenClaim := { program := "ytiamcllejdidjaa", sum := "b2de3aa5761142b7ac482d4913e3e50b9071dd897d3393fe6f8b2756a21ccc98", func := "athanor/athanorlaw01.LebJoins", spec := "lebJoins", unfollowed := true, recurses := true, apart := false, narrowed := true }
def LebJoinsUptoSaid : Prop := lebJoinsUptoRow.holds Try.pinned (OpenSpec.upto lebJoinsSpec)

end Rows
end Go.Proofs.Ytiamcllejdidjaa
