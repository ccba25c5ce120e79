/-
  NARROWER THAN 'FOR EVERY INPUT', by the rows' own cells (each row's printed sentence says how): CpsrunFuel: loops · CpsrunRuns: loops · CpsGoods: loops · CpsSame: loops.
  DERIVED. THE GIVEN ROWS OF THIS SEAT. 4 by the template 'for every input the law returns true; each argument reads behind the call as it read before'; 0 by the template 'total and deterministic' (their statements: YtdmkjndlobichaaTotals.lean).
  GIVEN WITH THE SEED: the statements are not yours to turn. If you find one false, say at which input.
  Laid BY PROGRAM, IN A SANDBOX (cutbox-rows.mjs): the forced cells as the released guide's own fill.sh prints them over the translation aca2131b41745dcf… (all of the seat's roots in one cut). By AI agents, Wed Nov 11 2026. No macro, syntax, notation, axiom, sorry.
-/
import Derived.Test.YtdmkjndlobichaaChecked
import GoSem.Claim
import GoSem.ClaimJoined
import GoSem.ClaimMapViews
import Derived.JoinedTies
import Derived.KernelRfl
namespace Go.Proofs.Ytdmkjndlobichaa
/- THE CELL 'sum', in the pinned program and in every row, IS THE sha256 OF THE DUMP (.gsa) THAT YtdmkjndlobichaaProg.lean LOADS. Nothing in Lean hashes anything: it is a label: what it is worth is what the hold of that sum in a sandbox is worth. -/
noncomputable def Try.pinned : Pinned := { name := "ytdmkjndlobichaa", sum := "aca2131b41745dcf48110287586a5786d8a1d6930d9608166f2ba9d28c0cc931", checked := Try.checked }
namespace Rows
def none {H : Type} : Left H := { results := [], args := [] }

/-- 'athanorlaw23.CpsrunFuel': WHATEVER THE INPUT: true; the input reads as it did. -/
def cpsrunFuelSpec : ChangeSpec := { name := "cpsrunFuel", fn := fun _ => fun
  | [d1, d2, d3] => { results := [.lit (.bool true)], args := [d1, d2, d3] }
  | _ => none }
def cpsrunFuelRow : OpenClaim := { program := "ytdmkjndlobichaa", sum := "aca2131b41745dcf48110287586a5786d8a1d6930d9608166f2ba9d28c0cc931", func := "athanor/athanorlaw23.CpsrunFuel", spec := "cpsrunFuel", unfollowed := true, recurses := true, loops := true, apart := false }
def CpsrunFuelSaid : Prop := cpsrunFuelRow.holds Try.pinned (OpenSpec.ofChange cpsrunFuelSpec)

/-- ITS FALSE NEIGHBOUR: 'it returns false'. Refute it at one input. -/
def cpsrunFuelWrong : ChangeSpec := { name := "cpsrunFuel", fn := fun _ => fun
  | [d1, d2, d3] => { results := [.lit (.bool false)], args := [d1, d2, d3] }
  | _ => none }
def CpsrunFuelWrongFalsely : Prop := cpsrunFuelRow.holds Try.pinned (OpenSpec.ofChange cpsrunFuelWrong)

/-- 'athanorlaw23.CpsrunRuns': WHATEVER THE INPUT: true; the input reads as it did. -/
def cpsrunRunsSpec : ChangeSpec := { name := "cpsrunRuns", fn := fun _ => fun
  | [d1, d2, d3] => { results := [.lit (.bool true)], args := [d1, d2, d3] }
  | _ => none }
def cpsrunRunsRow : OpenClaim := { program := "ytdmkjndlobichaa", sum := "aca2131b41745dcf48110287586a5786d8a1d6930d9608166f2ba9d28c0cc931", func := "athanor/athanorlaw23.CpsrunRuns", spec := "cpsrunRuns", unfollowed := true, recurses := true, loops := true, apart := false }
def CpsrunRunsSaid : Prop := cpsrunRunsRow.holds Try.pinned (OpenSpec.ofChange cpsrunRunsSpec)

/-- ITS FALSE NEIGHBOUR: 'it returns false'. Refute it at one input. -/
def cpsrunRunsWrong : ChangeSpec := { name := "cpsrunRuns", fn := fun _ => fun
  | [d1, d2, d3] => { results := [.lit (.bool false)], args := [d1, d2, d3] }
  | _ => none }
def CpsrunRunsWrongFalsely : Prop := cpsrunRunsRow.holds Try.pinned (OpenSpec.ofChange cpsrunRunsWrong)

/-- 'athanorlaw22.CpsGoods': WHATEVER THE INPUT: true; the input reads as it did. -/
def cpsGoodsSpec : ChangeSpec := { name := "cpsGoods", fn := fun _ => fun
  | [d] => { results := [.lit (.bool true)], args := [d] }
  | _ => none }
def cpsGoodsRow : OpenClaim := { program := "ytdmkjndlobichaa", sum := "aca2131b41745dcf48110287586a5786d8a1d6930d9608166f2ba9d28c0cc931", func := "athanor/athanorlaw22.CpsGoods", spec := "cpsGoods", unfollowed := true, recurses := true, loops := true, apart := false }
def CpsGoodsSaid : Prop := cpsGoodsRow.holds Try.pinned (OpenSpec.ofChange cpsGoodsSpec)

/-- ITS FALSE NEIGHBOUR: 'it returns false'. Refute it at one input. -/
def cpsGoodsWrong : ChangeSpec := { name := "cpsGoods", fn := fun _ => fun
  | [d] => { results := [.lit (.bool false)], args := [d] }
  | _ => none }
def CpsGoodsWrongFalsely : Prop := cpsGoodsRow.holds Try.pinned (OpenSpec.ofChange cpsGoodsWrong)

/-- 'athanorlaw22.CpsSame': WHATEVER THE INPUT: true; the input reads as it did. -/
def cpsSameSpec : ChangeSpec := { name := "cpsSame", fn := fun _ => fun
  | [d] => { results := [.lit (.bool true)], args := [d] }
  | _ => none }
def cpsSameRow : OpenClaim := { program := "ytdmkjndlobichaa", sum := "aca2131b41745dcf48110287586a5786d8a1d6930d9608166f2ba9d28c0cc931", func := "athanor/athanorlaw22.CpsSame", spec := "cpsSame", unfollowed := true, recurses := true, loops := true, apart := false }
def CpsSameSaid : Prop := cpsSameRow.holds Try.pinned (OpenSpec.ofChange cpsSameSpec)

/-- ITS FALSE NEIGHBOUR: 'it returns false'. Refute it at one input. -/
def cpsSameWrong : ChangeSpec := { name := "cpsSame", fn := fun _ => fun
  | [d] => { results := [.lit (.bool false)], args := [d] }
  | _ => none }
def CpsSameWrongFalsely : Prop := cpsSameRow.holds Try.pinned (OpenSpec.ofChange cpsSameWrong)

/- THE SECOND FORM. 'bulk': how many values and letters a reading holds, each counted each time it is reached (what is shared counts as often as it is met; a slice's spare places count too). A statement '..UptoSaid' is the law's where the arguments, and the package variables that the reading takes, are together of bulk at most 1048576: NARROWER than '..Said'. Prove '..Said' where nothing that the law and all that it calls make is longer than what came in: it says more and counts as full. Else prove '..UptoSaid'. A law counts once. -/
mutual
def uptoBulk {H : Type} : DataW H → Nat
  | .lit (.string bytes) => bytes.length + 1
  | .lit _ => 1
  | .nil => 1
  | .ptr d => uptoBulk d + 1
  | .slice elems spare => uptoBulkAll elems + uptoBulkAll spare + 1
  | .agg parts => uptoBulkAll parts + 1
  | .iface _ d => uptoBulk d + 1
  | .map entries => uptoBulkEntries entries + 1
  | .held _ => 1
def uptoBulkAll {H : Type} : List (DataW H) → Nat
  | [] => 0
  | d :: r => uptoBulk d + uptoBulkAll r
def uptoBulkEntries {H : Type} : List (Lit × DataW H) → Nat
  | [] => 0
  | x :: r => uptoBulkEntry x + uptoBulkEntries r
def uptoBulkEntry {H : Type} : Lit × DataW H → Nat
  | (.string bytes, d) => bytes.length + uptoBulk d + 1
  | (_, d) => uptoBulk d + 1
 end
def uptoSmall : (H : Type) → List (DataW H) → Bool := fun _ ds => decide (uptoBulkAll ds ≤ 1048576)
def OpenSpec.upto (s : _root_.Go.ChangeSpec) : _root_.Go.OpenSpec := { _root_.Go.OpenSpec.ofChange s with cond := some uptoSmall }

/-- 'athanorlaw23.CpsrunFuel', WHERE WHAT IT READS IS OF BULK AT MOST 1048576: true; the input reads as it did. -/
def cpsrunFuelUptoRow : OpenClaim := { program := "ytdmkjndlobichaa", sum := "aca2131b41745dcf48110287586a5786d8a1d6930d9608166f2ba9d28c0cc931", func := "athanor/athanorlaw23.CpsrunFuel", spec := "cpsrunFuel", unfollowed := true, recurses := true, loops := true, apart := false, narrowed := true }
def CpsrunFuelUptoSaid : Prop := cpsrunFuelUptoRow.holds Try.pinned (OpenSpec.upto cpsrunFuelSpec)

/-- 'athanorlaw23.CpsrunRuns', WHERE WHAT IT READS IS OF BULK AT MOST 1048576: true; the input reads as it did. -/
def cpsrunRunsUptoRow : OpenClaim := { program := "ytdmkjndlobichaa", sum := "aca2131b41745dcf48110287586a5786d8a1d6930d9608166f2ba9d28c0cc931", func := "athanor/athanorlaw23.CpsrunRuns", spec := "cpsrunRuns", unfollowed := true, recurses := true, loops := true, apart := false, narrowed := true }
def CpsrunRunsUptoSaid : Prop := cpsrunRunsUptoRow.holds Try.pinned (OpenSpec.upto cpsrunRunsSpec)

/-- 'athanorlaw22.CpsGoods', WHERE WHAT IT READS IS OF BULK AT MOST 1048576: true; the input reads as it did. -/
def cpsGoodsUptoRow : OpenClaim := { program := "ytdmkjndlobichaa", sum := "aca2131b41745dcf48110287586a5786d8a1d6930d9608166f2ba9d28c0cc931", func := "athanor/athanorlaw22.CpsGoods", spec := "cpsGoods", unfollowed := true, recurses := true, loops := true, apart := false, narrowed := true }
def CpsGoodsUptoSaid : Prop := cpsGoodsUptoRow.holds Try.pinned (OpenSpec.upto cpsGoodsSpec)

/-- 'athanorlaw22.CpsSame', WHERE WHAT IT READS IS OF BULK AT MOST 1048576: true; the input reads as it did. -/
def cpsSameUptoRow : OpenClaim := { program := "ytdmkjndlobichaa", sum := "aca2131b41745dcf48110287586a5786d8a1d6930d9608166f2ba9d28c0cc931", func := "athanor/athanorlaw22.CpsSame", spec := "cpsSame", unfollowed := true, recurses := true, loops := true, apart := false, narrowed := true }
def CpsSameUptoSaid : Prop := cpsSameUptoRow.holds Try.pinned (OpenSpec.upto cpsSameSpec)

end Rows
end Go.Proofs.Ytdmkjndlobichaa
