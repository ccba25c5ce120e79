/-
  NARROWER THAN 'FOR EVERY INPUT', by the rows' own cells (each row's printed sentence says how): TypUnifies: loops · TypSame: loops · TypNone: loops · TypApplies: loops · TypIdem: loops · TypFirsts: loops.
  DERIVED. THE GIVEN ROWS OF THIS SEAT. 6 by the template 'for every input the law returns true; each argument reads behind the call as it read before'; 0 by the template 'total and deterministic' (their statements: YtnlifgcnmhakiaaTotals.lean).
  GIVEN WITH THE SEED: the statements are not yours to turn. If you find one false, say at which input.
  Laid BY PROGRAM, IN A SANDBOX (cutbox-rows.mjs): the forced cells as the released guide's own fill.sh prints them over the translation a513e22eaeea8a06… (all of the seat's roots in one cut). By AI agents, Wed Nov 11 2026. No macro, syntax, notation, axiom, sorry.
-/
import Derived.Test.YtnlifgcnmhakiaaChecked
import GoSem.Claim
import GoSem.ClaimJoined
import GoSem.ClaimMapViews
import Derived.JoinedTies
import Derived.KernelRfl
namespace Go.Proofs.Ytnlifgcnmhakiaa
/- THE CELL 'sum', in the pinned program and in every row, IS THE sha256 OF THE DUMP (.gsa) THAT YtnlifgcnmhakiaaProg.lean LOADS. Nothing in Lean hashes anything: it is a label: what it is worth is what the hold of that sum in a sandbox is worth. -/
noncomputable def Try.pinned : Pinned := { name := "ytnlifgcnmhakiaa", sum := "a513e22eaeea8a06f626cc62a5ee12b29eee437bce3639e486f8e01d7ce57135", checked := Try.checked }
namespace Rows
def none {H : Type} : Left H := { results := [], args := [] }

/-- 'athanorlaw15.TypUnifies': WHATEVER THE INPUT: true; the input reads as it did. -/
def typUnifiesSpec : ChangeSpec := { name := "typUnifies", fn := fun _ => fun
  | [d1, d2] => { results := [.lit (.bool true)], args := [d1, d2] }
  | _ => none }
def typUnifiesRow : OpenClaim := { program := "ytnlifgcnmhakiaa", sum := "a513e22eaeea8a06f626cc62a5ee12b29eee437bce3639e486f8e01d7ce57135", func := "athanor/athanorlaw15.TypUnifies", spec := "typUnifies", inPlace := ["sync/atomic.AddInt64", "sync/atomic.LoadInt64"], unfollowed := true, recurses := true, loops := true, apart := false }
def TypUnifiesSaid : Prop := typUnifiesRow.holds Try.pinned (OpenSpec.ofChange typUnifiesSpec)

/-- ITS FALSE NEIGHBOUR: 'it returns false'. Refute it at one input. -/
def typUnifiesWrong : ChangeSpec := { name := "typUnifies", fn := fun _ => fun
  | [d1, d2] => { results := [.lit (.bool false)], args := [d1, d2] }
  | _ => none }
def TypUnifiesWrongFalsely : Prop := typUnifiesRow.holds Try.pinned (OpenSpec.ofChange typUnifiesWrong)

/-- 'athanorlaw15.TypSame': WHATEVER THE INPUT: true; the input reads as it did. -/
def typSameSpec : ChangeSpec := { name := "typSame", fn := fun _ => fun
  | [d1, d2, d3] => { results := [.lit (.bool true)], args := [d1, d2, d3] }
  | _ => none }
def typSameRow : OpenClaim := { program := "ytnlifgcnmhakiaa", sum := "a513e22eaeea8a06f626cc62a5ee12b29eee437bce3639e486f8e01d7ce57135", func := "athanor/athanorlaw15.TypSame", spec := "typSame", inPlace := ["sync/atomic.AddInt64", "sync/atomic.LoadInt64"], unfollowed := true, recurses := true, loops := true, apart := false }
def TypSameSaid : Prop := typSameRow.holds Try.pinned (OpenSpec.ofChange typSameSpec)

/-- ITS FALSE NEIGHBOUR: 'it returns false'. Refute it at one input. -/
def typSameWrong : ChangeSpec := { name := "typSame", fn := fun _ => fun
  | [d1, d2, d3] => { results := [.lit (.bool false)], args := [d1, d2, d3] }
  | _ => none }
def TypSameWrongFalsely : Prop := typSameRow.holds Try.pinned (OpenSpec.ofChange typSameWrong)

/-- 'athanorlaw15.TypNone': WHATEVER THE INPUT: true; the input reads as it did. -/
def typNoneSpec : ChangeSpec := { name := "typNone", fn := fun _ => fun
  | [d] => { results := [.lit (.bool true)], args := [d] }
  | _ => none }
def typNoneRow : OpenClaim := { program := "ytnlifgcnmhakiaa", sum := "a513e22eaeea8a06f626cc62a5ee12b29eee437bce3639e486f8e01d7ce57135", func := "athanor/athanorlaw15.TypNone", spec := "typNone", inPlace := ["sync/atomic.AddInt64", "sync/atomic.LoadInt64"], unfollowed := true, recurses := true, loops := true, apart := false }
def TypNoneSaid : Prop := typNoneRow.holds Try.pinned (OpenSpec.ofChange typNoneSpec)

/-- ITS FALSE NEIGHBOUR: 'it returns false'. Refute it at one input. -/
def typNoneWrong : ChangeSpec := { name := "typNone", fn := fun _ => fun
  | [d] => { results := [.lit (.bool false)], args := [d] }
  | _ => none }
def TypNoneWrongFalsely : Prop := typNoneRow.holds Try.pinned (OpenSpec.ofChange typNoneWrong)

/-- 'athanorlaw15.TypApplies': WHATEVER THE INPUT: true; the input reads as it did. -/
def typAppliesSpec : ChangeSpec := { name := "typApplies", fn := fun _ => fun
  | [d1, d2, d3] => { results := [.lit (.bool true)], args := [d1, d2, d3] }
  | _ => none }
def typAppliesRow : OpenClaim := { program := "ytnlifgcnmhakiaa", sum := "a513e22eaeea8a06f626cc62a5ee12b29eee437bce3639e486f8e01d7ce57135", func := "athanor/athanorlaw15.TypApplies", spec := "typApplies", inPlace := ["sync/atomic.AddInt64", "sync/atomic.LoadInt64"], unfollowed := true, recurses := true, loops := true, apart := false }
def TypAppliesSaid : Prop := typAppliesRow.holds Try.pinned (OpenSpec.ofChange typAppliesSpec)

/-- ITS FALSE NEIGHBOUR: 'it returns false'. Refute it at one input. -/
def typAppliesWrong : ChangeSpec := { name := "typApplies", fn := fun _ => fun
  | [d1, d2, d3] => { results := [.lit (.bool false)], args := [d1, d2, d3] }
  | _ => none }
def TypAppliesWrongFalsely : Prop := typAppliesRow.holds Try.pinned (OpenSpec.ofChange typAppliesWrong)

/-- 'athanorlaw15.TypIdem': WHATEVER THE INPUT: true; the input reads as it did. -/
def typIdemSpec : ChangeSpec := { name := "typIdem", fn := fun _ => fun
  | [d1, d2, d3] => { results := [.lit (.bool true)], args := [d1, d2, d3] }
  | _ => none }
def typIdemRow : OpenClaim := { program := "ytnlifgcnmhakiaa", sum := "a513e22eaeea8a06f626cc62a5ee12b29eee437bce3639e486f8e01d7ce57135", func := "athanor/athanorlaw15.TypIdem", spec := "typIdem", inPlace := ["sync/atomic.AddInt64", "sync/atomic.LoadInt64"], unfollowed := true, recurses := true, loops := true, apart := false }
def TypIdemSaid : Prop := typIdemRow.holds Try.pinned (OpenSpec.ofChange typIdemSpec)

/-- ITS FALSE NEIGHBOUR: 'it returns false'. Refute it at one input. -/
def typIdemWrong : ChangeSpec := { name := "typIdem", fn := fun _ => fun
  | [d1, d2, d3] => { results := [.lit (.bool false)], args := [d1, d2, d3] }
  | _ => none }
def TypIdemWrongFalsely : Prop := typIdemRow.holds Try.pinned (OpenSpec.ofChange typIdemWrong)

/-- 'athanorlaw15.TypFirsts': WHATEVER THE INPUT: true; the input reads as it did. -/
def typFirstsSpec : ChangeSpec := { name := "typFirsts", fn := fun _ => fun
  | [d1, d2] => { results := [.lit (.bool true)], args := [d1, d2] }
  | _ => none }
def typFirstsRow : OpenClaim := { program := "ytnlifgcnmhakiaa", sum := "a513e22eaeea8a06f626cc62a5ee12b29eee437bce3639e486f8e01d7ce57135", func := "athanor/athanorlaw15.TypFirsts", spec := "typFirsts", inPlace := ["sync/atomic.AddInt64", "sync/atomic.LoadInt64"], unfollowed := true, recurses := true, loops := true, apart := false }
def TypFirstsSaid : Prop := typFirstsRow.holds Try.pinned (OpenSpec.ofChange typFirstsSpec)

/-- ITS FALSE NEIGHBOUR: 'it returns false'. Refute it at one input. -/
def typFirstsWrong : ChangeSpec := { name := "typFirsts", fn := fun _ => fun
  | [d1, d2] => { results := [.lit (.bool false)], args := [d1, d2] }
  | _ => none }
def TypFirstsWrongFalsely : Prop := typFirstsRow.holds Try.pinned (OpenSpec.ofChange typFirstsWrong)

/- THE SECOND FORM. 'bulk': how many values and letters a reading holds, each counted each time it is reached (what is shared counts as often as it is met; a slice's spare places count too). A statement '..UptoSaid' is the law's where the arguments, and the package variables that the reading takes, are together of bulk at most 1048576: NARROWER than '..Said'. Prove '..Said' where nothing that the law and all that it calls make is longer than what came in: it says more and counts as full. Else prove '..UptoSaid'. A law counts once. -/
mutual
def uptoBulk {H : Type} : DataW H → Nat
  | .lit (.string bytes) => bytes.length + 1
  | .lit _ => 1
  | .nil => 1
  | .ptr d => uptoBulk d + 1
  | .slice elems spare => uptoBulkAll elems + uptoBulkAll spare + 1
  | .agg parts => uptoBulkAll parts + 1
  | .iface _ d => uptoBulk d + 1
  | .map entries => uptoBulkEntries entries + 1
  | .held _ => 1
def uptoBulkAll {H : Type} : List (DataW H) → Nat
  | [] => 0
  | d :: r => uptoBulk d + uptoBulkAll r
def uptoBulkEntries {H : Type} : List (Lit × DataW H) → Nat
  | [] => 0
  | x :: r => uptoBulkEntry x + uptoBulkEntries r
def uptoBulkEntry {H : Type} : Lit × DataW H → Nat
  | (.string bytes, d) => bytes.length + uptoBulk d + 1
  | (_, d) => uptoBulk d + 1
 end
def uptoSmall : (H : Type) → List (DataW H) → Bool := fun _ ds => decide (uptoBulkAll ds ≤ 1048576)
def OpenSpec.upto (s : _root_.Go.ChangeSpec) : _root_.Go.OpenSpec := { _root_.Go.OpenSpec.ofChange s with cond := some uptoSmall }

/-- 'athanorlaw15.TypUnifies', WHERE WHAT IT READS IS OF BULK AT MOST 1048576: true; the input reads as it did. -/
def typUnifiesUptoRow : OpenClaim := { program := "ytnlifgcnmhakiaa", sum := "a513e22eaeea8a06f626cc62a5ee12b29eee437bce3639e486f8e01d7ce57135", func := "athanor/athanorlaw15.TypUnifies", spec := "typUnifies", inPlace := ["sync/atomic.AddInt64", "sync/atomic.LoadInt64"], unfollowed := true, recurses := true, loops := true, apart := false, narrowed := true }
def TypUnifiesUptoSaid : Prop := typUnifiesUptoRow.holds Try.pinned (OpenSpec.upto typUnifiesSpec)

/-- 'athanorlaw15.TypSame', WHERE WHAT IT READS IS OF BULK AT MOST 1048576: true; the input reads as it did. -/
def typSameUptoRow : OpenClaim := { program := "ytnlifgcnmhakiaa", sum := "a513e22eaeea8a06f626cc62a5ee12b29eee437bce3639e486f8e01d7ce57135", func := "athanor/athanorlaw15.TypSame", spec := "typSame", inPlace := ["sync/atomic.AddInt64", "sync/atomic.LoadInt64"], unfollowed := true, recurses := true, loops := true, apart := false, narrowed := true }
def TypSameUptoSaid : Prop := typSameUptoRow.holds Try.pinned (OpenSpec.upto typSameSpec)

/-- 'athanorlaw15.TypNone', WHERE WHAT IT READS IS OF BULK AT MOST 1048576: true; the input reads as it did. -/
def typNoneUptoRow : OpenClaim := { program := "ytnlifgcnmhakiaa", sum := "a513e22eaeea8a06f626cc62a5ee12b29eee437bce3639e486f8e01d7ce57135", func := "athanor/athanorlaw15.TypNone", spec := "typNone", inPlace := ["sync/atomic.AddInt64", "sync/atomic.LoadInt64"], unfollowed := true, recurses := true, loops := true, apart := false, narrowed := true }
def TypNoneUptoSaid : Prop := typNoneUptoRow.holds Try.pinned (OpenSpec.upto typNoneSpec)

/-- 'athanorlaw15.TypApplies', WHERE WHAT IT READS IS OF BULK AT MOST 1048576: true; the input reads as it did. -/
def typAppliesUptoRow : OpenClaim := { program := "ytnlifgcnmhakiaa", sum := "a513e22eaeea8a06f626cc62a5ee12b29eee437bce3639e486f8e01d7ce57135", func := "athanor/athanorlaw15.TypApplies", spec := "typApplies", inPlace := ["sync/atomic.AddInt64", "sync/atomic.LoadInt64"], unfollowed := true, recurses := true, loops := true, apart := false, narrowed := true }
def TypAppliesUptoSaid : Prop := typAppliesUptoRow.holds Try.pinned (OpenSpec.upto typAppliesSpec)

/-- 'athanorlaw15.TypIdem', WHERE WHAT IT READS IS OF BULK AT MOST 1048576: true; the input reads as it did. -/
def typIdemUptoRow : OpenClaim := { program := "ytnlifgcnmhakiaa", sum := "a513e22eaeea8a06f626cc62a5ee12b29eee437bce3639e486f8e01d7ce57135", func := "athanor/athanorlaw15.TypIdem", spec := "typIdem", inPlace := ["sync/atomic.AddInt64", "sync/atomic.LoadInt64"], unfollowed := true, recurses := true, loops := true, apart := false, narrowed := true }
def TypIdemUptoSaid : Prop := typIdemUptoRow.holds Try.pinned (OpenSpec.upto typIdemSpec)

/-- 'athanorlaw15.TypFirsts', WHERE WHAT IT READS IS OF BULK AT MOST 1048576: true; the input reads as it did. -/
def typFirstsUptoRow : OpenClaim := { program := "ytnlifgcnmhakiaa", sum := "a513e22eaeea8a06f626cc62a5ee12b29eee437bce3639e486f8e01d7ce57135", func := "athanor/athanorlaw15.TypFirsts", spec := "typFirsts", inPlace := ["sync/atomic.AddInt64", "sync/atomic.LoadInt64"], unfollowed := true, recurses := true, loops := true, apart := false, narrowed := true }
def TypFirstsUptoSaid : Prop := typFirstsUptoRow.holds Try.pinned (OpenSpec.upto typFirstsSpec)

end Rows
end Go.Proofs.Ytnlifgcnmhakiaa
