/-
  No cell of these rows narrows 'for every input' (looked for: loops, veiled, ifaces, maps, wideKeys, modest, calm, conditions, laid).
  DERIVED. THE GIVEN ROWS OF THIS SEAT. 8 by the template 'for every input the law returns true; each argument reads behind the call as it read before'; 0 by the template 'total and deterministic' (their statements: YtikdflppccbdaaaTotals.lean).
  GIVEN WITH THE SEED: the statements are not yours to turn. If you find one false, say at which input.
  Laid BY PROGRAM, IN A SANDBOX (cutbox-rows.mjs): the forced cells as the released guide's own fill.sh prints them over the translation adbed6d76e91f99f… (all of the seat's roots in one cut). By AI agents, Wed Nov 11 2026. No macro, syntax, notation, axiom, sorry.
-/
import Derived.Test.YtikdflppccbdaaaChecked
import GoSem.Claim
import GoSem.ClaimJoined
import GoSem.ClaimMapViews
import Derived.JoinedTies
import Derived.KernelRfl
namespace Go.Proofs.Ytikdflppccbdaaa
/- THE CELL 'sum', in the pinned program and in every row, IS THE sha256 OF THE DUMP (.gsa) THAT YtikdflppccbdaaaProg.lean LOADS. Nothing in Lean hashes anything: it is a label: what it is worth is what the hold of that sum in a sandbox is worth. -/
noncomputable def Try.pinned : Pinned := { name := "ytikdflppccbdaaa", sum := "adbed6d76e91f99f164fe2bb93c7e4eafac3bc264cb86191fd994d674100c6bb", checked := Try.checked }
namespace Rows
def none {H : Type} : Left H := { results := [], args := [] }

/-- 'athanorlaw28.HeapGoods': WHATEVER THE INPUT: true; the input reads as it did. -/
def heapGoodsSpec : ChangeSpec := { name := "heapGoods", fn := fun _ => fun
  | [d1, d2, d3] => { results := [.lit (.bool true)], args := [d1, d2, d3] }
  | _ => none }
def heapGoodsRow : OpenClaim := { program := "ytikdflppccbdaaa", sum := "adbed6d76e91f99f164fe2bb93c7e4eafac3bc264cb86191fd994d674100c6bb", func := "athanor/athanorlaw28.HeapGoods", spec := "heapGoods", unfollowed := true, recurses := true, apart := false }
def HeapGoodsSaid : Prop := heapGoodsRow.holds Try.pinned (OpenSpec.ofChange heapGoodsSpec)

/-- ITS FALSE NEIGHBOUR: 'it returns false'. Refute it at one input. -/
def heapGoodsWrong : ChangeSpec := { name := "heapGoods", fn := fun _ => fun
  | [d1, d2, d3] => { results := [.lit (.bool false)], args := [d1, d2, d3] }
  | _ => none }
def HeapGoodsWrongFalsely : Prop := heapGoodsRow.holds Try.pinned (OpenSpec.ofChange heapGoodsWrong)

/-- 'athanorlaw28.HeapAllocs': WHATEVER THE INPUT: true; the input reads as it did. -/
def heapAllocsSpec : ChangeSpec := { name := "heapAllocs", fn := fun _ => fun
  | [d1, d2, d3] => { results := [.lit (.bool true)], args := [d1, d2, d3] }
  | _ => none }
def heapAllocsRow : OpenClaim := { program := "ytikdflppccbdaaa", sum := "adbed6d76e91f99f164fe2bb93c7e4eafac3bc264cb86191fd994d674100c6bb", func := "athanor/athanorlaw28.HeapAllocs", spec := "heapAllocs", unfollowed := true, recurses := true, apart := false }
def HeapAllocsSaid : Prop := heapAllocsRow.holds Try.pinned (OpenSpec.ofChange heapAllocsSpec)

/-- ITS FALSE NEIGHBOUR: 'it returns false'. Refute it at one input. -/
def heapAllocsWrong : ChangeSpec := { name := "heapAllocs", fn := fun _ => fun
  | [d1, d2, d3] => { results := [.lit (.bool false)], args := [d1, d2, d3] }
  | _ => none }
def HeapAllocsWrongFalsely : Prop := heapAllocsRow.holds Try.pinned (OpenSpec.ofChange heapAllocsWrong)

/-- 'athanorlaw28.HeapCollects': WHATEVER THE INPUT: true; the input reads as it did. -/
def heapCollectsSpec : ChangeSpec := { name := "heapCollects", fn := fun _ => fun
  | [d1, d2] => { results := [.lit (.bool true)], args := [d1, d2] }
  | _ => none }
def heapCollectsRow : OpenClaim := { program := "ytikdflppccbdaaa", sum := "adbed6d76e91f99f164fe2bb93c7e4eafac3bc264cb86191fd994d674100c6bb", func := "athanor/athanorlaw28.HeapCollects", spec := "heapCollects", unfollowed := true, recurses := true, apart := false }
def HeapCollectsSaid : Prop := heapCollectsRow.holds Try.pinned (OpenSpec.ofChange heapCollectsSpec)

/-- ITS FALSE NEIGHBOUR: 'it returns false'. Refute it at one input. -/
def heapCollectsWrong : ChangeSpec := { name := "heapCollects", fn := fun _ => fun
  | [d1, d2] => { results := [.lit (.bool false)], args := [d1, d2] }
  | _ => none }
def HeapCollectsWrongFalsely : Prop := heapCollectsRow.holds Try.pinned (OpenSpec.ofChange heapCollectsWrong)

/-- 'athanorlaw28.HeapDrops': WHATEVER THE INPUT: true; the input reads as it did. -/
def heapDropsSpec : ChangeSpec := { name := "heapDrops", fn := fun _ => fun
  | [d1, d2] => { results := [.lit (.bool true)], args := [d1, d2] }
  | _ => none }
def heapDropsRow : OpenClaim := { program := "ytikdflppccbdaaa", sum := "adbed6d76e91f99f164fe2bb93c7e4eafac3bc264cb86191fd994d674100c6bb", func := "athanor/athanorlaw28.HeapDrops", spec := "heapDrops", unfollowed := true, recurses := true, apart := false }
def HeapDropsSaid : Prop := heapDropsRow.holds Try.pinned (OpenSpec.ofChange heapDropsSpec)

/-- ITS FALSE NEIGHBOUR: 'it returns false'. Refute it at one input. -/
def heapDropsWrong : ChangeSpec := { name := "heapDrops", fn := fun _ => fun
  | [d1, d2] => { results := [.lit (.bool false)], args := [d1, d2] }
  | _ => none }
def HeapDropsWrongFalsely : Prop := heapDropsRow.holds Try.pinned (OpenSpec.ofChange heapDropsWrong)

/-- 'athanorlaw28.HeapRoots': WHATEVER THE INPUT: true; the input reads as it did. -/
def heapRootsSpec : ChangeSpec := { name := "heapRoots", fn := fun _ => fun
  | [d1, d2] => { results := [.lit (.bool true)], args := [d1, d2] }
  | _ => none }
def heapRootsRow : OpenClaim := { program := "ytikdflppccbdaaa", sum := "adbed6d76e91f99f164fe2bb93c7e4eafac3bc264cb86191fd994d674100c6bb", func := "athanor/athanorlaw28.HeapRoots", spec := "heapRoots", unfollowed := true, recurses := true, apart := false }
def HeapRootsSaid : Prop := heapRootsRow.holds Try.pinned (OpenSpec.ofChange heapRootsSpec)

/-- ITS FALSE NEIGHBOUR: 'it returns false'. Refute it at one input. -/
def heapRootsWrong : ChangeSpec := { name := "heapRoots", fn := fun _ => fun
  | [d1, d2] => { results := [.lit (.bool false)], args := [d1, d2] }
  | _ => none }
def HeapRootsWrongFalsely : Prop := heapRootsRow.holds Try.pinned (OpenSpec.ofChange heapRootsWrong)

/-- 'athanorlaw28.HeapShows': WHATEVER THE INPUT: true; the input reads as it did. -/
def heapShowsSpec : ChangeSpec := { name := "heapShows", fn := fun _ => fun
  | [d1, d2] => { results := [.lit (.bool true)], args := [d1, d2] }
  | _ => none }
def heapShowsRow : OpenClaim := { program := "ytikdflppccbdaaa", sum := "adbed6d76e91f99f164fe2bb93c7e4eafac3bc264cb86191fd994d674100c6bb", func := "athanor/athanorlaw28.HeapShows", spec := "heapShows", unfollowed := true, recurses := true, apart := false }
def HeapShowsSaid : Prop := heapShowsRow.holds Try.pinned (OpenSpec.ofChange heapShowsSpec)

/-- ITS FALSE NEIGHBOUR: 'it returns false'. Refute it at one input. -/
def heapShowsWrong : ChangeSpec := { name := "heapShows", fn := fun _ => fun
  | [d1, d2] => { results := [.lit (.bool false)], args := [d1, d2] }
  | _ => none }
def HeapShowsWrongFalsely : Prop := heapShowsRow.holds Try.pinned (OpenSpec.ofChange heapShowsWrong)

/-- 'athanorlaw28.HeapKeeps': WHATEVER THE INPUT: true; the input reads as it did. -/
def heapKeepsSpec : ChangeSpec := { name := "heapKeeps", fn := fun _ => fun
  | [d1, d2] => { results := [.lit (.bool true)], args := [d1, d2] }
  | _ => none }
def heapKeepsRow : OpenClaim := { program := "ytikdflppccbdaaa", sum := "adbed6d76e91f99f164fe2bb93c7e4eafac3bc264cb86191fd994d674100c6bb", func := "athanor/athanorlaw28.HeapKeeps", spec := "heapKeeps", unfollowed := true, recurses := true, apart := false }
def HeapKeepsSaid : Prop := heapKeepsRow.holds Try.pinned (OpenSpec.ofChange heapKeepsSpec)

/-- ITS FALSE NEIGHBOUR: 'it returns false'. Refute it at one input. -/
def heapKeepsWrong : ChangeSpec := { name := "heapKeeps", fn := fun _ => fun
  | [d1, d2] => { results := [.lit (.bool false)], args := [d1, d2] }
  | _ => none }
def HeapKeepsWrongFalsely : Prop := heapKeepsRow.holds Try.pinned (OpenSpec.ofChange heapKeepsWrong)

/-- 'athanorlaw28.HeapGrows': WHATEVER THE INPUT: true; the input reads as it did. -/
def heapGrowsSpec : ChangeSpec := { name := "heapGrows", fn := fun _ => fun
  | [d1, d2, d3] => { results := [.lit (.bool true)], args := [d1, d2, d3] }
  | _ => none }
def heapGrowsRow : OpenClaim := { program := "ytikdflppccbdaaa", sum := "adbed6d76e91f99f164fe2bb93c7e4eafac3bc264cb86191fd994d674100c6bb", func := "athanor/athanorlaw28.HeapGrows", spec := "heapGrows", unfollowed := true, recurses := true, apart := false }
def HeapGrowsSaid : Prop := heapGrowsRow.holds Try.pinned (OpenSpec.ofChange heapGrowsSpec)

/-- ITS FALSE NEIGHBOUR: 'it returns false'. Refute it at one input. -/
def heapGrowsWrong : ChangeSpec := { name := "heapGrows", fn := fun _ => fun
  | [d1, d2, d3] => { results := [.lit (.bool false)], args := [d1, d2, d3] }
  | _ => none }
def HeapGrowsWrongFalsely : Prop := heapGrowsRow.holds Try.pinned (OpenSpec.ofChange heapGrowsWrong)

/- THE SECOND FORM. 'bulk': how many values and letters a reading holds, each counted each time it is reached (what is shared counts as often as it is met; a slice's spare places count too). A statement '..UptoSaid' is the law's where the arguments, and the package variables that the reading takes, are together of bulk at most 1048576: NARROWER than '..Said'. Prove '..Said' where nothing that the law and all that it calls make is longer than what came in: it says more and counts as full. Else prove '..UptoSaid'. A law counts once. -/
mutual
def uptoBulk {H : Type} : DataW H → Nat
  | .lit (.string bytes) => bytes.length + 1
  | .lit _ => 1
  | .nil => 1
  | .ptr d => uptoBulk d + 1
  | .slice elems spare => uptoBulkAll elems + uptoBulkAll spare + 1
  | .agg parts => uptoBulkAll parts + 1
  | .iface _ d => uptoBulk d + 1
  | .map entries => uptoBulkEntries entries + 1
  | .held _ => 1
def uptoBulkAll {H : Type} : List (DataW H) → Nat
  | [] => 0
  | d :: r => uptoBulk d + uptoBulkAll r
def uptoBulkEntries {H : Type} : List (Lit × DataW H) → Nat
  | [] => 0
  | x :: r => uptoBulkEntry x + uptoBulkEntries r
def uptoBulkEntry {H : Type} : Lit × DataW H → Nat
  | (.string bytes, d) => bytes.length + uptoBulk d + 1
  | (_, d) => uptoBulk d + 1
 end
def uptoSmall : (H : Type) → List (DataW H) → Bool := fun _ ds => decide (uptoBulkAll ds ≤ 1048576)
def OpenSpec.upto (s : _root_.Go.ChangeSpec) : _root_.Go.OpenSpec := { _root_.Go.OpenSpec.ofChange s with cond := some uptoSmall }

/-- 'athanorlaw28.HeapGoods', WHERE WHAT IT READS IS OF BULK AT MOST 1048576: true; the input reads as it did. -/
def heapGoodsUptoRow : OpenClaim := { program := "ytikdflppccbdaaa", sum := "adbed6d76e91f99f164fe2bb93c7e4eafac3bc264cb86191fd994d674100c6bb", func := "athanor/athanorlaw28.HeapGoods", spec := "heapGoods", unfollowed := true, recurses := true, apart := false, narrowed := true }
def HeapGoodsUptoSaid : Prop := heapGoodsUptoRow.holds Try.pinned (OpenSpec.upto heapGoodsSpec)

/-- 'athanorlaw28.HeapAllocs', WHERE WHAT IT READS IS OF BULK AT MOST 1048576: true; the input reads as it did. -/
def heapAllocsUptoRow : OpenClaim := { program := "ytikdflppccbdaaa", sum := "adbed6d76e91f99f164fe2bb93c7e4eafac3bc264cb86191fd994d674100c6bb", func := "athanor/athanorlaw28.HeapAllocs", spec := "heapAllocs", unfollowed := true, recurses := true, apart := false, narrowed := true }
def HeapAllocsUptoSaid : Prop := heapAllocsUptoRow.holds Try.pinned (OpenSpec.upto heapAllocsSpec)

/-- 'athanorlaw28.HeapCollects', WHERE WHAT IT READS IS OF BULK AT MOST 1048576: true; the input reads as it did. -/
def heapCollectsUptoRow : OpenClaim := { program := "ytikdflppccbdaaa", sum := "adbed6d76e91f99f164fe2bb93c7e4eafac3bc264cb86191fd994d674100c6bb", func := "athanor/athanorlaw28.HeapCollects", spec := "heapCollects", unfollowed := true, recurses := true, apart := false, narrowed := true }
def HeapCollectsUptoSaid : Prop := heapCollectsUptoRow.holds Try.pinned (OpenSpec.upto heapCollectsSpec)

/-- 'athanorlaw28.HeapDrops', WHERE WHAT IT READS IS OF BULK AT MOST 1048576: true; the input reads as it did. -/
def heapDropsUptoRow : OpenClaim := { program := "ytikdflppccbdaaa", sum := "adbed6d76e91f99f164fe2bb93c7e4eafac3bc264cb86191fd994d674100c6bb", func := "athanor/athanorlaw28.HeapDrops", spec := "heapDrops", unfollowed := true, recurses := true, apart := false, narrowed := true }
def HeapDropsUptoSaid : Prop := heapDropsUptoRow.holds Try.pinned (OpenSpec.upto heapDropsSpec)

/-- 'athanorlaw28.HeapRoots', WHERE WHAT IT READS IS OF BULK AT MOST 1048576: true; the input reads as it did. -/
def heapRootsUptoRow : OpenClaim := { program := "ytikdflppccbdaaa", sum := "adbed6d76e91f99f164fe2bb93c7e4eafac3bc264cb86191fd994d674100c6bb", func := "athanor/athanorlaw28.HeapRoots", spec := "heapRoots", unfollowed := true, recurses := true, apart := false, narrowed := true }
def HeapRootsUptoSaid : Prop := heapRootsUptoRow.holds Try.pinned (OpenSpec.upto heapRootsSpec)

/-- 'athanorlaw28.HeapShows', WHERE WHAT IT READS IS OF BULK AT MOST 1048576: true; the input reads as it did. -/
def heapShowsUptoRow : OpenClaim := { program := "ytikdflppccbdaaa", sum := "adbed6d76e91f99f164fe2bb93c7e4eafac3bc264cb86191fd994d674100c6bb", func := "athanor/athanorlaw28.HeapShows", spec := "heapShows", unfollowed := true, recurses := true, apart := false, narrowed := true }
def HeapShowsUptoSaid : Prop := heapShowsUptoRow.holds Try.pinned (OpenSpec.upto heapShowsSpec)

/-- 'athanorlaw28.HeapKeeps', WHERE WHAT IT READS IS OF BULK AT MOST 1048576: true; the input reads as it did. -/
def heapKeepsUptoRow : OpenClaim := { program := "ytikdflppccbdaaa", sum := "adbed6d76e91f99f164fe2bb93c7e4eafac3bc264cb86191fd994d674100c6bb", func := "athanor/athanorlaw28.HeapKeeps", spec := "heapKeeps", unfollowed := true, recurses := true, apart := false, narrowed := true }
def HeapKeepsUptoSaid : Prop := heapKeepsUptoRow.holds Try.pinned (OpenSpec.upto heapKeepsSpec)

/-- 'athanorlaw28.HeapGrows', WHERE WHAT IT READS IS OF BULK AT MOST 1048576: true; the input reads as it did. -/
def heapGrowsUptoRow : OpenClaim := { program := "ytikdflppccbdaaa", sum := "adbed6d76e91f99f164fe2bb93c7e4eafac3bc264cb86191fd994d674100c6bb", func := "athanor/athanorlaw28.HeapGrows", spec := "heapGrows", unfollowed := true, recurses := true, apart := false, narrowed := true }
def HeapGrowsUptoSaid : Prop := heapGrowsUptoRow.holds Try.pinned (OpenSpec.upto heapGrowsSpec)

end Rows
end Go.Proofs.Ytikdflppccbdaaa
