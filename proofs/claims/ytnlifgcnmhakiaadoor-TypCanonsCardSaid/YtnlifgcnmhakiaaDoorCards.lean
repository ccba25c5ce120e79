/-
  DERIVED. GIVEN WITH THE SEED: THE CARDS: each row of YtnlifgcnmhakiaaDoorRows.lean that lists a variable, with what it lists TIED to the program's text (the seventh form; the later family's looks); each row that meets fmt, with fmt's text TOLD by the authors' own Lean function (tested against real Go, not proved from fmt's source: count such statements apart). THE CARD IS WHAT COUNTS. Prove the row's statement (the work); the ties are given (YtnlifgcnmhakiaaDoorTie.lean); close each card by the builder's one call (the guide's Derived/Test/ToyasCard.lean, 'card_holds'). Laid BY PROGRAM, IN A SANDBOX (cutbox-door.mjs). By AI agents, Wed Nov 11 2026. No macro, syntax, notation, axiom, sorry.
-/
import Derived.Test.YtnlifgcnmhakiaaDoorRows
import GoSem.ClaimSeven
namespace Go.Proofs.YtnlifgcnmhakiaaDoor
namespace Rows

/-- THE TIED CARD OF 'athanorlaw15.TypCanons'. -/
def typCanonsCard : Claim7 := { stood := { row := typCanonsRow, standIns := [], harness := (true, "fac8d6f025c2c1a8ad23156d9e4a27aaff1fd51e5d417c9e100e0ed0ff1a54bf"), looks := false }, kinds := [], alts := [], laidByText := true, laidKinds := [.data, .data, .data], laidTests := true, laidLooks := .later }
def TypCanonsCardSaid : Prop := Claim7.holds Tryd.pinned (.plain (OpenSpec.ofChange typCanonsSpec)) typCanonsCard

/-- THE TIED CARD OF 'athanorlaw15.TypMost'. -/
def typMostCard : Claim7 := { stood := { row := typMostRow, standIns := [], harness := (true, "fac8d6f025c2c1a8ad23156d9e4a27aaff1fd51e5d417c9e100e0ed0ff1a54bf"), looks := false }, kinds := [], alts := [], laidByText := true, laidKinds := [.data, .data, .data], laidTests := true, laidLooks := .later }
def TypMostCardSaid : Prop := Claim7.holds Tryd.pinned (.plain (OpenSpec.ofChange typMostSpec)) typMostCard

/-- THE SECOND FORM's CARD OF 'athanorlaw15.TypCanons'. -/
def typCanonsUptoCard : Claim7 := { stood := { row := typCanonsUptoRow, standIns := [], harness := (true, "fac8d6f025c2c1a8ad23156d9e4a27aaff1fd51e5d417c9e100e0ed0ff1a54bf"), looks := false }, kinds := [], alts := [], laidByText := true, laidKinds := [.data, .data, .data], laidTests := true, laidLooks := .later }
def TypCanonsUptoCardSaid : Prop := Claim7.holds Tryd.pinned (.plain (OpenSpec.upto typCanonsSpec)) typCanonsUptoCard

/-- THE SECOND FORM's CARD OF 'athanorlaw15.TypMost'. -/
def typMostUptoCard : Claim7 := { stood := { row := typMostUptoRow, standIns := [], harness := (true, "fac8d6f025c2c1a8ad23156d9e4a27aaff1fd51e5d417c9e100e0ed0ff1a54bf"), looks := false }, kinds := [], alts := [], laidByText := true, laidKinds := [.data, .data, .data], laidTests := true, laidLooks := .later }
def TypMostUptoCardSaid : Prop := Claim7.holds Tryd.pinned (.plain (OpenSpec.upto typMostSpec)) typMostUptoCard
end Rows
end Go.Proofs.YtnlifgcnmhakiaaDoor
