/-
  DERIVED. GIVEN WITH THE SEED: THE CARDS: each row of YtnofeblcnamfeaaDoorRows.lean that lists a variable, with what it lists TIED to the program's text (the seventh form; the later family's looks); each row that meets fmt, with fmt's text TOLD by the authors' own Lean function (tested against real Go, not proved from fmt's source: count such statements apart). THE CARD IS WHAT COUNTS. Prove the row's statement (the work); the ties are given (YtnofeblcnamfeaaDoorTie.lean); close each card by the builder's one call (the guide's Derived/Test/ToyasCard.lean, 'card_holds'). Laid BY PROGRAM, IN A SANDBOX (cutbox-door.mjs). By AI agents, Wed Nov 11 2026. No macro, syntax, notation, axiom, sorry.
-/
import Derived.Test.YtnofeblcnamfeaaDoorRows
import GoSem.ClaimSeven
namespace Go.Proofs.YtnofeblcnamfeaaDoor
namespace Rows

/-- THE TIED CARD OF 'lockagelaw17.ClockNil'. -/
def clockNilCard : Claim7 := { stood := { row := clockNilRow, standIns := [], harness := (true, "056b74e54a6f9a340bc45c81b629e58aa76570416cd2cc9860b0cb5acfa46c56"), looks := true }, kinds := [], alts := [], laidByText := true, laidKinds := [.data, .data, .data, .data, .sentinel, .sentinel, .pinned], laidTests := true, laidLooks := .later }
def ClockNilCardSaid : Prop := Claim7.holds Tryd.pinned (.plain (OpenSpec.ofChange clockNilSpec)) clockNilCard

/-- THE TIED CARD OF 'lockagelaw17.ClockPlays'. -/
def clockPlaysCard : Claim7 := { stood := { row := clockPlaysRow, standIns := [], harness := (true, "056b74e54a6f9a340bc45c81b629e58aa76570416cd2cc9860b0cb5acfa46c56"), looks := true }, kinds := [], alts := [], laidByText := true, laidKinds := [.data, .data, .data, .data, .sentinel, .sentinel, .pinned], laidTests := true, laidLooks := .later }
def ClockPlaysCardSaid : Prop := Claim7.holds Tryd.pinned (.plain (OpenSpec.ofChange clockPlaysSpec)) clockPlaysCard

/-- THE SECOND FORM's CARD OF 'lockagelaw17.ClockNil'. -/
def clockNilUptoCard : Claim7 := { stood := { row := clockNilUptoRow, standIns := [], harness := (true, "056b74e54a6f9a340bc45c81b629e58aa76570416cd2cc9860b0cb5acfa46c56"), looks := true }, kinds := [], alts := [], laidByText := true, laidKinds := [.data, .data, .data, .data, .sentinel, .sentinel, .pinned], laidTests := true, laidLooks := .later }
def ClockNilUptoCardSaid : Prop := Claim7.holds Tryd.pinned (.plain (OpenSpec.upto clockNilSpec)) clockNilUptoCard

/-- THE SECOND FORM's CARD OF 'lockagelaw17.ClockPlays'. -/
def clockPlaysUptoCard : Claim7 := { stood := { row := clockPlaysUptoRow, standIns := [], harness := (true, "056b74e54a6f9a340bc45c81b629e58aa76570416cd2cc9860b0cb5acfa46c56"), looks := true }, kinds := [], alts := [], laidByText := true, laidKinds := [.data, .data, .data, .data, .sentinel, .sentinel, .pinned], laidTests := true, laidLooks := .later }
def ClockPlaysUptoCardSaid : Prop := Claim7.holds Tryd.pinned (.plain (OpenSpec.upto clockPlaysSpec)) clockPlaysUptoCard
end Rows
end Go.Proofs.YtnofeblcnamfeaaDoor
