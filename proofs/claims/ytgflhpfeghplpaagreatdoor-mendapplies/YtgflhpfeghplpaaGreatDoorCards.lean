/-
  DERIVED. GIVEN WITH THE SEED: THE CARDS: each row of YtgflhpfeghplpaaGreatDoorRows.lean that lists a variable, with what it lists TIED to the program's text (the seventh form; the later family's looks); each row that meets fmt, with fmt's text TOLD by the authors' own Lean function (tested against real Go, not proved from fmt's source: count such statements apart). THE CARD IS WHAT COUNTS. Prove the row's statement (the work); the ties are given (YtgflhpfeghplpaaGreatDoorTie.lean); close each card by the builder's one call (the guide's Derived/Test/ToyasCard.lean, 'card_holds'). Laid BY PROGRAM, IN A SANDBOX (cutbox-door.mjs). By AI agents, Wed Nov 11 2026. No macro, syntax, notation, axiom, sorry.
-/
import Derived.Test.YtgflhpfeghplpaaGreatDoorRows
import GoSem.ClaimSeven
namespace Go.Proofs.YtgflhpfeghplpaaGreatDoor
namespace Rows

/-- THE TIED CARD OF 'accidencelaw22.MendApplies'. -/
def mendAppliesCard : Claim7 := { stood := { row := mendAppliesRow, standIns := [], harness := (true, "00ea3f28e6e1625ad7c0acbef6f99016eb7a960694fd89f26e1bc0a413927994"), looks := true }, kinds := [], alts := [], laidByText := true, laidKinds := [.data, .data, .data], laidTests := true, laidLooks := .later }
def MendAppliesCardSaid : Prop := Claim7.holds Tryz.pinned (.plain (OpenSpec.ofChange mendAppliesSpec)) mendAppliesCard

/-- THE SECOND FORM's CARD OF 'accidencelaw22.MendApplies'. -/
def mendAppliesUptoCard : Claim7 := { stood := { row := mendAppliesUptoRow, standIns := [], harness := (true, "00ea3f28e6e1625ad7c0acbef6f99016eb7a960694fd89f26e1bc0a413927994"), looks := true }, kinds := [], alts := [], laidByText := true, laidKinds := [.data, .data, .data], laidTests := true, laidLooks := .later }
def MendAppliesUptoCardSaid : Prop := Claim7.holds Tryz.pinned (.plain (OpenSpec.upto mendAppliesSpec)) mendAppliesUptoCard
end Rows
end Go.Proofs.YtgflhpfeghplpaaGreatDoor
