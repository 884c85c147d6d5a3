/-
  DERIVED. GIVEN WITH THE SEED: THE CARDS: each row of YtdijkobiffhgcaaGreatDoorRows.lean that lists a variable, with what it lists TIED to the program's text (the seventh form; the later family's looks); each row that meets fmt, with fmt's text TOLD by the authors' own Lean function (tested against real Go, not proved from fmt's source: count such statements apart). THE CARD IS WHAT COUNTS. Prove the row's statement (the work); the ties are given (YtdijkobiffhgcaaGreatDoorTie.lean); close each card by the builder's one call (the guide's Derived/Test/ToyasCard.lean, 'card_holds'). Laid BY PROGRAM, IN A SANDBOX (cutbox-door.mjs). By AI agents, Wed Nov 11 2026. No macro, syntax, notation, axiom, sorry.
-/
import Derived.Test.YtdijkobiffhgcaaGreatDoorRows
import GoSem.ClaimSeven
namespace Go.Proofs.YtdijkobiffhgcaaGreatDoor
namespace Rows

/-- THE TIED CARD OF 'ecmacorelaw1.NumWritten'. -/
def numWrittenCard : Claim7 := { stood := { row := numWrittenRow, standIns := [], harness := (true, "4c8d4b88f94c74cb6303cac13f730380547b96099b0a3248c2809234fc7d3e55"), looks := true }, kinds := [], alts := [], laidByText := true, laidKinds := [.data, .data, .data, .data, .data, .sentinel, .sentinel, .pinned, .pinned, .pinned], laidTests := true, laidLooks := .later }
def NumWrittenCardSaid : Prop := Claim7.holds Tryz.pinned (.plain (OpenSpec.ofChange numWrittenSpec)) numWrittenCard

/-- THE SECOND FORM's CARD OF 'ecmacorelaw1.NumWritten'. -/
def numWrittenUptoCard : Claim7 := { stood := { row := numWrittenUptoRow, standIns := [], harness := (true, "4c8d4b88f94c74cb6303cac13f730380547b96099b0a3248c2809234fc7d3e55"), looks := true }, kinds := [], alts := [], laidByText := true, laidKinds := [.data, .data, .data, .data, .data, .sentinel, .sentinel, .pinned, .pinned, .pinned], laidTests := true, laidLooks := .later }
def NumWrittenUptoCardSaid : Prop := Claim7.holds Tryz.pinned (.plain (OpenSpec.upto numWrittenSpec)) numWrittenUptoCard
end Rows
end Go.Proofs.YtdijkobiffhgcaaGreatDoor
