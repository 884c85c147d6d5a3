/-
  DERIVED. GIVEN WITH THE SEED: THE CARDS: each row of YtdijkobiffhgcaaDoorRows.lean that lists a variable, with what it lists TIED to the program's text (the seventh form; the later family's looks); each row that meets fmt, with fmt's text TOLD by the authors' own Lean function (tested against real Go, not proved from fmt's source: count such statements apart). THE CARD IS WHAT COUNTS. Prove the row's statement (the work); the ties are given (YtdijkobiffhgcaaDoorTie.lean); close each card by the builder's one call (the guide's Derived/Test/ToyasCard.lean, 'card_holds'). Laid BY PROGRAM, IN A SANDBOX (cutbox-door.mjs). By AI agents, Wed Nov 11 2026. No macro, syntax, notation, axiom, sorry.
-/
import Derived.Test.YtdijkobiffhgcaaDoorRows
import GoSem.ClaimSeven
namespace Go.Proofs.YtdijkobiffhgcaaDoor
namespace Rows

/-- THE TIED CARD OF 'ecmacorelaw1.UnitsBack'. -/
def unitsBackCard : Claim7 := { stood := { row := unitsBackRow, standIns := [], harness := (true, "800987871b493804a390d6c2c1af0c9c75a7e910f1655f90af78986cc334229c"), looks := false }, kinds := [], alts := [], laidByText := true, laidKinds := [.data, .pinned], laidTests := true, laidLooks := .later }
def UnitsBackCardSaid : Prop := Claim7.holds Tryd.pinned (.plain (OpenSpec.ofChange unitsBackSpec)) unitsBackCard

/-- THE TIED CARD OF 'ecmacorelaw1.UnitsTurned'. -/
def unitsTurnedCard : Claim7 := { stood := { row := unitsTurnedRow, standIns := [], harness := (true, "800987871b493804a390d6c2c1af0c9c75a7e910f1655f90af78986cc334229c"), looks := false }, kinds := [], alts := [], laidByText := true, laidKinds := [.data, .listed, .pinned, .pinned], laidTests := true, laidLooks := .later }
def UnitsTurnedCardSaid : Prop := Claim7.holds Tryd.pinned (.plain (OpenSpec.ofChange unitsTurnedSpec)) unitsTurnedCard

/-- THE SECOND FORM's CARD OF 'ecmacorelaw1.UnitsBack'. -/
def unitsBackUptoCard : Claim7 := { stood := { row := unitsBackUptoRow, standIns := [], harness := (true, "800987871b493804a390d6c2c1af0c9c75a7e910f1655f90af78986cc334229c"), looks := false }, kinds := [], alts := [], laidByText := true, laidKinds := [.data, .pinned], laidTests := true, laidLooks := .later }
def UnitsBackUptoCardSaid : Prop := Claim7.holds Tryd.pinned (.plain (OpenSpec.upto unitsBackSpec)) unitsBackUptoCard

/-- THE SECOND FORM's CARD OF 'ecmacorelaw1.UnitsTurned'. -/
def unitsTurnedUptoCard : Claim7 := { stood := { row := unitsTurnedUptoRow, standIns := [], harness := (true, "800987871b493804a390d6c2c1af0c9c75a7e910f1655f90af78986cc334229c"), looks := false }, kinds := [], alts := [], laidByText := true, laidKinds := [.data, .listed, .pinned, .pinned], laidTests := true, laidLooks := .later }
def UnitsTurnedUptoCardSaid : Prop := Claim7.holds Tryd.pinned (.plain (OpenSpec.upto unitsTurnedSpec)) unitsTurnedUptoCard
end Rows
end Go.Proofs.YtdijkobiffhgcaaDoor
