/-
  DERIVED. GIVEN WITH THE SEED: THE CARDS: each row of YtkeidnhfahfiiaaDoorRows.lean that lists a variable, with what it lists TIED to the program's text (the seventh form; the later family's looks); each row that meets fmt, with fmt's text TOLD by the authors' own Lean function (tested against real Go, not proved from fmt's source: count such statements apart). THE CARD IS WHAT COUNTS. Prove the row's statement (the work); the ties are given (YtkeidnhfahfiiaaDoorTie.lean); close each card by the builder's one call (the guide's Derived/Test/ToyasCard.lean, 'card_holds'). Laid BY PROGRAM, IN A SANDBOX (cutbox-door.mjs). By AI agents, Wed Nov 11 2026. No macro, syntax, notation, axiom, sorry.
-/
import Derived.Test.YtkeidnhfahfiiaaDoorRows
import GoSem.ClaimSeven
namespace Go.Proofs.YtkeidnhfahfiiaaDoor
namespace Rows

/-- THE TIED CARD OF 'linnetlaw14.RenewTells'. -/
def renewTellsCard : Claim7 := { stood := { row := renewTellsRow, standIns := [], harness := (true, "b047b5e19433b827a0fa60a16b83cd69ad9796f00c6ea7cbd4cdca5b005466e8"), looks := false }, kinds := [], alts := [], laidByText := true, laidKinds := [.data], laidTests := true, laidLooks := .later }
def RenewTellsCardSaid : Prop := Claim7.holds Tryd.pinned (.plain (OpenSpec.ofChange renewTellsSpec)) renewTellsCard

/-- THE TIED CARD OF 'linnetlaw14.RenewLong'. -/
def renewLongCard : Claim7 := { stood := { row := renewLongRow, standIns := [], harness := (true, "b047b5e19433b827a0fa60a16b83cd69ad9796f00c6ea7cbd4cdca5b005466e8"), looks := false }, kinds := [], alts := [], laidByText := true, laidKinds := [.data], laidTests := true, laidLooks := .later }
def RenewLongCardSaid : Prop := Claim7.holds Tryd.pinned (.plain (OpenSpec.ofChange renewLongSpec)) renewLongCard

/-- THE TIED CARD OF 'linnetlaw14.RenewPlain'. -/
def renewPlainCard : Claim7 := { stood := { row := renewPlainRow, standIns := [], harness := (true, "b047b5e19433b827a0fa60a16b83cd69ad9796f00c6ea7cbd4cdca5b005466e8"), looks := false }, kinds := [], alts := [], laidByText := true, laidKinds := [.data, .data, .pinned], laidTests := true, laidLooks := .later }
def RenewPlainCardSaid : Prop := Claim7.holds Tryd.pinned (.plain (OpenSpec.ofChange renewPlainSpec)) renewPlainCard

/-- THE TIED CARD OF 'linnetlaw14.RenewMakes'. -/
def renewMakesCard : Claim7 := { stood := { row := renewMakesRow, standIns := [], harness := (true, "b047b5e19433b827a0fa60a16b83cd69ad9796f00c6ea7cbd4cdca5b005466e8"), looks := false }, kinds := [], alts := [], laidByText := true, laidKinds := [.data, .data, .pinned], laidTests := true, laidLooks := .later }
def RenewMakesCardSaid : Prop := Claim7.holds Tryd.pinned (.plain (OpenSpec.ofChange renewMakesSpec)) renewMakesCard

/-- THE TIED CARD OF 'linnetlaw14.RenewAgain'. -/
def renewAgainCard : Claim7 := { stood := { row := renewAgainRow, standIns := [], harness := (true, "b047b5e19433b827a0fa60a16b83cd69ad9796f00c6ea7cbd4cdca5b005466e8"), looks := false }, kinds := [], alts := [], laidByText := true, laidKinds := [.data, .data, .pinned], laidTests := true, laidLooks := .later }
def RenewAgainCardSaid : Prop := Claim7.holds Tryd.pinned (.plain (OpenSpec.ofChange renewAgainSpec)) renewAgainCard

/-- THE TIED CARD OF 'linnetlaw14.RenewGoes'. -/
def renewGoesCard : Claim7 := { stood := { row := renewGoesRow, standIns := [], harness := (true, "b047b5e19433b827a0fa60a16b83cd69ad9796f00c6ea7cbd4cdca5b005466e8"), looks := false }, kinds := [], alts := [], laidByText := true, laidKinds := [.data, .data, .pinned], laidTests := true, laidLooks := .later }
def RenewGoesCardSaid : Prop := Claim7.holds Tryd.pinned (.plain (OpenSpec.ofChange renewGoesSpec)) renewGoesCard

/-- THE SECOND FORM's CARD OF 'linnetlaw14.RenewTells'. -/
def renewTellsUptoCard : Claim7 := { stood := { row := renewTellsUptoRow, standIns := [], harness := (true, "b047b5e19433b827a0fa60a16b83cd69ad9796f00c6ea7cbd4cdca5b005466e8"), looks := false }, kinds := [], alts := [], laidByText := true, laidKinds := [.data], laidTests := true, laidLooks := .later }
def RenewTellsUptoCardSaid : Prop := Claim7.holds Tryd.pinned (.plain (OpenSpec.upto renewTellsSpec)) renewTellsUptoCard

/-- THE SECOND FORM's CARD OF 'linnetlaw14.RenewLong'. -/
def renewLongUptoCard : Claim7 := { stood := { row := renewLongUptoRow, standIns := [], harness := (true, "b047b5e19433b827a0fa60a16b83cd69ad9796f00c6ea7cbd4cdca5b005466e8"), looks := false }, kinds := [], alts := [], laidByText := true, laidKinds := [.data], laidTests := true, laidLooks := .later }
def RenewLongUptoCardSaid : Prop := Claim7.holds Tryd.pinned (.plain (OpenSpec.upto renewLongSpec)) renewLongUptoCard

/-- THE SECOND FORM's CARD OF 'linnetlaw14.RenewPlain'. -/
def renewPlainUptoCard : Claim7 := { stood := { row := renewPlainUptoRow, standIns := [], harness := (true, "b047b5e19433b827a0fa60a16b83cd69ad9796f00c6ea7cbd4cdca5b005466e8"), looks := false }, kinds := [], alts := [], laidByText := true, laidKinds := [.data, .data, .pinned], laidTests := true, laidLooks := .later }
def RenewPlainUptoCardSaid : Prop := Claim7.holds Tryd.pinned (.plain (OpenSpec.upto renewPlainSpec)) renewPlainUptoCard

/-- THE SECOND FORM's CARD OF 'linnetlaw14.RenewMakes'. -/
def renewMakesUptoCard : Claim7 := { stood := { row := renewMakesUptoRow, standIns := [], harness := (true, "b047b5e19433b827a0fa60a16b83cd69ad9796f00c6ea7cbd4cdca5b005466e8"), looks := false }, kinds := [], alts := [], laidByText := true, laidKinds := [.data, .data, .pinned], laidTests := true, laidLooks := .later }
def RenewMakesUptoCardSaid : Prop := Claim7.holds Tryd.pinned (.plain (OpenSpec.upto renewMakesSpec)) renewMakesUptoCard

/-- THE SECOND FORM's CARD OF 'linnetlaw14.RenewAgain'. -/
def renewAgainUptoCard : Claim7 := { stood := { row := renewAgainUptoRow, standIns := [], harness := (true, "b047b5e19433b827a0fa60a16b83cd69ad9796f00c6ea7cbd4cdca5b005466e8"), looks := false }, kinds := [], alts := [], laidByText := true, laidKinds := [.data, .data, .pinned], laidTests := true, laidLooks := .later }
def RenewAgainUptoCardSaid : Prop := Claim7.holds Tryd.pinned (.plain (OpenSpec.upto renewAgainSpec)) renewAgainUptoCard

/-- THE SECOND FORM's CARD OF 'linnetlaw14.RenewGoes'. -/
def renewGoesUptoCard : Claim7 := { stood := { row := renewGoesUptoRow, standIns := [], harness := (true, "b047b5e19433b827a0fa60a16b83cd69ad9796f00c6ea7cbd4cdca5b005466e8"), looks := false }, kinds := [], alts := [], laidByText := true, laidKinds := [.data, .data, .pinned], laidTests := true, laidLooks := .later }
def RenewGoesUptoCardSaid : Prop := Claim7.holds Tryd.pinned (.plain (OpenSpec.upto renewGoesSpec)) renewGoesUptoCard
end Rows
end Go.Proofs.YtkeidnhfahfiiaaDoor
