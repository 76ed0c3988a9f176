/-
  DERIVED. GIVEN WITH THE SEED: THE CARDS: each row of YtblmdlhdfiafgaaDoorRows.lean that lists a variable, with what it lists TIED to the program's text (the seventh form; the later family's looks); each row that meets fmt, with fmt's text TOLD by the authors' own Lean function (tested against real Go, not proved from fmt's source: count such statements apart). THE CARD IS WHAT COUNTS. Prove the row's statement (the work); the ties are given (YtblmdlhdfiafgaaDoorTie.lean); close each card by the builder's one call (the guide's Derived/Test/ToyasCard.lean, 'card_holds'). Laid BY PROGRAM, IN A SANDBOX (cutbox-door.mjs). By AI agents, Wed Nov 11 2026. No macro, syntax, notation, axiom, sorry.
-/
import Derived.Test.YtblmdlhdfiafgaaDoorRows
import GoSem.ClaimSeven
namespace Go.Proofs.YtblmdlhdfiafgaaDoor
namespace Rows

/-- THE TIED CARD OF 'linnetlaw07.SlcBack'. -/
def slcBackCard : Claim7 := { stood := { row := slcBackRow, standIns := [], harness := (true, "4f647996cb3ef1714ce49678bb50a79a847f6fe3a16cfa8ba680a11a3fd92814"), looks := false }, kinds := [], alts := [], laidByText := true, laidKinds := [.data], laidTests := true, laidLooks := .later }
def SlcBackCardSaid : Prop := Claim7.holds Tryd.pinned (.plain (OpenSpec.ofChange slcBackSpec)) slcBackCard

/-- THE TIED CARD OF 'linnetlaw07.SlcParts'. -/
def slcPartsCard : Claim7 := { stood := { row := slcPartsRow, standIns := [], harness := (true, "4f647996cb3ef1714ce49678bb50a79a847f6fe3a16cfa8ba680a11a3fd92814"), looks := false }, kinds := [], alts := [], laidByText := true, laidKinds := [.data], laidTests := true, laidLooks := .later }
def SlcPartsCardSaid : Prop := Claim7.holds Tryd.pinned (.plain (OpenSpec.ofChange slcPartsSpec)) slcPartsCard

/-- THE TIED CARD OF 'linnetlaw07.SlcMarks'. -/
def slcMarksCard : Claim7 := { stood := { row := slcMarksRow, standIns := [], harness := (true, "4f647996cb3ef1714ce49678bb50a79a847f6fe3a16cfa8ba680a11a3fd92814"), looks := false }, kinds := [], alts := [], laidByText := true, laidKinds := [.data], laidTests := true, laidLooks := .later }
def SlcMarksCardSaid : Prop := Claim7.holds Tryd.pinned (.plain (OpenSpec.ofChange slcMarksSpec)) slcMarksCard

/-- THE TIED CARD OF 'linnetlaw07.SlcAlone'. -/
def slcAloneCard : Claim7 := { stood := { row := slcAloneRow, standIns := [], harness := (true, "4f647996cb3ef1714ce49678bb50a79a847f6fe3a16cfa8ba680a11a3fd92814"), looks := false }, kinds := [], alts := [], laidByText := true, laidKinds := [.data], laidTests := true, laidLooks := .later }
def SlcAloneCardSaid : Prop := Claim7.holds Tryd.pinned (.plain (OpenSpec.ofChange slcAloneSpec)) slcAloneCard

/-- THE TIED CARD OF 'linnetlaw07.SlcTells'. -/
def slcTellsCard : Claim7 := { stood := { row := slcTellsRow, standIns := [], harness := (true, "4f647996cb3ef1714ce49678bb50a79a847f6fe3a16cfa8ba680a11a3fd92814"), looks := false }, kinds := [], alts := [], laidByText := true, laidKinds := [.data], laidTests := true, laidLooks := .later }
def SlcTellsCardSaid : Prop := Claim7.holds Tryd.pinned (.plain (OpenSpec.ofChange slcTellsSpec)) slcTellsCard

/-- THE TIED CARD OF 'linnetlaw07.SlcSignals'. -/
def slcSignalsCard : Claim7 := { stood := { row := slcSignalsRow, standIns := [], harness := (true, "4f647996cb3ef1714ce49678bb50a79a847f6fe3a16cfa8ba680a11a3fd92814"), looks := false }, kinds := [], alts := [], laidByText := true, laidKinds := [.data], laidTests := true, laidLooks := .later }
def SlcSignalsCardSaid : Prop := Claim7.holds Tryd.pinned (.plain (OpenSpec.ofChange slcSignalsSpec)) slcSignalsCard

/-- THE SECOND FORM's CARD OF 'linnetlaw07.SlcBack'. -/
def slcBackUptoCard : Claim7 := { stood := { row := slcBackUptoRow, standIns := [], harness := (true, "4f647996cb3ef1714ce49678bb50a79a847f6fe3a16cfa8ba680a11a3fd92814"), looks := false }, kinds := [], alts := [], laidByText := true, laidKinds := [.data], laidTests := true, laidLooks := .later }
def SlcBackUptoCardSaid : Prop := Claim7.holds Tryd.pinned (.plain (OpenSpec.upto slcBackSpec)) slcBackUptoCard

/-- THE SECOND FORM's CARD OF 'linnetlaw07.SlcParts'. -/
def slcPartsUptoCard : Claim7 := { stood := { row := slcPartsUptoRow, standIns := [], harness := (true, "4f647996cb3ef1714ce49678bb50a79a847f6fe3a16cfa8ba680a11a3fd92814"), looks := false }, kinds := [], alts := [], laidByText := true, laidKinds := [.data], laidTests := true, laidLooks := .later }
def SlcPartsUptoCardSaid : Prop := Claim7.holds Tryd.pinned (.plain (OpenSpec.upto slcPartsSpec)) slcPartsUptoCard

/-- THE SECOND FORM's CARD OF 'linnetlaw07.SlcMarks'. -/
def slcMarksUptoCard : Claim7 := { stood := { row := slcMarksUptoRow, standIns := [], harness := (true, "4f647996cb3ef1714ce49678bb50a79a847f6fe3a16cfa8ba680a11a3fd92814"), looks := false }, kinds := [], alts := [], laidByText := true, laidKinds := [.data], laidTests := true, laidLooks := .later }
def SlcMarksUptoCardSaid : Prop := Claim7.holds Tryd.pinned (.plain (OpenSpec.upto slcMarksSpec)) slcMarksUptoCard

/-- THE SECOND FORM's CARD OF 'linnetlaw07.SlcAlone'. -/
def slcAloneUptoCard : Claim7 := { stood := { row := slcAloneUptoRow, standIns := [], harness := (true, "4f647996cb3ef1714ce49678bb50a79a847f6fe3a16cfa8ba680a11a3fd92814"), looks := false }, kinds := [], alts := [], laidByText := true, laidKinds := [.data], laidTests := true, laidLooks := .later }
def SlcAloneUptoCardSaid : Prop := Claim7.holds Tryd.pinned (.plain (OpenSpec.upto slcAloneSpec)) slcAloneUptoCard

/-- THE SECOND FORM's CARD OF 'linnetlaw07.SlcTells'. -/
def slcTellsUptoCard : Claim7 := { stood := { row := slcTellsUptoRow, standIns := [], harness := (true, "4f647996cb3ef1714ce49678bb50a79a847f6fe3a16cfa8ba680a11a3fd92814"), looks := false }, kinds := [], alts := [], laidByText := true, laidKinds := [.data], laidTests := true, laidLooks := .later }
def SlcTellsUptoCardSaid : Prop := Claim7.holds Tryd.pinned (.plain (OpenSpec.upto slcTellsSpec)) slcTellsUptoCard

/-- THE SECOND FORM's CARD OF 'linnetlaw07.SlcSignals'. -/
def slcSignalsUptoCard : Claim7 := { stood := { row := slcSignalsUptoRow, standIns := [], harness := (true, "4f647996cb3ef1714ce49678bb50a79a847f6fe3a16cfa8ba680a11a3fd92814"), looks := false }, kinds := [], alts := [], laidByText := true, laidKinds := [.data], laidTests := true, laidLooks := .later }
def SlcSignalsUptoCardSaid : Prop := Claim7.holds Tryd.pinned (.plain (OpenSpec.upto slcSignalsSpec)) slcSignalsUptoCard
end Rows
end Go.Proofs.YtblmdlhdfiafgaaDoor
