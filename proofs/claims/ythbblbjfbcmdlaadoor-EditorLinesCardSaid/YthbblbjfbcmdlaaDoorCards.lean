/-
  DERIVED. GIVEN WITH THE SEED: THE CARDS: each row of YthbblbjfbcmdlaaDoorRows.lean that lists a variable, with what it lists TIED to the program's text (the seventh form; the later family's looks); each row that meets fmt, with fmt's text TOLD by the authors' own Lean function (tested against real Go, not proved from fmt's source: count such statements apart). THE CARD IS WHAT COUNTS. Prove the row's statement (the work); the ties are given (YthbblbjfbcmdlaaDoorTie.lean); close each card by the builder's one call (the guide's Derived/Test/ToyasCard.lean, 'card_holds'). Laid BY PROGRAM, IN A SANDBOX (cutbox-door.mjs). By AI agents, Wed Nov 11 2026. No macro, syntax, notation, axiom, sorry.
-/
import Derived.Test.YthbblbjfbcmdlaaDoorRows
import GoSem.ClaimSeven
namespace Go.Proofs.YthbblbjfbcmdlaaDoor
namespace Rows

/-- THE TIED CARD OF 'linnetlaw13.EditorGoes'. -/
def editorGoesCard : Claim7 := { stood := { row := editorGoesRow, standIns := [], harness := (true, "ea91df7e39aa585ac3090fff00eb52109ed1c07cb96b7033d90c02d920b5c016"), looks := false }, kinds := [], alts := [], laidByText := true, laidKinds := [.data, .data, .pinned], laidTests := true, laidLooks := .later }
def EditorGoesCardSaid : Prop := Claim7.holds Tryd.pinned (.plain (OpenSpec.ofChange editorGoesSpec)) editorGoesCard

/-- THE TIED CARD OF 'linnetlaw13.EditorOne'. -/
def editorOneCard : Claim7 := { stood := { row := editorOneRow, standIns := [], harness := (true, "ea91df7e39aa585ac3090fff00eb52109ed1c07cb96b7033d90c02d920b5c016"), looks := false }, kinds := [], alts := [], laidByText := true, laidKinds := [.data, .data, .pinned], laidTests := true, laidLooks := .later }
def EditorOneCardSaid : Prop := Claim7.holds Tryd.pinned (.plain (OpenSpec.ofChange editorOneSpec)) editorOneCard

/-- THE TIED CARD OF 'linnetlaw13.EditorLit'. -/
def editorLitCard : Claim7 := { stood := { row := editorLitRow, standIns := [], harness := (true, "ea91df7e39aa585ac3090fff00eb52109ed1c07cb96b7033d90c02d920b5c016"), looks := false }, kinds := [], alts := [], laidByText := true, laidKinds := [.data, .data, .pinned], laidTests := true, laidLooks := .later }
def EditorLitCardSaid : Prop := Claim7.holds Tryd.pinned (.plain (OpenSpec.ofChange editorLitSpec)) editorLitCard

/-- THE TIED CARD OF 'linnetlaw13.EditorLines'. -/
def editorLinesCard : Claim7 := { stood := { row := editorLinesRow, standIns := [], harness := (true, "ea91df7e39aa585ac3090fff00eb52109ed1c07cb96b7033d90c02d920b5c016"), looks := false }, kinds := [], alts := [], laidByText := true, laidKinds := [.data, .data, .pinned], laidTests := true, laidLooks := .later }
def EditorLinesCardSaid : Prop := Claim7.holds Tryd.pinned (.plain (OpenSpec.ofChange editorLinesSpec)) editorLinesCard

/-- THE TIED CARD OF 'linnetlaw13.EditorTells'. -/
def editorTellsCard : Claim7 := { stood := { row := editorTellsRow, standIns := [], harness := (true, "ea91df7e39aa585ac3090fff00eb52109ed1c07cb96b7033d90c02d920b5c016"), looks := false }, kinds := [], alts := [], laidByText := true, laidKinds := [.data, .data, .pinned], laidTests := true, laidLooks := .later }
def EditorTellsCardSaid : Prop := Claim7.holds Tryd.pinned (.plain (OpenSpec.ofChange editorTellsSpec)) editorTellsCard

/-- THE TIED CARD OF 'linnetlaw13.EditorSignals'. -/
def editorSignalsCard : Claim7 := { stood := { row := editorSignalsRow, standIns := [], harness := (true, "ea91df7e39aa585ac3090fff00eb52109ed1c07cb96b7033d90c02d920b5c016"), looks := false }, kinds := [], alts := [], laidByText := true, laidKinds := [.data, .data, .pinned], laidTests := true, laidLooks := .later }
def EditorSignalsCardSaid : Prop := Claim7.holds Tryd.pinned (.plain (OpenSpec.ofChange editorSignalsSpec)) editorSignalsCard

/-- THE SECOND FORM's CARD OF 'linnetlaw13.EditorGoes'. -/
def editorGoesUptoCard : Claim7 := { stood := { row := editorGoesUptoRow, standIns := [], harness := (true, "ea91df7e39aa585ac3090fff00eb52109ed1c07cb96b7033d90c02d920b5c016"), looks := false }, kinds := [], alts := [], laidByText := true, laidKinds := [.data, .data, .pinned], laidTests := true, laidLooks := .later }
def EditorGoesUptoCardSaid : Prop := Claim7.holds Tryd.pinned (.plain (OpenSpec.upto editorGoesSpec)) editorGoesUptoCard

/-- THE SECOND FORM's CARD OF 'linnetlaw13.EditorOne'. -/
def editorOneUptoCard : Claim7 := { stood := { row := editorOneUptoRow, standIns := [], harness := (true, "ea91df7e39aa585ac3090fff00eb52109ed1c07cb96b7033d90c02d920b5c016"), looks := false }, kinds := [], alts := [], laidByText := true, laidKinds := [.data, .data, .pinned], laidTests := true, laidLooks := .later }
def EditorOneUptoCardSaid : Prop := Claim7.holds Tryd.pinned (.plain (OpenSpec.upto editorOneSpec)) editorOneUptoCard

/-- THE SECOND FORM's CARD OF 'linnetlaw13.EditorLit'. -/
def editorLitUptoCard : Claim7 := { stood := { row := editorLitUptoRow, standIns := [], harness := (true, "ea91df7e39aa585ac3090fff00eb52109ed1c07cb96b7033d90c02d920b5c016"), looks := false }, kinds := [], alts := [], laidByText := true, laidKinds := [.data, .data, .pinned], laidTests := true, laidLooks := .later }
def EditorLitUptoCardSaid : Prop := Claim7.holds Tryd.pinned (.plain (OpenSpec.upto editorLitSpec)) editorLitUptoCard

/-- THE SECOND FORM's CARD OF 'linnetlaw13.EditorLines'. -/
def editorLinesUptoCard : Claim7 := { stood := { row := editorLinesUptoRow, standIns := [], harness := (true, "ea91df7e39aa585ac3090fff00eb52109ed1c07cb96b7033d90c02d920b5c016"), looks := false }, kinds := [], alts := [], laidByText := true, laidKinds := [.data, .data, .pinned], laidTests := true, laidLooks := .later }
def EditorLinesUptoCardSaid : Prop := Claim7.holds Tryd.pinned (.plain (OpenSpec.upto editorLinesSpec)) editorLinesUptoCard

/-- THE SECOND FORM's CARD OF 'linnetlaw13.EditorTells'. -/
def editorTellsUptoCard : Claim7 := { stood := { row := editorTellsUptoRow, standIns := [], harness := (true, "ea91df7e39aa585ac3090fff00eb52109ed1c07cb96b7033d90c02d920b5c016"), looks := false }, kinds := [], alts := [], laidByText := true, laidKinds := [.data, .data, .pinned], laidTests := true, laidLooks := .later }
def EditorTellsUptoCardSaid : Prop := Claim7.holds Tryd.pinned (.plain (OpenSpec.upto editorTellsSpec)) editorTellsUptoCard

/-- THE SECOND FORM's CARD OF 'linnetlaw13.EditorSignals'. -/
def editorSignalsUptoCard : Claim7 := { stood := { row := editorSignalsUptoRow, standIns := [], harness := (true, "ea91df7e39aa585ac3090fff00eb52109ed1c07cb96b7033d90c02d920b5c016"), looks := false }, kinds := [], alts := [], laidByText := true, laidKinds := [.data, .data, .pinned], laidTests := true, laidLooks := .later }
def EditorSignalsUptoCardSaid : Prop := Claim7.holds Tryd.pinned (.plain (OpenSpec.upto editorSignalsSpec)) editorSignalsUptoCard
end Rows
end Go.Proofs.YthbblbjfbcmdlaaDoor
