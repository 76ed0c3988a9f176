/-
  DERIVED. GIVEN WITH THE SEED: THE CARDS: each row of YthigibfnpfamdaaDoorRows.lean that lists a variable, with what it lists TIED to the program's text (the seventh form; the later family's looks); each row that meets fmt, with fmt's text TOLD by the authors' own Lean function (tested against real Go, not proved from fmt's source: count such statements apart). THE CARD IS WHAT COUNTS. Prove the row's statement (the work); the ties are given (YthigibfnpfamdaaDoorTie.lean); close each card by the builder's one call (the guide's Derived/Test/ToyasCard.lean, 'card_holds'). Laid BY PROGRAM, IN A SANDBOX (cutbox-door.mjs). By AI agents, Wed Nov 11 2026. No macro, syntax, notation, axiom, sorry.
-/
import Derived.Test.YthigibfnpfamdaaDoorRows
import GoSem.ClaimSeven
namespace Go.Proofs.YthigibfnpfamdaaDoor
namespace Rows

/-- THE TIED CARD OF 'linnetlaw12.LineParts'. -/
def linePartsCard : Claim7 := { stood := { row := linePartsRow, standIns := [], harness := (true, "5b599de2373f0fe81623c6cae80c50b4c2e809a16017254298f6f5d17e71bf02"), looks := false }, kinds := [], alts := [], laidByText := true, laidKinds := [.data, .pinned], laidTests := true, laidLooks := .later }
def LinePartsCardSaid : Prop := Claim7.holds Tryd.pinned (.plain (OpenSpec.ofChange linePartsSpec)) linePartsCard

/-- THE TIED CARD OF 'linnetlaw12.LineMoves'. -/
def lineMovesCard : Claim7 := { stood := { row := lineMovesRow, standIns := [], harness := (true, "5b599de2373f0fe81623c6cae80c50b4c2e809a16017254298f6f5d17e71bf02"), looks := false }, kinds := [], alts := [], laidByText := true, laidKinds := [.data, .pinned], laidTests := true, laidLooks := .later }
def LineMovesCardSaid : Prop := Claim7.holds Tryd.pinned (.plain (OpenSpec.ofChange lineMovesSpec)) lineMovesCard

/-- THE TIED CARD OF 'linnetlaw12.LineKeeps'. -/
def lineKeepsCard : Claim7 := { stood := { row := lineKeepsRow, standIns := [], harness := (true, "5b599de2373f0fe81623c6cae80c50b4c2e809a16017254298f6f5d17e71bf02"), looks := false }, kinds := [], alts := [], laidByText := true, laidKinds := [.data, .pinned], laidTests := true, laidLooks := .later }
def LineKeepsCardSaid : Prop := Claim7.holds Tryd.pinned (.plain (OpenSpec.ofChange lineKeepsSpec)) lineKeepsCard

/-- THE TIED CARD OF 'linnetlaw12.LineWords'. -/
def lineWordsCard : Claim7 := { stood := { row := lineWordsRow, standIns := [], harness := (true, "5b599de2373f0fe81623c6cae80c50b4c2e809a16017254298f6f5d17e71bf02"), looks := false }, kinds := [], alts := [], laidByText := true, laidKinds := [.data, .pinned], laidTests := true, laidLooks := .later }
def LineWordsCardSaid : Prop := Claim7.holds Tryd.pinned (.plain (OpenSpec.ofChange lineWordsSpec)) lineWordsCard

/-- THE TIED CARD OF 'linnetlaw12.LineTells'. -/
def lineTellsCard : Claim7 := { stood := { row := lineTellsRow, standIns := [], harness := (true, "5b599de2373f0fe81623c6cae80c50b4c2e809a16017254298f6f5d17e71bf02"), looks := false }, kinds := [], alts := [], laidByText := true, laidKinds := [.data, .pinned], laidTests := true, laidLooks := .later }
def LineTellsCardSaid : Prop := Claim7.holds Tryd.pinned (.plain (OpenSpec.ofChange lineTellsSpec)) lineTellsCard

/-- THE TIED CARD OF 'linnetlaw12.LineStays'. -/
def lineStaysCard : Claim7 := { stood := { row := lineStaysRow, standIns := [], harness := (true, "5b599de2373f0fe81623c6cae80c50b4c2e809a16017254298f6f5d17e71bf02"), looks := false }, kinds := [], alts := [], laidByText := true, laidKinds := [.data, .pinned], laidTests := true, laidLooks := .later }
def LineStaysCardSaid : Prop := Claim7.holds Tryd.pinned (.plain (OpenSpec.ofChange lineStaysSpec)) lineStaysCard

/-- THE TIED CARD OF 'linnetlaw12.LineBack'. -/
def lineBackCard : Claim7 := { stood := { row := lineBackRow, standIns := [], harness := (true, "5b599de2373f0fe81623c6cae80c50b4c2e809a16017254298f6f5d17e71bf02"), looks := false }, kinds := [], alts := [], laidByText := true, laidKinds := [.data, .pinned], laidTests := true, laidLooks := .later }
def LineBackCardSaid : Prop := Claim7.holds Tryd.pinned (.plain (OpenSpec.ofChange lineBackSpec)) lineBackCard

/-- THE SECOND FORM's CARD OF 'linnetlaw12.LineParts'. -/
def linePartsUptoCard : Claim7 := { stood := { row := linePartsUptoRow, standIns := [], harness := (true, "5b599de2373f0fe81623c6cae80c50b4c2e809a16017254298f6f5d17e71bf02"), looks := false }, kinds := [], alts := [], laidByText := true, laidKinds := [.data, .pinned], laidTests := true, laidLooks := .later }
def LinePartsUptoCardSaid : Prop := Claim7.holds Tryd.pinned (.plain (OpenSpec.upto linePartsSpec)) linePartsUptoCard

/-- THE SECOND FORM's CARD OF 'linnetlaw12.LineMoves'. -/
def lineMovesUptoCard : Claim7 := { stood := { row := lineMovesUptoRow, standIns := [], harness := (true, "5b599de2373f0fe81623c6cae80c50b4c2e809a16017254298f6f5d17e71bf02"), looks := false }, kinds := [], alts := [], laidByText := true, laidKinds := [.data, .pinned], laidTests := true, laidLooks := .later }
def LineMovesUptoCardSaid : Prop := Claim7.holds Tryd.pinned (.plain (OpenSpec.upto lineMovesSpec)) lineMovesUptoCard

/-- THE SECOND FORM's CARD OF 'linnetlaw12.LineKeeps'. -/
def lineKeepsUptoCard : Claim7 := { stood := { row := lineKeepsUptoRow, standIns := [], harness := (true, "5b599de2373f0fe81623c6cae80c50b4c2e809a16017254298f6f5d17e71bf02"), looks := false }, kinds := [], alts := [], laidByText := true, laidKinds := [.data, .pinned], laidTests := true, laidLooks := .later }
def LineKeepsUptoCardSaid : Prop := Claim7.holds Tryd.pinned (.plain (OpenSpec.upto lineKeepsSpec)) lineKeepsUptoCard

/-- THE SECOND FORM's CARD OF 'linnetlaw12.LineWords'. -/
def lineWordsUptoCard : Claim7 := { stood := { row := lineWordsUptoRow, standIns := [], harness := (true, "5b599de2373f0fe81623c6cae80c50b4c2e809a16017254298f6f5d17e71bf02"), looks := false }, kinds := [], alts := [], laidByText := true, laidKinds := [.data, .pinned], laidTests := true, laidLooks := .later }
def LineWordsUptoCardSaid : Prop := Claim7.holds Tryd.pinned (.plain (OpenSpec.upto lineWordsSpec)) lineWordsUptoCard

/-- THE SECOND FORM's CARD OF 'linnetlaw12.LineTells'. -/
def lineTellsUptoCard : Claim7 := { stood := { row := lineTellsUptoRow, standIns := [], harness := (true, "5b599de2373f0fe81623c6cae80c50b4c2e809a16017254298f6f5d17e71bf02"), looks := false }, kinds := [], alts := [], laidByText := true, laidKinds := [.data, .pinned], laidTests := true, laidLooks := .later }
def LineTellsUptoCardSaid : Prop := Claim7.holds Tryd.pinned (.plain (OpenSpec.upto lineTellsSpec)) lineTellsUptoCard

/-- THE SECOND FORM's CARD OF 'linnetlaw12.LineStays'. -/
def lineStaysUptoCard : Claim7 := { stood := { row := lineStaysUptoRow, standIns := [], harness := (true, "5b599de2373f0fe81623c6cae80c50b4c2e809a16017254298f6f5d17e71bf02"), looks := false }, kinds := [], alts := [], laidByText := true, laidKinds := [.data, .pinned], laidTests := true, laidLooks := .later }
def LineStaysUptoCardSaid : Prop := Claim7.holds Tryd.pinned (.plain (OpenSpec.upto lineStaysSpec)) lineStaysUptoCard

/-- THE SECOND FORM's CARD OF 'linnetlaw12.LineBack'. -/
def lineBackUptoCard : Claim7 := { stood := { row := lineBackUptoRow, standIns := [], harness := (true, "5b599de2373f0fe81623c6cae80c50b4c2e809a16017254298f6f5d17e71bf02"), looks := false }, kinds := [], alts := [], laidByText := true, laidKinds := [.data, .pinned], laidTests := true, laidLooks := .later }
def LineBackUptoCardSaid : Prop := Claim7.holds Tryd.pinned (.plain (OpenSpec.upto lineBackSpec)) lineBackUptoCard
end Rows
end Go.Proofs.YthigibfnpfamdaaDoor
