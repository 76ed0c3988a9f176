/-
  DERIVED. GIVEN WITH THE SEED: THE CARDS: each row of YtmkblhinpnodaaaDoorRows.lean that lists a variable, with what it lists TIED to the program's text (the seventh form; the later family's looks); each row that meets fmt, with fmt's text TOLD by the authors' own Lean function (tested against real Go, not proved from fmt's source: count such statements apart). THE CARD IS WHAT COUNTS. Prove the row's statement (the work); the ties are given (YtmkblhinpnodaaaDoorTie.lean); close each card by the builder's one call (the guide's Derived/Test/ToyasCard.lean, 'card_holds'). Laid BY PROGRAM, IN A SANDBOX (cutbox-door.mjs). By AI agents, Wed Nov 11 2026. No macro, syntax, notation, axiom, sorry.
-/
import Derived.Test.YtmkblhinpnodaaaDoorRows
import GoSem.ClaimSeven
namespace Go.Proofs.YtmkblhinpnodaaaDoor
namespace Rows

/-- THE TIED CARD OF 'linnetlaw15.TalkQuiet'. -/
def talkQuietCard : Claim7 := { stood := { row := talkQuietRow, standIns := [], harness := (true, "5205a1901e82548d8be79ffbdfe3f4a8ddf87e57a098756a03548ec1b341e8b0"), looks := false }, kinds := [], alts := [], laidByText := true, laidKinds := [.data, .data, .pinned], laidTests := true, laidLooks := .later }
def TalkQuietCardSaid : Prop := Claim7.holds Tryd.pinned (.plain (OpenSpec.ofChange talkQuietSpec)) talkQuietCard

/-- THE TIED CARD OF 'linnetlaw15.TalkLines'. -/
def talkLinesCard : Claim7 := { stood := { row := talkLinesRow, standIns := [], harness := (true, "5205a1901e82548d8be79ffbdfe3f4a8ddf87e57a098756a03548ec1b341e8b0"), looks := false }, kinds := [], alts := [], laidByText := true, laidKinds := [.data, .data, .pinned], laidTests := true, laidLooks := .later }
def TalkLinesCardSaid : Prop := Claim7.holds Tryd.pinned (.plain (OpenSpec.ofChange talkLinesSpec)) talkLinesCard

/-- THE TIED CARD OF 'linnetlaw15.TalkTells'. -/
def talkTellsCard : Claim7 := { stood := { row := talkTellsRow, standIns := [], harness := (true, "5205a1901e82548d8be79ffbdfe3f4a8ddf87e57a098756a03548ec1b341e8b0"), looks := false }, kinds := [], alts := [], laidByText := true, laidKinds := [.data, .data, .pinned], laidTests := true, laidLooks := .later }
def TalkTellsCardSaid : Prop := Claim7.holds Tryd.pinned (.plain (OpenSpec.ofChange talkTellsSpec)) talkTellsCard

/-- THE TIED CARD OF 'linnetlaw15.TalkPass'. -/
def talkPassCard : Claim7 := { stood := { row := talkPassRow, standIns := [], harness := (true, "5205a1901e82548d8be79ffbdfe3f4a8ddf87e57a098756a03548ec1b341e8b0"), looks := false }, kinds := [], alts := [], laidByText := true, laidKinds := [.data, .data, .pinned], laidTests := true, laidLooks := .later }
def TalkPassCardSaid : Prop := Claim7.holds Tryd.pinned (.plain (OpenSpec.ofChange talkPassSpec)) talkPassCard

/-- THE TIED CARD OF 'linnetlaw15.TalkSame'. -/
def talkSameCard : Claim7 := { stood := { row := talkSameRow, standIns := [], harness := (true, "5205a1901e82548d8be79ffbdfe3f4a8ddf87e57a098756a03548ec1b341e8b0"), looks := false }, kinds := [], alts := [], laidByText := true, laidKinds := [.data, .data, .pinned], laidTests := true, laidLooks := .later }
def TalkSameCardSaid : Prop := Claim7.holds Tryd.pinned (.plain (OpenSpec.ofChange talkSameSpec)) talkSameCard

/-- THE TIED CARD OF 'linnetlaw15.TalkSignal'. -/
def talkSignalCard : Claim7 := { stood := { row := talkSignalRow, standIns := [], harness := (true, "5205a1901e82548d8be79ffbdfe3f4a8ddf87e57a098756a03548ec1b341e8b0"), looks := false }, kinds := [], alts := [], laidByText := true, laidKinds := [.data, .data, .pinned], laidTests := true, laidLooks := .later }
def TalkSignalCardSaid : Prop := Claim7.holds Tryd.pinned (.plain (OpenSpec.ofChange talkSignalSpec)) talkSignalCard

/-- THE SECOND FORM's CARD OF 'linnetlaw15.TalkQuiet'. -/
def talkQuietUptoCard : Claim7 := { stood := { row := talkQuietUptoRow, standIns := [], harness := (true, "5205a1901e82548d8be79ffbdfe3f4a8ddf87e57a098756a03548ec1b341e8b0"), looks := false }, kinds := [], alts := [], laidByText := true, laidKinds := [.data, .data, .pinned], laidTests := true, laidLooks := .later }
def TalkQuietUptoCardSaid : Prop := Claim7.holds Tryd.pinned (.plain (OpenSpec.upto talkQuietSpec)) talkQuietUptoCard

/-- THE SECOND FORM's CARD OF 'linnetlaw15.TalkLines'. -/
def talkLinesUptoCard : Claim7 := { stood := { row := talkLinesUptoRow, standIns := [], harness := (true, "5205a1901e82548d8be79ffbdfe3f4a8ddf87e57a098756a03548ec1b341e8b0"), looks := false }, kinds := [], alts := [], laidByText := true, laidKinds := [.data, .data, .pinned], laidTests := true, laidLooks := .later }
def TalkLinesUptoCardSaid : Prop := Claim7.holds Tryd.pinned (.plain (OpenSpec.upto talkLinesSpec)) talkLinesUptoCard

/-- THE SECOND FORM's CARD OF 'linnetlaw15.TalkTells'. -/
def talkTellsUptoCard : Claim7 := { stood := { row := talkTellsUptoRow, standIns := [], harness := (true, "5205a1901e82548d8be79ffbdfe3f4a8ddf87e57a098756a03548ec1b341e8b0"), looks := false }, kinds := [], alts := [], laidByText := true, laidKinds := [.data, .data, .pinned], laidTests := true, laidLooks := .later }
def TalkTellsUptoCardSaid : Prop := Claim7.holds Tryd.pinned (.plain (OpenSpec.upto talkTellsSpec)) talkTellsUptoCard

/-- THE SECOND FORM's CARD OF 'linnetlaw15.TalkPass'. -/
def talkPassUptoCard : Claim7 := { stood := { row := talkPassUptoRow, standIns := [], harness := (true, "5205a1901e82548d8be79ffbdfe3f4a8ddf87e57a098756a03548ec1b341e8b0"), looks := false }, kinds := [], alts := [], laidByText := true, laidKinds := [.data, .data, .pinned], laidTests := true, laidLooks := .later }
def TalkPassUptoCardSaid : Prop := Claim7.holds Tryd.pinned (.plain (OpenSpec.upto talkPassSpec)) talkPassUptoCard

/-- THE SECOND FORM's CARD OF 'linnetlaw15.TalkSame'. -/
def talkSameUptoCard : Claim7 := { stood := { row := talkSameUptoRow, standIns := [], harness := (true, "5205a1901e82548d8be79ffbdfe3f4a8ddf87e57a098756a03548ec1b341e8b0"), looks := false }, kinds := [], alts := [], laidByText := true, laidKinds := [.data, .data, .pinned], laidTests := true, laidLooks := .later }
def TalkSameUptoCardSaid : Prop := Claim7.holds Tryd.pinned (.plain (OpenSpec.upto talkSameSpec)) talkSameUptoCard

/-- THE SECOND FORM's CARD OF 'linnetlaw15.TalkSignal'. -/
def talkSignalUptoCard : Claim7 := { stood := { row := talkSignalUptoRow, standIns := [], harness := (true, "5205a1901e82548d8be79ffbdfe3f4a8ddf87e57a098756a03548ec1b341e8b0"), looks := false }, kinds := [], alts := [], laidByText := true, laidKinds := [.data, .data, .pinned], laidTests := true, laidLooks := .later }
def TalkSignalUptoCardSaid : Prop := Claim7.holds Tryd.pinned (.plain (OpenSpec.upto talkSignalSpec)) talkSignalUptoCard
end Rows
end Go.Proofs.YtmkblhinpnodaaaDoor
