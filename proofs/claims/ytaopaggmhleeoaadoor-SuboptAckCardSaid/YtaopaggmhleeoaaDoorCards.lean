/-
  DERIVED. GIVEN WITH THE SEED: THE CARDS: each row of YtaopaggmhleeoaaDoorRows.lean that lists a variable, with what it lists TIED to the program's text (the seventh form; the later family's looks); each row that meets fmt, with fmt's text TOLD by the authors' own Lean function (tested against real Go, not proved from fmt's source: count such statements apart). THE CARD IS WHAT COUNTS. Prove the row's statement (the work); the ties are given (YtaopaggmhleeoaaDoorTie.lean); close each card by the builder's one call (the guide's Derived/Test/ToyasCard.lean, 'card_holds'). Laid BY PROGRAM, IN A SANDBOX (cutbox-door.mjs). By AI agents, Wed Nov 11 2026. No macro, syntax, notation, axiom, sorry.
-/
import Derived.Test.YtaopaggmhleeoaaDoorRows
import GoSem.ClaimSeven
namespace Go.Proofs.YtaopaggmhleeoaaDoor
namespace Rows

/-- THE TIED CARD OF 'linnetlaw11.SuboptTells'. -/
def suboptTellsCard : Claim7 := { stood := { row := suboptTellsRow, standIns := [], harness := (true, "6c42d8c298c3dc0860bb43cc366bba0c8db6caee925a6f3a5cb30773e3eea204"), looks := true }, kinds := [], alts := [], laidByText := true, laidKinds := [.data, .pinned], laidTests := true, laidLooks := .later }
def SuboptTellsCardSaid : Prop := Claim7.holds Tryd.pinned (.plain (OpenSpec.ofChange suboptTellsSpec)) suboptTellsCard

/-- THE TIED CARD OF 'linnetlaw11.SuboptBack'. -/
def suboptBackCard : Claim7 := { stood := { row := suboptBackRow, standIns := [], harness := (true, "6c42d8c298c3dc0860bb43cc366bba0c8db6caee925a6f3a5cb30773e3eea204"), looks := true }, kinds := [], alts := [], laidByText := true, laidKinds := [.data, .pinned], laidTests := true, laidLooks := .later }
def SuboptBackCardSaid : Prop := Claim7.holds Tryd.pinned (.plain (OpenSpec.ofChange suboptBackSpec)) suboptBackCard

/-- THE TIED CARD OF 'linnetlaw11.SuboptParts'. -/
def suboptPartsCard : Claim7 := { stood := { row := suboptPartsRow, standIns := [], harness := (true, "6c42d8c298c3dc0860bb43cc366bba0c8db6caee925a6f3a5cb30773e3eea204"), looks := true }, kinds := [], alts := [], laidByText := true, laidKinds := [.data, .pinned], laidTests := true, laidLooks := .later }
def SuboptPartsCardSaid : Prop := Claim7.holds Tryd.pinned (.plain (OpenSpec.ofChange suboptPartsSpec)) suboptPartsCard

/-- THE TIED CARD OF 'linnetlaw11.SuboptAck'. -/
def suboptAckCard : Claim7 := { stood := { row := suboptAckRow, standIns := [], harness := (true, "6c42d8c298c3dc0860bb43cc366bba0c8db6caee925a6f3a5cb30773e3eea204"), looks := true }, kinds := [], alts := [], laidByText := true, laidKinds := [.data, .pinned], laidTests := true, laidLooks := .later }
def SuboptAckCardSaid : Prop := Claim7.holds Tryd.pinned (.plain (OpenSpec.ofChange suboptAckSpec)) suboptAckCard

/-- THE SECOND FORM's CARD OF 'linnetlaw11.SuboptTells'. -/
def suboptTellsUptoCard : Claim7 := { stood := { row := suboptTellsUptoRow, standIns := [], harness := (true, "6c42d8c298c3dc0860bb43cc366bba0c8db6caee925a6f3a5cb30773e3eea204"), looks := true }, kinds := [], alts := [], laidByText := true, laidKinds := [.data, .pinned], laidTests := true, laidLooks := .later }
def SuboptTellsUptoCardSaid : Prop := Claim7.holds Tryd.pinned (.plain (OpenSpec.upto suboptTellsSpec)) suboptTellsUptoCard

/-- THE SECOND FORM's CARD OF 'linnetlaw11.SuboptBack'. -/
def suboptBackUptoCard : Claim7 := { stood := { row := suboptBackUptoRow, standIns := [], harness := (true, "6c42d8c298c3dc0860bb43cc366bba0c8db6caee925a6f3a5cb30773e3eea204"), looks := true }, kinds := [], alts := [], laidByText := true, laidKinds := [.data, .pinned], laidTests := true, laidLooks := .later }
def SuboptBackUptoCardSaid : Prop := Claim7.holds Tryd.pinned (.plain (OpenSpec.upto suboptBackSpec)) suboptBackUptoCard

/-- THE SECOND FORM's CARD OF 'linnetlaw11.SuboptParts'. -/
def suboptPartsUptoCard : Claim7 := { stood := { row := suboptPartsUptoRow, standIns := [], harness := (true, "6c42d8c298c3dc0860bb43cc366bba0c8db6caee925a6f3a5cb30773e3eea204"), looks := true }, kinds := [], alts := [], laidByText := true, laidKinds := [.data, .pinned], laidTests := true, laidLooks := .later }
def SuboptPartsUptoCardSaid : Prop := Claim7.holds Tryd.pinned (.plain (OpenSpec.upto suboptPartsSpec)) suboptPartsUptoCard

/-- THE SECOND FORM's CARD OF 'linnetlaw11.SuboptAck'. -/
def suboptAckUptoCard : Claim7 := { stood := { row := suboptAckUptoRow, standIns := [], harness := (true, "6c42d8c298c3dc0860bb43cc366bba0c8db6caee925a6f3a5cb30773e3eea204"), looks := true }, kinds := [], alts := [], laidByText := true, laidKinds := [.data, .pinned], laidTests := true, laidLooks := .later }
def SuboptAckUptoCardSaid : Prop := Claim7.holds Tryd.pinned (.plain (OpenSpec.upto suboptAckSpec)) suboptAckUptoCard
end Rows
end Go.Proofs.YtaopaggmhleeoaaDoor
