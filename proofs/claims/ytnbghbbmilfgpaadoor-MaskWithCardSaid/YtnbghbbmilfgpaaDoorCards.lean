/-
  DERIVED. GIVEN WITH THE SEED: THE CARDS: each row of YtnbghbbmilfgpaaDoorRows.lean that lists a variable, with what it lists TIED to the program's text (the seventh form; the later family's looks); each row that meets fmt, with fmt's text TOLD by the authors' own Lean function (tested against real Go, not proved from fmt's source: count such statements apart). THE CARD IS WHAT COUNTS. Prove the row's statement (the work); the ties are given (YtnbghbbmilfgpaaDoorTie.lean); close each card by the builder's one call (the guide's Derived/Test/ToyasCard.lean, 'card_holds'). Laid BY PROGRAM, IN A SANDBOX (cutbox-door.mjs). By AI agents, Wed Nov 11 2026. No macro, syntax, notation, axiom, sorry.
-/
import Derived.Test.YtnbghbbmilfgpaaDoorRows
import GoSem.ClaimSeven
namespace Go.Proofs.YtnbghbbmilfgpaaDoor
namespace Rows

/-- THE TIED CARD OF 'linnetlaw10.MaskTells'. -/
def maskTellsCard : Claim7 := { stood := { row := maskTellsRow, standIns := [], harness := (true, "d9a3a2e320ca099236d0bbc5eee3a6bea89953a178385e0c42ee180ce6ed6b82"), looks := false }, kinds := [], alts := [], laidByText := true, laidKinds := [.data, .pinned], laidTests := true, laidLooks := .later }
def MaskTellsCardSaid : Prop := Claim7.holds Tryd.pinned (.plain (OpenSpec.ofChange maskTellsSpec)) maskTellsCard

/-- THE TIED CARD OF 'linnetlaw10.MaskBack'. -/
def maskBackCard : Claim7 := { stood := { row := maskBackRow, standIns := [], harness := (true, "d9a3a2e320ca099236d0bbc5eee3a6bea89953a178385e0c42ee180ce6ed6b82"), looks := false }, kinds := [], alts := [], laidByText := true, laidKinds := [.data, .pinned], laidTests := true, laidLooks := .later }
def MaskBackCardSaid : Prop := Claim7.holds Tryd.pinned (.plain (OpenSpec.ofChange maskBackSpec)) maskBackCard

/-- THE TIED CARD OF 'linnetlaw10.MaskWith'. -/
def maskWithCard : Claim7 := { stood := { row := maskWithRow, standIns := [], harness := (true, "d9a3a2e320ca099236d0bbc5eee3a6bea89953a178385e0c42ee180ce6ed6b82"), looks := false }, kinds := [], alts := [], laidByText := true, laidKinds := [.data, .pinned], laidTests := true, laidLooks := .later }
def MaskWithCardSaid : Prop := Claim7.holds Tryd.pinned (.plain (OpenSpec.ofChange maskWithSpec)) maskWithCard

/-- THE TIED CARD OF 'linnetlaw10.MaskOrder'. -/
def maskOrderCard : Claim7 := { stood := { row := maskOrderRow, standIns := [], harness := (true, "d9a3a2e320ca099236d0bbc5eee3a6bea89953a178385e0c42ee180ce6ed6b82"), looks := false }, kinds := [], alts := [], laidByText := true, laidKinds := [.data, .pinned], laidTests := true, laidLooks := .later }
def MaskOrderCardSaid : Prop := Claim7.holds Tryd.pinned (.plain (OpenSpec.ofChange maskOrderSpec)) maskOrderCard

/-- THE TIED CARD OF 'linnetlaw10.MaskKeys'. -/
def maskKeysCard : Claim7 := { stood := { row := maskKeysRow, standIns := [], harness := (true, "d9a3a2e320ca099236d0bbc5eee3a6bea89953a178385e0c42ee180ce6ed6b82"), looks := false }, kinds := [], alts := [], laidByText := true, laidKinds := [.data, .pinned], laidTests := true, laidLooks := .later }
def MaskKeysCardSaid : Prop := Claim7.holds Tryd.pinned (.plain (OpenSpec.ofChange maskKeysSpec)) maskKeysCard

/-- THE TIED CARD OF 'linnetlaw10.MaskTwo'. -/
def maskTwoCard : Claim7 := { stood := { row := maskTwoRow, standIns := [], harness := (true, "d9a3a2e320ca099236d0bbc5eee3a6bea89953a178385e0c42ee180ce6ed6b82"), looks := false }, kinds := [], alts := [], laidByText := true, laidKinds := [.data, .pinned], laidTests := true, laidLooks := .later }
def MaskTwoCardSaid : Prop := Claim7.holds Tryd.pinned (.plain (OpenSpec.ofChange maskTwoSpec)) maskTwoCard

/-- THE SECOND FORM's CARD OF 'linnetlaw10.MaskTells'. -/
def maskTellsUptoCard : Claim7 := { stood := { row := maskTellsUptoRow, standIns := [], harness := (true, "d9a3a2e320ca099236d0bbc5eee3a6bea89953a178385e0c42ee180ce6ed6b82"), looks := false }, kinds := [], alts := [], laidByText := true, laidKinds := [.data, .pinned], laidTests := true, laidLooks := .later }
def MaskTellsUptoCardSaid : Prop := Claim7.holds Tryd.pinned (.plain (OpenSpec.upto maskTellsSpec)) maskTellsUptoCard

/-- THE SECOND FORM's CARD OF 'linnetlaw10.MaskBack'. -/
def maskBackUptoCard : Claim7 := { stood := { row := maskBackUptoRow, standIns := [], harness := (true, "d9a3a2e320ca099236d0bbc5eee3a6bea89953a178385e0c42ee180ce6ed6b82"), looks := false }, kinds := [], alts := [], laidByText := true, laidKinds := [.data, .pinned], laidTests := true, laidLooks := .later }
def MaskBackUptoCardSaid : Prop := Claim7.holds Tryd.pinned (.plain (OpenSpec.upto maskBackSpec)) maskBackUptoCard

/-- THE SECOND FORM's CARD OF 'linnetlaw10.MaskWith'. -/
def maskWithUptoCard : Claim7 := { stood := { row := maskWithUptoRow, standIns := [], harness := (true, "d9a3a2e320ca099236d0bbc5eee3a6bea89953a178385e0c42ee180ce6ed6b82"), looks := false }, kinds := [], alts := [], laidByText := true, laidKinds := [.data, .pinned], laidTests := true, laidLooks := .later }
def MaskWithUptoCardSaid : Prop := Claim7.holds Tryd.pinned (.plain (OpenSpec.upto maskWithSpec)) maskWithUptoCard

/-- THE SECOND FORM's CARD OF 'linnetlaw10.MaskOrder'. -/
def maskOrderUptoCard : Claim7 := { stood := { row := maskOrderUptoRow, standIns := [], harness := (true, "d9a3a2e320ca099236d0bbc5eee3a6bea89953a178385e0c42ee180ce6ed6b82"), looks := false }, kinds := [], alts := [], laidByText := true, laidKinds := [.data, .pinned], laidTests := true, laidLooks := .later }
def MaskOrderUptoCardSaid : Prop := Claim7.holds Tryd.pinned (.plain (OpenSpec.upto maskOrderSpec)) maskOrderUptoCard

/-- THE SECOND FORM's CARD OF 'linnetlaw10.MaskKeys'. -/
def maskKeysUptoCard : Claim7 := { stood := { row := maskKeysUptoRow, standIns := [], harness := (true, "d9a3a2e320ca099236d0bbc5eee3a6bea89953a178385e0c42ee180ce6ed6b82"), looks := false }, kinds := [], alts := [], laidByText := true, laidKinds := [.data, .pinned], laidTests := true, laidLooks := .later }
def MaskKeysUptoCardSaid : Prop := Claim7.holds Tryd.pinned (.plain (OpenSpec.upto maskKeysSpec)) maskKeysUptoCard

/-- THE SECOND FORM's CARD OF 'linnetlaw10.MaskTwo'. -/
def maskTwoUptoCard : Claim7 := { stood := { row := maskTwoUptoRow, standIns := [], harness := (true, "d9a3a2e320ca099236d0bbc5eee3a6bea89953a178385e0c42ee180ce6ed6b82"), looks := false }, kinds := [], alts := [], laidByText := true, laidKinds := [.data, .pinned], laidTests := true, laidLooks := .later }
def MaskTwoUptoCardSaid : Prop := Claim7.holds Tryd.pinned (.plain (OpenSpec.upto maskTwoSpec)) maskTwoUptoCard
end Rows
end Go.Proofs.YtnbghbbmilfgpaaDoor
