/-
  DERIVED. GIVEN WITH THE SEED: THE CARDS: each row of YtlijecknkpcgfaaDoorRows.lean that lists a variable, with what it lists TIED to the program's text (the seventh form; the later family's looks); each row that meets fmt, with fmt's text TOLD by the authors' own Lean function (tested against real Go, not proved from fmt's source: count such statements apart). THE CARD IS WHAT COUNTS. Prove the row's statement (the work); the ties are given (YtlijecknkpcgfaaDoorTie.lean); close each card by the builder's one call (the guide's Derived/Test/ToyasCard.lean, 'card_holds'). Laid BY PROGRAM, IN A SANDBOX (cutbox-door.mjs). By AI agents, Wed Nov 11 2026. No macro, syntax, notation, axiom, sorry.
-/
import Derived.Test.YtlijecknkpcgfaaDoorRows
import GoSem.ClaimSeven
namespace Go.Proofs.YtlijecknkpcgfaaDoor
namespace Rows

/-- THE TIED CARD OF 'linnetlaw22.ScriptJoins'. -/
def scriptJoinsCard : Claim7 := { stood := { row := scriptJoinsRow, standIns := [], harness := (true, "7925503dcf37936fe694c497cfcd74a997d7e98ef97336789567ba97b84138f7"), looks := true }, kinds := [], alts := [], laidByText := true, laidKinds := [.data, .pinned], laidTests := true, laidLooks := .later }
def ScriptJoinsCardSaid : Prop := Claim7.holds Tryd.pinned (.plain (OpenSpec.ofChange scriptJoinsSpec)) scriptJoinsCard

/-- THE TIED CARD OF 'linnetlaw22.ScriptShort'. -/
def scriptShortCard : Claim7 := { stood := { row := scriptShortRow, standIns := [], harness := (true, "7925503dcf37936fe694c497cfcd74a997d7e98ef97336789567ba97b84138f7"), looks := true }, kinds := [], alts := [], laidByText := true, laidKinds := [.data, .pinned], laidTests := true, laidLooks := .later }
def ScriptShortCardSaid : Prop := Claim7.holds Tryd.pinned (.plain (OpenSpec.ofChange scriptShortSpec)) scriptShortCard

/-- THE TIED CARD OF 'linnetlaw22.ScriptLong'. -/
def scriptLongCard : Claim7 := { stood := { row := scriptLongRow, standIns := [], harness := (true, "7925503dcf37936fe694c497cfcd74a997d7e98ef97336789567ba97b84138f7"), looks := true }, kinds := [], alts := [], laidByText := true, laidKinds := [.data, .pinned], laidTests := true, laidLooks := .later }
def ScriptLongCardSaid : Prop := Claim7.holds Tryd.pinned (.plain (OpenSpec.ofChange scriptLongSpec)) scriptLongCard

/-- THE TIED CARD OF 'linnetlaw22.ScriptWeights'. -/
def scriptWeightsCard : Claim7 := { stood := { row := scriptWeightsRow, standIns := [], harness := (true, "7925503dcf37936fe694c497cfcd74a997d7e98ef97336789567ba97b84138f7"), looks := true }, kinds := [], alts := [], laidByText := true, laidKinds := [.data, .pinned], laidTests := true, laidLooks := .later }
def ScriptWeightsCardSaid : Prop := Claim7.holds Tryd.pinned (.plain (OpenSpec.ofChange scriptWeightsSpec)) scriptWeightsCard

/-- THE TIED CARD OF 'linnetlaw22.ScriptTells'. -/
def scriptTellsCard : Claim7 := { stood := { row := scriptTellsRow, standIns := [], harness := (true, "7925503dcf37936fe694c497cfcd74a997d7e98ef97336789567ba97b84138f7"), looks := true }, kinds := [], alts := [], laidByText := true, laidKinds := [.data, .pinned], laidTests := true, laidLooks := .later }
def ScriptTellsCardSaid : Prop := Claim7.holds Tryd.pinned (.plain (OpenSpec.ofChange scriptTellsSpec)) scriptTellsCard

/-- THE TIED CARD OF 'linnetlaw22.ScriptBack'. -/
def scriptBackCard : Claim7 := { stood := { row := scriptBackRow, standIns := [], harness := (true, "7925503dcf37936fe694c497cfcd74a997d7e98ef97336789567ba97b84138f7"), looks := true }, kinds := [], alts := [], laidByText := true, laidKinds := [.data, .pinned], laidTests := true, laidLooks := .later }
def ScriptBackCardSaid : Prop := Claim7.holds Tryd.pinned (.plain (OpenSpec.ofChange scriptBackSpec)) scriptBackCard

/-- THE SECOND FORM's CARD OF 'linnetlaw22.ScriptJoins'. -/
def scriptJoinsUptoCard : Claim7 := { stood := { row := scriptJoinsUptoRow, standIns := [], harness := (true, "7925503dcf37936fe694c497cfcd74a997d7e98ef97336789567ba97b84138f7"), looks := true }, kinds := [], alts := [], laidByText := true, laidKinds := [.data, .pinned], laidTests := true, laidLooks := .later }
def ScriptJoinsUptoCardSaid : Prop := Claim7.holds Tryd.pinned (.plain (OpenSpec.upto scriptJoinsSpec)) scriptJoinsUptoCard

/-- THE SECOND FORM's CARD OF 'linnetlaw22.ScriptShort'. -/
def scriptShortUptoCard : Claim7 := { stood := { row := scriptShortUptoRow, standIns := [], harness := (true, "7925503dcf37936fe694c497cfcd74a997d7e98ef97336789567ba97b84138f7"), looks := true }, kinds := [], alts := [], laidByText := true, laidKinds := [.data, .pinned], laidTests := true, laidLooks := .later }
def ScriptShortUptoCardSaid : Prop := Claim7.holds Tryd.pinned (.plain (OpenSpec.upto scriptShortSpec)) scriptShortUptoCard

/-- THE SECOND FORM's CARD OF 'linnetlaw22.ScriptLong'. -/
def scriptLongUptoCard : Claim7 := { stood := { row := scriptLongUptoRow, standIns := [], harness := (true, "7925503dcf37936fe694c497cfcd74a997d7e98ef97336789567ba97b84138f7"), looks := true }, kinds := [], alts := [], laidByText := true, laidKinds := [.data, .pinned], laidTests := true, laidLooks := .later }
def ScriptLongUptoCardSaid : Prop := Claim7.holds Tryd.pinned (.plain (OpenSpec.upto scriptLongSpec)) scriptLongUptoCard

/-- THE SECOND FORM's CARD OF 'linnetlaw22.ScriptWeights'. -/
def scriptWeightsUptoCard : Claim7 := { stood := { row := scriptWeightsUptoRow, standIns := [], harness := (true, "7925503dcf37936fe694c497cfcd74a997d7e98ef97336789567ba97b84138f7"), looks := true }, kinds := [], alts := [], laidByText := true, laidKinds := [.data, .pinned], laidTests := true, laidLooks := .later }
def ScriptWeightsUptoCardSaid : Prop := Claim7.holds Tryd.pinned (.plain (OpenSpec.upto scriptWeightsSpec)) scriptWeightsUptoCard

/-- THE SECOND FORM's CARD OF 'linnetlaw22.ScriptTells'. -/
def scriptTellsUptoCard : Claim7 := { stood := { row := scriptTellsUptoRow, standIns := [], harness := (true, "7925503dcf37936fe694c497cfcd74a997d7e98ef97336789567ba97b84138f7"), looks := true }, kinds := [], alts := [], laidByText := true, laidKinds := [.data, .pinned], laidTests := true, laidLooks := .later }
def ScriptTellsUptoCardSaid : Prop := Claim7.holds Tryd.pinned (.plain (OpenSpec.upto scriptTellsSpec)) scriptTellsUptoCard

/-- THE SECOND FORM's CARD OF 'linnetlaw22.ScriptBack'. -/
def scriptBackUptoCard : Claim7 := { stood := { row := scriptBackUptoRow, standIns := [], harness := (true, "7925503dcf37936fe694c497cfcd74a997d7e98ef97336789567ba97b84138f7"), looks := true }, kinds := [], alts := [], laidByText := true, laidKinds := [.data, .pinned], laidTests := true, laidLooks := .later }
def ScriptBackUptoCardSaid : Prop := Claim7.holds Tryd.pinned (.plain (OpenSpec.upto scriptBackSpec)) scriptBackUptoCard
end Rows
end Go.Proofs.YtlijecknkpcgfaaDoor
