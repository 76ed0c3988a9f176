/-
  NARROWER THAN 'FOR EVERY INPUT', by the rows' own cells (each row's printed sentence says how): SlcBack: laid · SlcParts: laid · SlcMarks: laid · SlcAlone: laid · SlcTells: laid · SlcSignals: laid.
  DERIVED. THE GIVEN ROWS OF THIS SEAT. 6 by the template 'for every input the law returns true; each argument reads behind the call as it read before'; 0 by the template 'total and deterministic' (their statements: YtblmdlhdfiafgaaDoorTotals.lean).
  GIVEN WITH THE SEED: the statements are not yours to turn. If you find one false, say at which input.
  Laid BY PROGRAM, IN A SANDBOX (cutbox-rows.mjs): the forced cells as the released guide's own fill.sh prints them over the translation 6d8fc500f2b84eb5… (all of the seat's roots in one cut). By AI agents, Wed Nov 11 2026. No macro, syntax, notation, axiom, sorry.
-/
import Derived.Test.YtblmdlhdfiafgaaDoorChecked
import GoSem.Claim
import GoSem.ClaimJoined
import GoSem.ClaimMapViews
import Derived.JoinedTies
import Derived.KernelRfl
namespace Go.Proofs.YtblmdlhdfiafgaaDoor
/- THE CELL 'sum', in the pinned program and in every row, IS THE sha256 OF THE DUMP (.gsa) THAT YtblmdlhdfiafgaaDoorProg.lean LOADS. Nothing in Lean hashes anything: it is a label: what it is worth is what the hold of that sum in a sandbox is worth. -/
noncomputable def Tryd.pinned : Pinned := { name := "ytblmdlhdfiafgaadoor", sum := "6d8fc500f2b84eb5cb6fd60a703887b8585eb127e8dcd0083ea87bc32ccee748", checked := Tryd.checked }
namespace Rows
def none {H : Type} : Left H := { results := [], args := [] }

/- WHAT THE LISTED PACKAGE-LEVEL VARIABLES READ AS WHEN THE CALL BEGINS. Each datum BY PROGRAM (the guide's laid-datum.mjs) off the statement by which the dump's own 'gosem.cut.vars' lays the variable. In a bare row this is a premise. The card (YtblmdlhdfiafgaaDoorCards.lean) ties it to the program's text. -/
def laid_linnet_slc_commands {H : Type} : DataW H := .agg [.lit (.int .i64 0), .lit (.int .i64 242), .lit (.int .i64 243), .lit (.int .i64 244), .lit (.int .i64 245), .lit (.int .i64 246), .lit (.int .i64 239), .lit (.int .i64 238), .lit (.int .i64 236), .lit (.int .i64 237)]

/-- 'linnetlaw07.SlcBack': WHATEVER THE INPUT: true; the input reads as it did. -/
def slcBackSpec : ChangeSpec := { name := "slcBack", fn := fun _ => fun
  | [d1, d2] => { results := [.lit (.bool true)], args := [d1, d2] }
  | _ => none }
def slcBackRow : OpenClaim := { program := "ytblmdlhdfiafgaadoor", sum := "6d8fc500f2b84eb5cb6fd60a703887b8585eb127e8dcd0083ea87bc32ccee748", func := "linnet/linnetlaw07.SlcBack", spec := "slcBack", named := ["linnet/slc.commands"], apart := false, laid := [("linnet/slc.commands", laid_linnet_slc_commands)] }
def SlcBackSaid : Prop := slcBackRow.holds Tryd.pinned (OpenSpec.ofChange slcBackSpec)

/-- ITS FALSE NEIGHBOUR: 'it returns false'. Refute it at one input. -/
def slcBackWrong : ChangeSpec := { name := "slcBack", fn := fun _ => fun
  | [d1, d2] => { results := [.lit (.bool false)], args := [d1, d2] }
  | _ => none }
def SlcBackWrongFalsely : Prop := slcBackRow.holds Tryd.pinned (OpenSpec.ofChange slcBackWrong)

/-- 'linnetlaw07.SlcParts': WHATEVER THE INPUT: true; the input reads as it did. -/
def slcPartsSpec : ChangeSpec := { name := "slcParts", fn := fun _ => fun
  | [d1, d2] => { results := [.lit (.bool true)], args := [d1, d2] }
  | _ => none }
def slcPartsRow : OpenClaim := { program := "ytblmdlhdfiafgaadoor", sum := "6d8fc500f2b84eb5cb6fd60a703887b8585eb127e8dcd0083ea87bc32ccee748", func := "linnet/linnetlaw07.SlcParts", spec := "slcParts", named := ["linnet/slc.commands"], apart := false, laid := [("linnet/slc.commands", laid_linnet_slc_commands)] }
def SlcPartsSaid : Prop := slcPartsRow.holds Tryd.pinned (OpenSpec.ofChange slcPartsSpec)

/-- ITS FALSE NEIGHBOUR: 'it returns false'. Refute it at one input. -/
def slcPartsWrong : ChangeSpec := { name := "slcParts", fn := fun _ => fun
  | [d1, d2] => { results := [.lit (.bool false)], args := [d1, d2] }
  | _ => none }
def SlcPartsWrongFalsely : Prop := slcPartsRow.holds Tryd.pinned (OpenSpec.ofChange slcPartsWrong)

/-- 'linnetlaw07.SlcMarks': WHATEVER THE INPUT: true; the input reads as it did. -/
def slcMarksSpec : ChangeSpec := { name := "slcMarks", fn := fun _ => fun
  | [d1, d2] => { results := [.lit (.bool true)], args := [d1, d2] }
  | _ => none }
def slcMarksRow : OpenClaim := { program := "ytblmdlhdfiafgaadoor", sum := "6d8fc500f2b84eb5cb6fd60a703887b8585eb127e8dcd0083ea87bc32ccee748", func := "linnet/linnetlaw07.SlcMarks", spec := "slcMarks", named := ["linnet/slc.commands"], apart := false, laid := [("linnet/slc.commands", laid_linnet_slc_commands)] }
def SlcMarksSaid : Prop := slcMarksRow.holds Tryd.pinned (OpenSpec.ofChange slcMarksSpec)

/-- ITS FALSE NEIGHBOUR: 'it returns false'. Refute it at one input. -/
def slcMarksWrong : ChangeSpec := { name := "slcMarks", fn := fun _ => fun
  | [d1, d2] => { results := [.lit (.bool false)], args := [d1, d2] }
  | _ => none }
def SlcMarksWrongFalsely : Prop := slcMarksRow.holds Tryd.pinned (OpenSpec.ofChange slcMarksWrong)

/-- 'linnetlaw07.SlcAlone': WHATEVER THE INPUT: true; the input reads as it did. -/
def slcAloneSpec : ChangeSpec := { name := "slcAlone", fn := fun _ => fun
  | [d1, d2] => { results := [.lit (.bool true)], args := [d1, d2] }
  | _ => none }
def slcAloneRow : OpenClaim := { program := "ytblmdlhdfiafgaadoor", sum := "6d8fc500f2b84eb5cb6fd60a703887b8585eb127e8dcd0083ea87bc32ccee748", func := "linnet/linnetlaw07.SlcAlone", spec := "slcAlone", named := ["linnet/slc.commands"], apart := false, laid := [("linnet/slc.commands", laid_linnet_slc_commands)] }
def SlcAloneSaid : Prop := slcAloneRow.holds Tryd.pinned (OpenSpec.ofChange slcAloneSpec)

/-- ITS FALSE NEIGHBOUR: 'it returns false'. Refute it at one input. -/
def slcAloneWrong : ChangeSpec := { name := "slcAlone", fn := fun _ => fun
  | [d1, d2] => { results := [.lit (.bool false)], args := [d1, d2] }
  | _ => none }
def SlcAloneWrongFalsely : Prop := slcAloneRow.holds Tryd.pinned (OpenSpec.ofChange slcAloneWrong)

/-- 'linnetlaw07.SlcTells': WHATEVER THE INPUT: true; the input reads as it did. -/
def slcTellsSpec : ChangeSpec := { name := "slcTells", fn := fun _ => fun
  | [d1, d2, d3] => { results := [.lit (.bool true)], args := [d1, d2, d3] }
  | _ => none }
def slcTellsRow : OpenClaim := { program := "ytblmdlhdfiafgaadoor", sum := "6d8fc500f2b84eb5cb6fd60a703887b8585eb127e8dcd0083ea87bc32ccee748", func := "linnet/linnetlaw07.SlcTells", spec := "slcTells", named := ["linnet/slc.commands"], apart := false, laid := [("linnet/slc.commands", laid_linnet_slc_commands)] }
def SlcTellsSaid : Prop := slcTellsRow.holds Tryd.pinned (OpenSpec.ofChange slcTellsSpec)

/-- ITS FALSE NEIGHBOUR: 'it returns false'. Refute it at one input. -/
def slcTellsWrong : ChangeSpec := { name := "slcTells", fn := fun _ => fun
  | [d1, d2, d3] => { results := [.lit (.bool false)], args := [d1, d2, d3] }
  | _ => none }
def SlcTellsWrongFalsely : Prop := slcTellsRow.holds Tryd.pinned (OpenSpec.ofChange slcTellsWrong)

/-- 'linnetlaw07.SlcSignals': WHATEVER THE INPUT: true; the input reads as it did. -/
def slcSignalsSpec : ChangeSpec := { name := "slcSignals", fn := fun _ => fun
  | [d1, d2] => { results := [.lit (.bool true)], args := [d1, d2] }
  | _ => none }
def slcSignalsRow : OpenClaim := { program := "ytblmdlhdfiafgaadoor", sum := "6d8fc500f2b84eb5cb6fd60a703887b8585eb127e8dcd0083ea87bc32ccee748", func := "linnet/linnetlaw07.SlcSignals", spec := "slcSignals", named := ["linnet/slc.commands"], apart := false, laid := [("linnet/slc.commands", laid_linnet_slc_commands)] }
def SlcSignalsSaid : Prop := slcSignalsRow.holds Tryd.pinned (OpenSpec.ofChange slcSignalsSpec)

/-- ITS FALSE NEIGHBOUR: 'it returns false'. Refute it at one input. -/
def slcSignalsWrong : ChangeSpec := { name := "slcSignals", fn := fun _ => fun
  | [d1, d2] => { results := [.lit (.bool false)], args := [d1, d2] }
  | _ => none }
def SlcSignalsWrongFalsely : Prop := slcSignalsRow.holds Tryd.pinned (OpenSpec.ofChange slcSignalsWrong)

/- THE SECOND FORM. 'bulk': how many values and letters a reading holds, each counted each time it is reached (what is shared counts as often as it is met; a slice's spare places count too). A statement '..UptoSaid' is the law's where the arguments, and the package variables that the reading takes, are together of bulk at most 1048576: NARROWER than '..Said'. Prove '..Said' where nothing that the law and all that it calls make is longer than what came in: it says more and counts as full. Else prove '..UptoSaid'. A law counts once. -/
mutual
def uptoBulk {H : Type} : DataW H → Nat
  | .lit (.string bytes) => bytes.length + 1
  | .lit _ => 1
  | .nil => 1
  | .ptr d => uptoBulk d + 1
  | .slice elems spare => uptoBulkAll elems + uptoBulkAll spare + 1
  | .agg parts => uptoBulkAll parts + 1
  | .iface _ d => uptoBulk d + 1
  | .map entries => uptoBulkEntries entries + 1
  | .held _ => 1
def uptoBulkAll {H : Type} : List (DataW H) → Nat
  | [] => 0
  | d :: r => uptoBulk d + uptoBulkAll r
def uptoBulkEntries {H : Type} : List (Lit × DataW H) → Nat
  | [] => 0
  | x :: r => uptoBulkEntry x + uptoBulkEntries r
def uptoBulkEntry {H : Type} : Lit × DataW H → Nat
  | (.string bytes, d) => bytes.length + uptoBulk d + 1
  | (_, d) => uptoBulk d + 1
 end
def uptoSmall : (H : Type) → List (DataW H) → Bool := fun _ ds => decide (uptoBulkAll ds ≤ 1048576)
def OpenSpec.upto (s : _root_.Go.ChangeSpec) : _root_.Go.OpenSpec := { _root_.Go.OpenSpec.ofChange s with cond := some uptoSmall }

/-- 'linnetlaw07.SlcBack', WHERE WHAT IT READS IS OF BULK AT MOST 1048576: true; the input reads as it did. -/
def slcBackUptoRow : OpenClaim := { program := "ytblmdlhdfiafgaadoor", sum := "6d8fc500f2b84eb5cb6fd60a703887b8585eb127e8dcd0083ea87bc32ccee748", func := "linnet/linnetlaw07.SlcBack", spec := "slcBack", named := ["linnet/slc.commands"], apart := false, laid := [("linnet/slc.commands", laid_linnet_slc_commands)], narrowed := true }
def SlcBackUptoSaid : Prop := slcBackUptoRow.holds Tryd.pinned (OpenSpec.upto slcBackSpec)

/-- 'linnetlaw07.SlcParts', WHERE WHAT IT READS IS OF BULK AT MOST 1048576: true; the input reads as it did. -/
def slcPartsUptoRow : OpenClaim := { program := "ytblmdlhdfiafgaadoor", sum := "6d8fc500f2b84eb5cb6fd60a703887b8585eb127e8dcd0083ea87bc32ccee748", func := "linnet/linnetlaw07.SlcParts", spec := "slcParts", named := ["linnet/slc.commands"], apart := false, laid := [("linnet/slc.commands", laid_linnet_slc_commands)], narrowed := true }
def SlcPartsUptoSaid : Prop := slcPartsUptoRow.holds Tryd.pinned (OpenSpec.upto slcPartsSpec)

/-- 'linnetlaw07.SlcMarks', WHERE WHAT IT READS IS OF BULK AT MOST 1048576: true; the input reads as it did. -/
def slcMarksUptoRow : OpenClaim := { program := "ytblmdlhdfiafgaadoor", sum := "6d8fc500f2b84eb5cb6fd60a703887b8585eb127e8dcd0083ea87bc32ccee748", func := "linnet/linnetlaw07.SlcMarks", spec := "slcMarks", named := ["linnet/slc.commands"], apart := false, laid := [("linnet/slc.commands", laid_linnet_slc_commands)], narrowed := true }
def SlcMarksUptoSaid : Prop := slcMarksUptoRow.holds Tryd.pinned (OpenSpec.upto slcMarksSpec)

/-- 'linnetlaw07.SlcAlone', WHERE WHAT IT READS IS OF BULK AT MOST 1048576: true; the input reads as it did. -/
def slcAloneUptoRow : OpenClaim := { program := "ytblmdlhdfiafgaadoor", sum := "6d8fc500f2b84eb5cb6fd60a703887b8585eb127e8dcd0083ea87bc32ccee748", func := "linnet/linnetlaw07.SlcAlone", spec := "slcAlone", named := ["linnet/slc.commands"], apart := false, laid := [("linnet/slc.commands", laid_linnet_slc_commands)], narrowed := true }
def SlcAloneUptoSaid : Prop := slcAloneUptoRow.holds Tryd.pinned (OpenSpec.upto slcAloneSpec)

/-- 'linnetlaw07.SlcTells', WHERE WHAT IT READS IS OF BULK AT MOST 1048576: true; the input reads as it did. -/
def slcTellsUptoRow : OpenClaim := { program := "ytblmdlhdfiafgaadoor", sum := "6d8fc500f2b84eb5cb6fd60a703887b8585eb127e8dcd0083ea87bc32ccee748", func := "linnet/linnetlaw07.SlcTells", spec := "slcTells", named := ["linnet/slc.commands"], apart := false, laid := [("linnet/slc.commands", laid_linnet_slc_commands)], narrowed := true }
def SlcTellsUptoSaid : Prop := slcTellsUptoRow.holds Tryd.pinned (OpenSpec.upto slcTellsSpec)

/-- 'linnetlaw07.SlcSignals', WHERE WHAT IT READS IS OF BULK AT MOST 1048576: true; the input reads as it did. -/
def slcSignalsUptoRow : OpenClaim := { program := "ytblmdlhdfiafgaadoor", sum := "6d8fc500f2b84eb5cb6fd60a703887b8585eb127e8dcd0083ea87bc32ccee748", func := "linnet/linnetlaw07.SlcSignals", spec := "slcSignals", named := ["linnet/slc.commands"], apart := false, laid := [("linnet/slc.commands", laid_linnet_slc_commands)], narrowed := true }
def SlcSignalsUptoSaid : Prop := slcSignalsUptoRow.holds Tryd.pinned (OpenSpec.upto slcSignalsSpec)

end Rows
end Go.Proofs.YtblmdlhdfiafgaaDoor
