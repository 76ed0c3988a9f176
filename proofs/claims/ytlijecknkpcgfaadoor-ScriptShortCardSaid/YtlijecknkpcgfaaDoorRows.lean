/-
  NARROWER THAN 'FOR EVERY INPUT', by the rows' own cells (each row's printed sentence says how): ScriptJoins: laid · ScriptShort: laid · ScriptLong: laid · ScriptWeights: laid · ScriptTells: laid · ScriptBack: laid.
  DERIVED. THE GIVEN ROWS OF THIS SEAT. 6 by the template 'for every input the law returns true; each argument reads behind the call as it read before'; 0 by the template 'total and deterministic' (their statements: YtlijecknkpcgfaaDoorTotals.lean).
  GIVEN WITH THE SEED: the statements are not yours to turn. If you find one false, say at which input.
  Laid BY PROGRAM, IN A SANDBOX (cutbox-rows.mjs): the forced cells as the released guide's own fill.sh prints them over the translation 79ff06dfc0e50332… (all of the seat's roots in one cut). By AI agents, Wed Nov 11 2026. No macro, syntax, notation, axiom, sorry.
-/
import Derived.Test.YtlijecknkpcgfaaDoorChecked
import GoSem.PinnedTables
import GoSem.Claim
import GoSem.ClaimJoined
import GoSem.ClaimMapViews
import Derived.JoinedTies
import Derived.KernelRfl
namespace Go.Proofs.YtlijecknkpcgfaaDoor
/- THE CELL 'sum', in the pinned program and in every row, IS THE sha256 OF THE DUMP (.gsa) THAT YtlijecknkpcgfaaDoorProg.lean LOADS. Nothing in Lean hashes anything: it is a label: what it is worth is what the hold of that sum in a sandbox is worth. -/
noncomputable def Tryd.pinned : Pinned := { name := "ytlijecknkpcgfaadoor", sum := "79ff06dfc0e50332eca23e38a912fa95acbced165e9310131490ce150689ffb7", checked := Tryd.checked }
namespace Rows
def none {H : Type} : Left H := { results := [], args := [] }

/- WHAT THE LISTED PACKAGE-LEVEL VARIABLES READ AS WHEN THE CALL BEGINS. Each datum BY PROGRAM (the guide's laid-datum.mjs) off the statement by which the dump's own 'gosem.cut.vars' lays the variable. In a bare row this is a premise. The card (YtlijecknkpcgfaaDoorCards.lean) ties it to the program's text. -/
def laid_unicode_utf8_acceptRanges {H : Type} : DataW H := .agg [.agg [.lit (.int .u8 128), .lit (.int .u8 191)], .agg [.lit (.int .u8 160), .lit (.int .u8 191)], .agg [.lit (.int .u8 128), .lit (.int .u8 159)], .agg [.lit (.int .u8 144), .lit (.int .u8 191)], .agg [.lit (.int .u8 128), .lit (.int .u8 143)], .agg [.lit (.int .u8 0), .lit (.int .u8 0)], .agg [.lit (.int .u8 0), .lit (.int .u8 0)], .agg [.lit (.int .u8 0), .lit (.int .u8 0)], .agg [.lit (.int .u8 0), .lit (.int .u8 0)], .agg [.lit (.int .u8 0), .lit (.int .u8 0)], .agg [.lit (.int .u8 0), .lit (.int .u8 0)], .agg [.lit (.int .u8 0), .lit (.int .u8 0)], .agg [.lit (.int .u8 0), .lit (.int .u8 0)], .agg [.lit (.int .u8 0), .lit (.int .u8 0)], .agg [.lit (.int .u8 0), .lit (.int .u8 0)], .agg [.lit (.int .u8 0), .lit (.int .u8 0)]]
/-- One of Go's own tables, pinned by name: the form's constant. -/
def laid_unicode_utf8_first : DataW Unit := Go.Pinned.utf8First

/-- 'linnetlaw22.ScriptJoins': WHATEVER THE INPUT: true; the input reads as it did. -/
def scriptJoinsSpec : ChangeSpec := { name := "scriptJoins", fn := fun _ => fun
  | [d1, d2] => { results := [.lit (.bool true)], args := [d1, d2] }
  | _ => none }
def scriptJoinsRow : OpenClaim := { program := "ytlijecknkpcgfaadoor", sum := "79ff06dfc0e50332eca23e38a912fa95acbced165e9310131490ce150689ffb7", func := "linnet/linnetlaw22.ScriptJoins", spec := "scriptJoins", inPlace := ["math.Float64bits", "math.Float64frombits"], unfollowed := true, recurses := true, named := ["unicode/utf8.first", "unicode/utf8.acceptRanges"], apart := false, laid := [("unicode/utf8.acceptRanges", laid_unicode_utf8_acceptRanges), ("unicode/utf8.first", laid_unicode_utf8_first)] }
def ScriptJoinsSaid : Prop := scriptJoinsRow.holds Tryd.pinned (OpenSpec.ofChange scriptJoinsSpec)

/-- ITS FALSE NEIGHBOUR: 'it returns false'. Refute it at one input. -/
def scriptJoinsWrong : ChangeSpec := { name := "scriptJoins", fn := fun _ => fun
  | [d1, d2] => { results := [.lit (.bool false)], args := [d1, d2] }
  | _ => none }
def ScriptJoinsWrongFalsely : Prop := scriptJoinsRow.holds Tryd.pinned (OpenSpec.ofChange scriptJoinsWrong)

/-- 'linnetlaw22.ScriptShort': WHATEVER THE INPUT: true; the input reads as it did. -/
def scriptShortSpec : ChangeSpec := { name := "scriptShort", fn := fun _ => fun
  | [d] => { results := [.lit (.bool true)], args := [d] }
  | _ => none }
def scriptShortRow : OpenClaim := { program := "ytlijecknkpcgfaadoor", sum := "79ff06dfc0e50332eca23e38a912fa95acbced165e9310131490ce150689ffb7", func := "linnet/linnetlaw22.ScriptShort", spec := "scriptShort", inPlace := ["math.Float64bits", "math.Float64frombits"], unfollowed := true, recurses := true, named := ["unicode/utf8.first", "unicode/utf8.acceptRanges"], apart := false, laid := [("unicode/utf8.acceptRanges", laid_unicode_utf8_acceptRanges), ("unicode/utf8.first", laid_unicode_utf8_first)] }
def ScriptShortSaid : Prop := scriptShortRow.holds Tryd.pinned (OpenSpec.ofChange scriptShortSpec)

/-- ITS FALSE NEIGHBOUR: 'it returns false'. Refute it at one input. -/
def scriptShortWrong : ChangeSpec := { name := "scriptShort", fn := fun _ => fun
  | [d] => { results := [.lit (.bool false)], args := [d] }
  | _ => none }
def ScriptShortWrongFalsely : Prop := scriptShortRow.holds Tryd.pinned (OpenSpec.ofChange scriptShortWrong)

/-- 'linnetlaw22.ScriptLong': WHATEVER THE INPUT: true; the input reads as it did. -/
def scriptLongSpec : ChangeSpec := { name := "scriptLong", fn := fun _ => fun
  | [d1, d2] => { results := [.lit (.bool true)], args := [d1, d2] }
  | _ => none }
def scriptLongRow : OpenClaim := { program := "ytlijecknkpcgfaadoor", sum := "79ff06dfc0e50332eca23e38a912fa95acbced165e9310131490ce150689ffb7", func := "linnet/linnetlaw22.ScriptLong", spec := "scriptLong", inPlace := ["math.Float64bits", "math.Float64frombits"], unfollowed := true, recurses := true, named := ["unicode/utf8.first", "unicode/utf8.acceptRanges"], apart := false, laid := [("unicode/utf8.acceptRanges", laid_unicode_utf8_acceptRanges), ("unicode/utf8.first", laid_unicode_utf8_first)] }
def ScriptLongSaid : Prop := scriptLongRow.holds Tryd.pinned (OpenSpec.ofChange scriptLongSpec)

/-- ITS FALSE NEIGHBOUR: 'it returns false'. Refute it at one input. -/
def scriptLongWrong : ChangeSpec := { name := "scriptLong", fn := fun _ => fun
  | [d1, d2] => { results := [.lit (.bool false)], args := [d1, d2] }
  | _ => none }
def ScriptLongWrongFalsely : Prop := scriptLongRow.holds Tryd.pinned (OpenSpec.ofChange scriptLongWrong)

/-- 'linnetlaw22.ScriptWeights': WHATEVER THE INPUT: true; the input reads as it did. -/
def scriptWeightsSpec : ChangeSpec := { name := "scriptWeights", fn := fun _ => fun
  | [d1, d2, d3] => { results := [.lit (.bool true)], args := [d1, d2, d3] }
  | _ => none }
def scriptWeightsRow : OpenClaim := { program := "ytlijecknkpcgfaadoor", sum := "79ff06dfc0e50332eca23e38a912fa95acbced165e9310131490ce150689ffb7", func := "linnet/linnetlaw22.ScriptWeights", spec := "scriptWeights", inPlace := ["math.Float64bits", "math.Float64frombits"], unfollowed := true, recurses := true, named := ["unicode/utf8.first", "unicode/utf8.acceptRanges"], apart := false, laid := [("unicode/utf8.acceptRanges", laid_unicode_utf8_acceptRanges), ("unicode/utf8.first", laid_unicode_utf8_first)] }
def ScriptWeightsSaid : Prop := scriptWeightsRow.holds Tryd.pinned (OpenSpec.ofChange scriptWeightsSpec)

/-- ITS FALSE NEIGHBOUR: 'it returns false'. Refute it at one input. -/
def scriptWeightsWrong : ChangeSpec := { name := "scriptWeights", fn := fun _ => fun
  | [d1, d2, d3] => { results := [.lit (.bool false)], args := [d1, d2, d3] }
  | _ => none }
def ScriptWeightsWrongFalsely : Prop := scriptWeightsRow.holds Tryd.pinned (OpenSpec.ofChange scriptWeightsWrong)

/-- 'linnetlaw22.ScriptTells': WHATEVER THE INPUT: true; the input reads as it did. -/
def scriptTellsSpec : ChangeSpec := { name := "scriptTells", fn := fun _ => fun
  | [d1, d2, d3] => { results := [.lit (.bool true)], args := [d1, d2, d3] }
  | _ => none }
def scriptTellsRow : OpenClaim := { program := "ytlijecknkpcgfaadoor", sum := "79ff06dfc0e50332eca23e38a912fa95acbced165e9310131490ce150689ffb7", func := "linnet/linnetlaw22.ScriptTells", spec := "scriptTells", inPlace := ["math.Float64bits", "math.Float64frombits"], unfollowed := true, recurses := true, named := ["unicode/utf8.first", "unicode/utf8.acceptRanges"], apart := false, laid := [("unicode/utf8.acceptRanges", laid_unicode_utf8_acceptRanges), ("unicode/utf8.first", laid_unicode_utf8_first)] }
def ScriptTellsSaid : Prop := scriptTellsRow.holds Tryd.pinned (OpenSpec.ofChange scriptTellsSpec)

/-- ITS FALSE NEIGHBOUR: 'it returns false'. Refute it at one input. -/
def scriptTellsWrong : ChangeSpec := { name := "scriptTells", fn := fun _ => fun
  | [d1, d2, d3] => { results := [.lit (.bool false)], args := [d1, d2, d3] }
  | _ => none }
def ScriptTellsWrongFalsely : Prop := scriptTellsRow.holds Tryd.pinned (OpenSpec.ofChange scriptTellsWrong)

/-- 'linnetlaw22.ScriptBack': WHATEVER THE INPUT: true; the input reads as it did. -/
def scriptBackSpec : ChangeSpec := { name := "scriptBack", fn := fun _ => fun
  | [d1, d2] => { results := [.lit (.bool true)], args := [d1, d2] }
  | _ => none }
def scriptBackRow : OpenClaim := { program := "ytlijecknkpcgfaadoor", sum := "79ff06dfc0e50332eca23e38a912fa95acbced165e9310131490ce150689ffb7", func := "linnet/linnetlaw22.ScriptBack", spec := "scriptBack", inPlace := ["math.Float64bits", "math.Float64frombits"], unfollowed := true, recurses := true, named := ["unicode/utf8.first", "unicode/utf8.acceptRanges"], apart := false, laid := [("unicode/utf8.acceptRanges", laid_unicode_utf8_acceptRanges), ("unicode/utf8.first", laid_unicode_utf8_first)] }
def ScriptBackSaid : Prop := scriptBackRow.holds Tryd.pinned (OpenSpec.ofChange scriptBackSpec)

/-- ITS FALSE NEIGHBOUR: 'it returns false'. Refute it at one input. -/
def scriptBackWrong : ChangeSpec := { name := "scriptBack", fn := fun _ => fun
  | [d1, d2] => { results := [.lit (.bool false)], args := [d1, d2] }
  | _ => none }
def ScriptBackWrongFalsely : Prop := scriptBackRow.holds Tryd.pinned (OpenSpec.ofChange scriptBackWrong)

/- THE SECOND FORM. 'bulk': how many values and letters a reading holds, each counted each time it is reached (what is shared counts as often as it is met; a slice's spare places count too). A statement '..UptoSaid' is the law's where the arguments, and the package variables that the reading takes, are together of bulk at most 1048576: NARROWER than '..Said'. Prove '..Said' where nothing that the law and all that it calls make is longer than what came in: it says more and counts as full. Else prove '..UptoSaid'. A law counts once. -/
mutual
def uptoBulk {H : Type} : DataW H → Nat
  | .lit (.string bytes) => bytes.length + 1
  | .lit _ => 1
  | .nil => 1
  | .ptr d => uptoBulk d + 1
  | .slice elems spare => uptoBulkAll elems + uptoBulkAll spare + 1
  | .agg parts => uptoBulkAll parts + 1
  | .iface _ d => uptoBulk d + 1
  | .map entries => uptoBulkEntries entries + 1
  | .held _ => 1
def uptoBulkAll {H : Type} : List (DataW H) → Nat
  | [] => 0
  | d :: r => uptoBulk d + uptoBulkAll r
def uptoBulkEntries {H : Type} : List (Lit × DataW H) → Nat
  | [] => 0
  | x :: r => uptoBulkEntry x + uptoBulkEntries r
def uptoBulkEntry {H : Type} : Lit × DataW H → Nat
  | (.string bytes, d) => bytes.length + uptoBulk d + 1
  | (_, d) => uptoBulk d + 1
 end
def uptoSmall : (H : Type) → List (DataW H) → Bool := fun _ ds => decide (uptoBulkAll ds ≤ 1048576)
def OpenSpec.upto (s : _root_.Go.ChangeSpec) : _root_.Go.OpenSpec := { _root_.Go.OpenSpec.ofChange s with cond := some uptoSmall }

/-- 'linnetlaw22.ScriptJoins', WHERE WHAT IT READS IS OF BULK AT MOST 1048576: true; the input reads as it did. -/
def scriptJoinsUptoRow : OpenClaim := { program := "ytlijecknkpcgfaadoor", sum := "79ff06dfc0e50332eca23e38a912fa95acbced165e9310131490ce150689ffb7", func := "linnet/linnetlaw22.ScriptJoins", spec := "scriptJoins", inPlace := ["math.Float64bits", "math.Float64frombits"], unfollowed := true, recurses := true, named := ["unicode/utf8.first", "unicode/utf8.acceptRanges"], apart := false, laid := [("unicode/utf8.acceptRanges", laid_unicode_utf8_acceptRanges), ("unicode/utf8.first", laid_unicode_utf8_first)], narrowed := true }
def ScriptJoinsUptoSaid : Prop := scriptJoinsUptoRow.holds Tryd.pinned (OpenSpec.upto scriptJoinsSpec)

/-- 'linnetlaw22.ScriptShort', WHERE WHAT IT READS IS OF BULK AT MOST 1048576: true; the input reads as it did. -/
def scriptShortUptoRow : OpenClaim := { program := "ytlijecknkpcgfaadoor", sum := "79ff06dfc0e50332eca23e38a912fa95acbced165e9310131490ce150689ffb7", func := "linnet/linnetlaw22.ScriptShort", spec := "scriptShort", inPlace := ["math.Float64bits", "math.Float64frombits"], unfollowed := true, recurses := true, named := ["unicode/utf8.first", "unicode/utf8.acceptRanges"], apart := false, laid := [("unicode/utf8.acceptRanges", laid_unicode_utf8_acceptRanges), ("unicode/utf8.first", laid_unicode_utf8_first)], narrowed := true }
def ScriptShortUptoSaid : Prop := scriptShortUptoRow.holds Tryd.pinned (OpenSpec.upto scriptShortSpec)

/-- 'linnetlaw22.ScriptLong', WHERE WHAT IT READS IS OF BULK AT MOST 1048576: true; the input reads as it did. -/
def scriptLongUptoRow : OpenClaim := { program := "ytlijecknkpcgfaadoor", sum := "79ff06dfc0e50332eca23e38a912fa95acbced165e9310131490ce150689ffb7", func := "linnet/linnetlaw22.ScriptLong", spec := "scriptLong", inPlace := ["math.Float64bits", "math.Float64frombits"], unfollowed := true, recurses := true, named := ["unicode/utf8.first", "unicode/utf8.acceptRanges"], apart := false, laid := [("unicode/utf8.acceptRanges", laid_unicode_utf8_acceptRanges), ("unicode/utf8.first", laid_unicode_utf8_first)], narrowed := true }
def ScriptLongUptoSaid : Prop := scriptLongUptoRow.holds Tryd.pinned (OpenSpec.upto scriptLongSpec)

/-- 'linnetlaw22.ScriptWeights', WHERE WHAT IT READS IS OF BULK AT MOST 1048576: true; the input reads as it did. -/
def scriptWeightsUptoRow : OpenClaim := { program := "ytlijecknkpcgfaadoor", sum := "79ff06dfc0e50332eca23e38a912fa95acbced165e9310131490ce150689ffb7", func := "linnet/linnetlaw22.ScriptWeights", spec := "scriptWeights", inPlace := ["math.Float64bits", "math.Float64frombits"], unfollowed := true, recurses := true, named := ["unicode/utf8.first", "unicode/utf8.acceptRanges"], apart := false, laid := [("unicode/utf8.acceptRanges", laid_unicode_utf8_acceptRanges), ("unicode/utf8.first", laid_unicode_utf8_first)], narrowed := true }
def ScriptWeightsUptoSaid : Prop := scriptWeightsUptoRow.holds Tryd.pinned (OpenSpec.upto scriptWeightsSpec)

/-- 'linnetlaw22.ScriptTells', WHERE WHAT IT READS IS OF BULK AT MOST 1048576: true; the input reads as it did. -/
def scriptTellsUptoRow : OpenClaim := { program := "ytlijecknkpcgfaadoor", sum := "79ff06dfc0e50332eca23e38a912fa95acbced165e9310131490ce150689ffb7", func := "linnet/linnetlaw22.ScriptTells", spec := "scriptTells", inPlace := ["math.Float64bits", "math.Float64frombits"], unfollowed := true, recurses := true, named := ["unicode/utf8.first", "unicode/utf8.acceptRanges"], apart := false, laid := [("unicode/utf8.acceptRanges", laid_unicode_utf8_acceptRanges), ("unicode/utf8.first", laid_unicode_utf8_first)], narrowed := true }
def ScriptTellsUptoSaid : Prop := scriptTellsUptoRow.holds Tryd.pinned (OpenSpec.upto scriptTellsSpec)

/-- 'linnetlaw22.ScriptBack', WHERE WHAT IT READS IS OF BULK AT MOST 1048576: true; the input reads as it did. -/
def scriptBackUptoRow : OpenClaim := { program := "ytlijecknkpcgfaadoor", sum := "79ff06dfc0e50332eca23e38a912fa95acbced165e9310131490ce150689ffb7", func := "linnet/linnetlaw22.ScriptBack", spec := "scriptBack", inPlace := ["math.Float64bits", "math.Float64frombits"], unfollowed := true, recurses := true, named := ["unicode/utf8.first", "unicode/utf8.acceptRanges"], apart := false, laid := [("unicode/utf8.acceptRanges", laid_unicode_utf8_acceptRanges), ("unicode/utf8.first", laid_unicode_utf8_first)], narrowed := true }
def ScriptBackUptoSaid : Prop := scriptBackUptoRow.holds Tryd.pinned (OpenSpec.upto scriptBackSpec)

end Rows
end Go.Proofs.YtlijecknkpcgfaaDoor
