/-
  NARROWER THAN 'FOR EVERY INPUT', by the rows' own cells (each row's printed sentence says how): LineParts: laid · LineMoves: laid · LineKeeps: laid · LineWords: laid · LineTells: laid · LineStays: laid · LineBack: laid.
  DERIVED. THE GIVEN ROWS OF THIS SEAT. 7 by the template 'for every input the law returns true; each argument reads behind the call as it read before'; 0 by the template 'total and deterministic' (their statements: YthigibfnpfamdaaDoorTotals.lean).
  GIVEN WITH THE SEED: the statements are not yours to turn. If you find one false, say at which input.
  Laid BY PROGRAM, IN A SANDBOX (cutbox-rows.mjs): the forced cells as the released guide's own fill.sh prints them over the translation a101c03185ee29f2… (all of the seat's roots in one cut). By AI agents, Wed Nov 11 2026. No macro, syntax, notation, axiom, sorry.
-/
import Derived.Test.YthigibfnpfamdaaDoorChecked
import GoSem.PinnedTables
import GoSem.Claim
import GoSem.ClaimJoined
import GoSem.ClaimMapViews
import Derived.JoinedTies
import Derived.KernelRfl
namespace Go.Proofs.YthigibfnpfamdaaDoor
/- THE CELL 'sum', in the pinned program and in every row, IS THE sha256 OF THE DUMP (.gsa) THAT YthigibfnpfamdaaDoorProg.lean LOADS. Nothing in Lean hashes anything: it is a label: what it is worth is what the hold of that sum in a sandbox is worth. -/
noncomputable def Tryd.pinned : Pinned := { name := "ythigibfnpfamdaadoor", sum := "a101c03185ee29f2d1e4c2227b925a9694dc77b06bf3e91b0b70701e0095bc69", checked := Tryd.checked }
namespace Rows
def none {H : Type} : Left H := { results := [], args := [] }

/- WHAT THE LISTED PACKAGE-LEVEL VARIABLES READ AS WHEN THE CALL BEGINS. Each datum BY PROGRAM (the guide's laid-datum.mjs) off the statement by which the dump's own 'gosem.cut.vars' lays the variable. In a bare row this is a premise. The card (YthigibfnpfamdaaDoorCards.lean) ties it to the program's text. -/
def laid_unicode_utf8_acceptRanges {H : Type} : DataW H := .agg [.agg [.lit (.int .u8 128), .lit (.int .u8 191)], .agg [.lit (.int .u8 160), .lit (.int .u8 191)], .agg [.lit (.int .u8 128), .lit (.int .u8 159)], .agg [.lit (.int .u8 144), .lit (.int .u8 191)], .agg [.lit (.int .u8 128), .lit (.int .u8 143)], .agg [.lit (.int .u8 0), .lit (.int .u8 0)], .agg [.lit (.int .u8 0), .lit (.int .u8 0)], .agg [.lit (.int .u8 0), .lit (.int .u8 0)], .agg [.lit (.int .u8 0), .lit (.int .u8 0)], .agg [.lit (.int .u8 0), .lit (.int .u8 0)], .agg [.lit (.int .u8 0), .lit (.int .u8 0)], .agg [.lit (.int .u8 0), .lit (.int .u8 0)], .agg [.lit (.int .u8 0), .lit (.int .u8 0)], .agg [.lit (.int .u8 0), .lit (.int .u8 0)], .agg [.lit (.int .u8 0), .lit (.int .u8 0)], .agg [.lit (.int .u8 0), .lit (.int .u8 0)]]
/-- One of Go's own tables, pinned by name: the form's constant. -/
def laid_unicode_utf8_first : DataW Unit := Go.Pinned.utf8First

/-- 'linnetlaw12.LineParts': WHATEVER THE INPUT: true; the input reads as it did. -/
def linePartsSpec : ChangeSpec := { name := "lineParts", fn := fun _ => fun
  | [d] => { results := [.lit (.bool true)], args := [d] }
  | _ => none }
def linePartsRow : OpenClaim := { program := "ythigibfnpfamdaadoor", sum := "a101c03185ee29f2d1e4c2227b925a9694dc77b06bf3e91b0b70701e0095bc69", func := "linnet/linnetlaw12.LineParts", spec := "lineParts", unfollowed := true, recurses := true, named := ["unicode/utf8.first", "unicode/utf8.acceptRanges"], apart := false, laid := [("unicode/utf8.acceptRanges", laid_unicode_utf8_acceptRanges), ("unicode/utf8.first", laid_unicode_utf8_first)] }
def LinePartsSaid : Prop := linePartsRow.holds Tryd.pinned (OpenSpec.ofChange linePartsSpec)

/-- ITS FALSE NEIGHBOUR: 'it returns false'. Refute it at one input. -/
def linePartsWrong : ChangeSpec := { name := "lineParts", fn := fun _ => fun
  | [d] => { results := [.lit (.bool false)], args := [d] }
  | _ => none }
def LinePartsWrongFalsely : Prop := linePartsRow.holds Tryd.pinned (OpenSpec.ofChange linePartsWrong)

/-- 'linnetlaw12.LineMoves': WHATEVER THE INPUT: true; the input reads as it did. -/
def lineMovesSpec : ChangeSpec := { name := "lineMoves", fn := fun _ => fun
  | [d1, d2] => { results := [.lit (.bool true)], args := [d1, d2] }
  | _ => none }
def lineMovesRow : OpenClaim := { program := "ythigibfnpfamdaadoor", sum := "a101c03185ee29f2d1e4c2227b925a9694dc77b06bf3e91b0b70701e0095bc69", func := "linnet/linnetlaw12.LineMoves", spec := "lineMoves", unfollowed := true, recurses := true, named := ["unicode/utf8.first", "unicode/utf8.acceptRanges"], apart := false, laid := [("unicode/utf8.acceptRanges", laid_unicode_utf8_acceptRanges), ("unicode/utf8.first", laid_unicode_utf8_first)] }
def LineMovesSaid : Prop := lineMovesRow.holds Tryd.pinned (OpenSpec.ofChange lineMovesSpec)

/-- ITS FALSE NEIGHBOUR: 'it returns false'. Refute it at one input. -/
def lineMovesWrong : ChangeSpec := { name := "lineMoves", fn := fun _ => fun
  | [d1, d2] => { results := [.lit (.bool false)], args := [d1, d2] }
  | _ => none }
def LineMovesWrongFalsely : Prop := lineMovesRow.holds Tryd.pinned (OpenSpec.ofChange lineMovesWrong)

/-- 'linnetlaw12.LineKeeps': WHATEVER THE INPUT: true; the input reads as it did. -/
def lineKeepsSpec : ChangeSpec := { name := "lineKeeps", fn := fun _ => fun
  | [d1, d2, d3] => { results := [.lit (.bool true)], args := [d1, d2, d3] }
  | _ => none }
def lineKeepsRow : OpenClaim := { program := "ythigibfnpfamdaadoor", sum := "a101c03185ee29f2d1e4c2227b925a9694dc77b06bf3e91b0b70701e0095bc69", func := "linnet/linnetlaw12.LineKeeps", spec := "lineKeeps", unfollowed := true, recurses := true, named := ["unicode/utf8.first", "unicode/utf8.acceptRanges"], apart := false, laid := [("unicode/utf8.acceptRanges", laid_unicode_utf8_acceptRanges), ("unicode/utf8.first", laid_unicode_utf8_first)] }
def LineKeepsSaid : Prop := lineKeepsRow.holds Tryd.pinned (OpenSpec.ofChange lineKeepsSpec)

/-- ITS FALSE NEIGHBOUR: 'it returns false'. Refute it at one input. -/
def lineKeepsWrong : ChangeSpec := { name := "lineKeeps", fn := fun _ => fun
  | [d1, d2, d3] => { results := [.lit (.bool false)], args := [d1, d2, d3] }
  | _ => none }
def LineKeepsWrongFalsely : Prop := lineKeepsRow.holds Tryd.pinned (OpenSpec.ofChange lineKeepsWrong)

/-- 'linnetlaw12.LineWords': WHATEVER THE INPUT: true; the input reads as it did. -/
def lineWordsSpec : ChangeSpec := { name := "lineWords", fn := fun _ => fun
  | [d] => { results := [.lit (.bool true)], args := [d] }
  | _ => none }
def lineWordsRow : OpenClaim := { program := "ythigibfnpfamdaadoor", sum := "a101c03185ee29f2d1e4c2227b925a9694dc77b06bf3e91b0b70701e0095bc69", func := "linnet/linnetlaw12.LineWords", spec := "lineWords", unfollowed := true, recurses := true, named := ["unicode/utf8.first", "unicode/utf8.acceptRanges"], apart := false, laid := [("unicode/utf8.acceptRanges", laid_unicode_utf8_acceptRanges), ("unicode/utf8.first", laid_unicode_utf8_first)] }
def LineWordsSaid : Prop := lineWordsRow.holds Tryd.pinned (OpenSpec.ofChange lineWordsSpec)

/-- ITS FALSE NEIGHBOUR: 'it returns false'. Refute it at one input. -/
def lineWordsWrong : ChangeSpec := { name := "lineWords", fn := fun _ => fun
  | [d] => { results := [.lit (.bool false)], args := [d] }
  | _ => none }
def LineWordsWrongFalsely : Prop := lineWordsRow.holds Tryd.pinned (OpenSpec.ofChange lineWordsWrong)

/-- 'linnetlaw12.LineTells': WHATEVER THE INPUT: true; the input reads as it did. -/
def lineTellsSpec : ChangeSpec := { name := "lineTells", fn := fun _ => fun
  | [d1, d2, d3] => { results := [.lit (.bool true)], args := [d1, d2, d3] }
  | _ => none }
def lineTellsRow : OpenClaim := { program := "ythigibfnpfamdaadoor", sum := "a101c03185ee29f2d1e4c2227b925a9694dc77b06bf3e91b0b70701e0095bc69", func := "linnet/linnetlaw12.LineTells", spec := "lineTells", unfollowed := true, recurses := true, named := ["unicode/utf8.first", "unicode/utf8.acceptRanges"], apart := false, laid := [("unicode/utf8.acceptRanges", laid_unicode_utf8_acceptRanges), ("unicode/utf8.first", laid_unicode_utf8_first)] }
def LineTellsSaid : Prop := lineTellsRow.holds Tryd.pinned (OpenSpec.ofChange lineTellsSpec)

/-- ITS FALSE NEIGHBOUR: 'it returns false'. Refute it at one input. -/
def lineTellsWrong : ChangeSpec := { name := "lineTells", fn := fun _ => fun
  | [d1, d2, d3] => { results := [.lit (.bool false)], args := [d1, d2, d3] }
  | _ => none }
def LineTellsWrongFalsely : Prop := lineTellsRow.holds Tryd.pinned (OpenSpec.ofChange lineTellsWrong)

/-- 'linnetlaw12.LineStays': WHATEVER THE INPUT: true; the input reads as it did. -/
def lineStaysSpec : ChangeSpec := { name := "lineStays", fn := fun _ => fun
  | [d1, d2, d3] => { results := [.lit (.bool true)], args := [d1, d2, d3] }
  | _ => none }
def lineStaysRow : OpenClaim := { program := "ythigibfnpfamdaadoor", sum := "a101c03185ee29f2d1e4c2227b925a9694dc77b06bf3e91b0b70701e0095bc69", func := "linnet/linnetlaw12.LineStays", spec := "lineStays", unfollowed := true, recurses := true, named := ["unicode/utf8.first", "unicode/utf8.acceptRanges"], apart := false, laid := [("unicode/utf8.acceptRanges", laid_unicode_utf8_acceptRanges), ("unicode/utf8.first", laid_unicode_utf8_first)] }
def LineStaysSaid : Prop := lineStaysRow.holds Tryd.pinned (OpenSpec.ofChange lineStaysSpec)

/-- ITS FALSE NEIGHBOUR: 'it returns false'. Refute it at one input. -/
def lineStaysWrong : ChangeSpec := { name := "lineStays", fn := fun _ => fun
  | [d1, d2, d3] => { results := [.lit (.bool false)], args := [d1, d2, d3] }
  | _ => none }
def LineStaysWrongFalsely : Prop := lineStaysRow.holds Tryd.pinned (OpenSpec.ofChange lineStaysWrong)

/-- 'linnetlaw12.LineBack': WHATEVER THE INPUT: true; the input reads as it did. -/
def lineBackSpec : ChangeSpec := { name := "lineBack", fn := fun _ => fun
  | [d1, d2] => { results := [.lit (.bool true)], args := [d1, d2] }
  | _ => none }
def lineBackRow : OpenClaim := { program := "ythigibfnpfamdaadoor", sum := "a101c03185ee29f2d1e4c2227b925a9694dc77b06bf3e91b0b70701e0095bc69", func := "linnet/linnetlaw12.LineBack", spec := "lineBack", unfollowed := true, recurses := true, named := ["unicode/utf8.first", "unicode/utf8.acceptRanges"], apart := false, laid := [("unicode/utf8.acceptRanges", laid_unicode_utf8_acceptRanges), ("unicode/utf8.first", laid_unicode_utf8_first)] }
def LineBackSaid : Prop := lineBackRow.holds Tryd.pinned (OpenSpec.ofChange lineBackSpec)

/-- ITS FALSE NEIGHBOUR: 'it returns false'. Refute it at one input. -/
def lineBackWrong : ChangeSpec := { name := "lineBack", fn := fun _ => fun
  | [d1, d2] => { results := [.lit (.bool false)], args := [d1, d2] }
  | _ => none }
def LineBackWrongFalsely : Prop := lineBackRow.holds Tryd.pinned (OpenSpec.ofChange lineBackWrong)

/- THE SECOND FORM. 'bulk': how many values and letters a reading holds, each counted each time it is reached (what is shared counts as often as it is met; a slice's spare places count too). A statement '..UptoSaid' is the law's where the arguments, and the package variables that the reading takes, are together of bulk at most 1048576: NARROWER than '..Said'. Prove '..Said' where nothing that the law and all that it calls make is longer than what came in: it says more and counts as full. Else prove '..UptoSaid'. A law counts once. -/
mutual
def uptoBulk {H : Type} : DataW H → Nat
  | .lit (.string bytes) => bytes.length + 1
  | .lit _ => 1
  | .nil => 1
  | .ptr d => uptoBulk d + 1
  | .slice elems spare => uptoBulkAll elems + uptoBulkAll spare + 1
  | .agg parts => uptoBulkAll parts + 1
  | .iface _ d => uptoBulk d + 1
  | .map entries => uptoBulkEntries entries + 1
  | .held _ => 1
def uptoBulkAll {H : Type} : List (DataW H) → Nat
  | [] => 0
  | d :: r => uptoBulk d + uptoBulkAll r
def uptoBulkEntries {H : Type} : List (Lit × DataW H) → Nat
  | [] => 0
  | x :: r => uptoBulkEntry x + uptoBulkEntries r
def uptoBulkEntry {H : Type} : Lit × DataW H → Nat
  | (.string bytes, d) => bytes.length + uptoBulk d + 1
  | (_, d) => uptoBulk d + 1
 end
def uptoSmall : (H : Type) → List (DataW H) → Bool := fun _ ds => decide (uptoBulkAll ds ≤ 1048576)
def OpenSpec.upto (s : _root_.Go.ChangeSpec) : _root_.Go.OpenSpec := { _root_.Go.OpenSpec.ofChange s with cond := some uptoSmall }

/-- 'linnetlaw12.LineParts', WHERE WHAT IT READS IS OF BULK AT MOST 1048576: true; the input reads as it did. -/
def linePartsUptoRow : OpenClaim := { program := "ythigibfnpfamdaadoor", sum := "a101c03185ee29f2d1e4c2227b925a9694dc77b06bf3e91b0b70701e0095bc69", func := "linnet/linnetlaw12.LineParts", spec := "lineParts", unfollowed := true, recurses := true, named := ["unicode/utf8.first", "unicode/utf8.acceptRanges"], apart := false, laid := [("unicode/utf8.acceptRanges", laid_unicode_utf8_acceptRanges), ("unicode/utf8.first", laid_unicode_utf8_first)], narrowed := true }
def LinePartsUptoSaid : Prop := linePartsUptoRow.holds Tryd.pinned (OpenSpec.upto linePartsSpec)

/-- 'linnetlaw12.LineMoves', WHERE WHAT IT READS IS OF BULK AT MOST 1048576: true; the input reads as it did. -/
def lineMovesUptoRow : OpenClaim := { program := "ythigibfnpfamdaadoor", sum := "a101c03185ee29f2d1e4c2227b925a9694dc77b06bf3e91b0b70701e0095bc69", func := "linnet/linnetlaw12.LineMoves", spec := "lineMoves", unfollowed := true, recurses := true, named := ["unicode/utf8.first", "unicode/utf8.acceptRanges"], apart := false, laid := [("unicode/utf8.acceptRanges", laid_unicode_utf8_acceptRanges), ("unicode/utf8.first", laid_unicode_utf8_first)], narrowed := true }
def LineMovesUptoSaid : Prop := lineMovesUptoRow.holds Tryd.pinned (OpenSpec.upto lineMovesSpec)

/-- 'linnetlaw12.LineKeeps', WHERE WHAT IT READS IS OF BULK AT MOST 1048576: true; the input reads as it did. -/
def lineKeepsUptoRow : OpenClaim := { program := "ythigibfnpfamdaadoor", sum := "a101c03185ee29f2d1e4c2227b925a9694dc77b06bf3e91b0b70701e0095bc69", func := "linnet/linnetlaw12.LineKeeps", spec := "lineKeeps", unfollowed := true, recurses := true, named := ["unicode/utf8.first", "unicode/utf8.acceptRanges"], apart := false, laid := [("unicode/utf8.acceptRanges", laid_unicode_utf8_acceptRanges), ("unicode/utf8.first", laid_unicode_utf8_first)], narrowed := true }
def LineKeepsUptoSaid : Prop := lineKeepsUptoRow.holds Tryd.pinned (OpenSpec.upto lineKeepsSpec)

/-- 'linnetlaw12.LineWords', WHERE WHAT IT READS IS OF BULK AT MOST 1048576: true; the input reads as it did. -/
def lineWordsUptoRow : OpenClaim := { program := "ythigibfnpfamdaadoor", sum := "a101c03185ee29f2d1e4c2227b925a9694dc77b06bf3e91b0b70701e0095bc69", func := "linnet/linnetlaw12.LineWords", spec := "lineWords", unfollowed := true, recurses := true, named := ["unicode/utf8.first", "unicode/utf8.acceptRanges"], apart := false, laid := [("unicode/utf8.acceptRanges", laid_unicode_utf8_acceptRanges), ("unicode/utf8.first", laid_unicode_utf8_first)], narrowed := true }
def LineWordsUptoSaid : Prop := lineWordsUptoRow.holds Tryd.pinned (OpenSpec.upto lineWordsSpec)

/-- 'linnetlaw12.LineTells', WHERE WHAT IT READS IS OF BULK AT MOST 1048576: true; the input reads as it did. -/
def lineTellsUptoRow : OpenClaim := { program := "ythigibfnpfamdaadoor", sum := "a101c03185ee29f2d1e4c2227b925a9694dc77b06bf3e91b0b70701e0095bc69", func := "linnet/linnetlaw12.LineTells", spec := "lineTells", unfollowed := true, recurses := true, named := ["unicode/utf8.first", "unicode/utf8.acceptRanges"], apart := false, laid := [("unicode/utf8.acceptRanges", laid_unicode_utf8_acceptRanges), ("unicode/utf8.first", laid_unicode_utf8_first)], narrowed := true }
def LineTellsUptoSaid : Prop := lineTellsUptoRow.holds Tryd.pinned (OpenSpec.upto lineTellsSpec)

/-- 'linnetlaw12.LineStays', WHERE WHAT IT READS IS OF BULK AT MOST 1048576: true; the input reads as it did. -/
def lineStaysUptoRow : OpenClaim := { program := "ythigibfnpfamdaadoor", sum := "a101c03185ee29f2d1e4c2227b925a9694dc77b06bf3e91b0b70701e0095bc69", func := "linnet/linnetlaw12.LineStays", spec := "lineStays", unfollowed := true, recurses := true, named := ["unicode/utf8.first", "unicode/utf8.acceptRanges"], apart := false, laid := [("unicode/utf8.acceptRanges", laid_unicode_utf8_acceptRanges), ("unicode/utf8.first", laid_unicode_utf8_first)], narrowed := true }
def LineStaysUptoSaid : Prop := lineStaysUptoRow.holds Tryd.pinned (OpenSpec.upto lineStaysSpec)

/-- 'linnetlaw12.LineBack', WHERE WHAT IT READS IS OF BULK AT MOST 1048576: true; the input reads as it did. -/
def lineBackUptoRow : OpenClaim := { program := "ythigibfnpfamdaadoor", sum := "a101c03185ee29f2d1e4c2227b925a9694dc77b06bf3e91b0b70701e0095bc69", func := "linnet/linnetlaw12.LineBack", spec := "lineBack", unfollowed := true, recurses := true, named := ["unicode/utf8.first", "unicode/utf8.acceptRanges"], apart := false, laid := [("unicode/utf8.acceptRanges", laid_unicode_utf8_acceptRanges), ("unicode/utf8.first", laid_unicode_utf8_first)], narrowed := true }
def LineBackUptoSaid : Prop := lineBackUptoRow.holds Tryd.pinned (OpenSpec.upto lineBackSpec)

end Rows
end Go.Proofs.YthigibfnpfamdaaDoor
