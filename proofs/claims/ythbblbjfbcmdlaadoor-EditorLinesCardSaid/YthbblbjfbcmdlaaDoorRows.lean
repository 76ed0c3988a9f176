/-
  NARROWER THAN 'FOR EVERY INPUT', by the rows' own cells (each row's printed sentence says how): EditorGoes: laid · EditorOne: laid · EditorLit: laid · EditorLines: laid · EditorTells: laid · EditorSignals: laid.
  DERIVED. THE GIVEN ROWS OF THIS SEAT. 6 by the template 'for every input the law returns true; each argument reads behind the call as it read before'; 0 by the template 'total and deterministic' (their statements: YthbblbjfbcmdlaaDoorTotals.lean).
  GIVEN WITH THE SEED: the statements are not yours to turn. If you find one false, say at which input.
  Laid BY PROGRAM, IN A SANDBOX (cutbox-rows.mjs): the forced cells as the released guide's own fill.sh prints them over the translation 2aeb9fef4259878d… (all of the seat's roots in one cut). By AI agents, Wed Nov 11 2026. No macro, syntax, notation, axiom, sorry.
-/
import Derived.Test.YthbblbjfbcmdlaaDoorChecked
import GoSem.PinnedTables
import GoSem.Claim
import GoSem.ClaimJoined
import GoSem.ClaimMapViews
import Derived.JoinedTies
import Derived.KernelRfl
namespace Go.Proofs.YthbblbjfbcmdlaaDoor
/- THE CELL 'sum', in the pinned program and in every row, IS THE sha256 OF THE DUMP (.gsa) THAT YthbblbjfbcmdlaaDoorProg.lean LOADS. Nothing in Lean hashes anything: it is a label: what it is worth is what the hold of that sum in a sandbox is worth. -/
noncomputable def Tryd.pinned : Pinned := { name := "ythbblbjfbcmdlaadoor", sum := "2aeb9fef4259878dd9c5f77be9779bdeb480ad087d77fd3b4ad92f38494eae5f", checked := Tryd.checked }
namespace Rows
def none {H : Type} : Left H := { results := [], args := [] }

/- WHAT THE LISTED PACKAGE-LEVEL VARIABLES READ AS WHEN THE CALL BEGINS. Each datum BY PROGRAM (the guide's laid-datum.mjs) off the statement by which the dump's own 'gosem.cut.vars' lays the variable. In a bare row this is a premise. The card (YthbblbjfbcmdlaaDoorCards.lean) ties it to the program's text. -/
def laid_linnet_table_standard {H : Type} : DataW H := .agg [.lit (.int .u8 0), .lit (.int .u8 0), .lit (.int .u8 0), .lit (.int .u8 3), .lit (.int .u8 15), .lit (.int .u8 20), .lit (.int .u8 0), .lit (.int .u8 28), .lit (.int .u8 4), .lit (.int .u8 26), .lit (.int .u8 127), .lit (.int .u8 21), .lit (.int .u8 23), .lit (.int .u8 18), .lit (.int .u8 22), .lit (.int .u8 17), .lit (.int .u8 19), .lit (.int .u8 0), .lit (.int .u8 0), .lit (.int .u8 2), .lit (.int .u8 6), .lit (.int .u8 25), .lit (.int .u8 24), .lit (.int .u8 1), .lit (.int .u8 5), .lit (.int .u8 9), .lit (.int .u8 16), .lit (.int .u8 8), .lit (.int .u8 14), .lit (.int .u8 29), .lit (.int .u8 11)]
def laid_unicode_utf8_acceptRanges {H : Type} : DataW H := .agg [.agg [.lit (.int .u8 128), .lit (.int .u8 191)], .agg [.lit (.int .u8 160), .lit (.int .u8 191)], .agg [.lit (.int .u8 128), .lit (.int .u8 159)], .agg [.lit (.int .u8 144), .lit (.int .u8 191)], .agg [.lit (.int .u8 128), .lit (.int .u8 143)], .agg [.lit (.int .u8 0), .lit (.int .u8 0)], .agg [.lit (.int .u8 0), .lit (.int .u8 0)], .agg [.lit (.int .u8 0), .lit (.int .u8 0)], .agg [.lit (.int .u8 0), .lit (.int .u8 0)], .agg [.lit (.int .u8 0), .lit (.int .u8 0)], .agg [.lit (.int .u8 0), .lit (.int .u8 0)], .agg [.lit (.int .u8 0), .lit (.int .u8 0)], .agg [.lit (.int .u8 0), .lit (.int .u8 0)], .agg [.lit (.int .u8 0), .lit (.int .u8 0)], .agg [.lit (.int .u8 0), .lit (.int .u8 0)], .agg [.lit (.int .u8 0), .lit (.int .u8 0)]]
/-- One of Go's own tables, pinned by name: the form's constant. -/
def laid_unicode_utf8_first : DataW Unit := Go.Pinned.utf8First

/-- 'linnetlaw13.EditorGoes': WHATEVER THE INPUT: true; the input reads as it did. -/
def editorGoesSpec : ChangeSpec := { name := "editorGoes", fn := fun _ => fun
  | [d1, d2, d3] => { results := [.lit (.bool true)], args := [d1, d2, d3] }
  | _ => none }
def editorGoesRow : OpenClaim := { program := "ythbblbjfbcmdlaadoor", sum := "2aeb9fef4259878dd9c5f77be9779bdeb480ad087d77fd3b4ad92f38494eae5f", func := "linnet/linnetlaw13.EditorGoes", spec := "editorGoes", unfollowed := true, recurses := true, named := ["unicode/utf8.first", "unicode/utf8.acceptRanges", "linnet/table.standard"], apart := false, laid := [("linnet/table.standard", laid_linnet_table_standard), ("unicode/utf8.acceptRanges", laid_unicode_utf8_acceptRanges), ("unicode/utf8.first", laid_unicode_utf8_first)] }
def EditorGoesSaid : Prop := editorGoesRow.holds Tryd.pinned (OpenSpec.ofChange editorGoesSpec)

/-- ITS FALSE NEIGHBOUR: 'it returns false'. Refute it at one input. -/
def editorGoesWrong : ChangeSpec := { name := "editorGoes", fn := fun _ => fun
  | [d1, d2, d3] => { results := [.lit (.bool false)], args := [d1, d2, d3] }
  | _ => none }
def EditorGoesWrongFalsely : Prop := editorGoesRow.holds Tryd.pinned (OpenSpec.ofChange editorGoesWrong)

/-- 'linnetlaw13.EditorOne': WHATEVER THE INPUT: true; the input reads as it did. -/
def editorOneSpec : ChangeSpec := { name := "editorOne", fn := fun _ => fun
  | [d1, d2] => { results := [.lit (.bool true)], args := [d1, d2] }
  | _ => none }
def editorOneRow : OpenClaim := { program := "ythbblbjfbcmdlaadoor", sum := "2aeb9fef4259878dd9c5f77be9779bdeb480ad087d77fd3b4ad92f38494eae5f", func := "linnet/linnetlaw13.EditorOne", spec := "editorOne", unfollowed := true, recurses := true, named := ["unicode/utf8.first", "unicode/utf8.acceptRanges", "linnet/table.standard"], apart := false, laid := [("linnet/table.standard", laid_linnet_table_standard), ("unicode/utf8.acceptRanges", laid_unicode_utf8_acceptRanges), ("unicode/utf8.first", laid_unicode_utf8_first)] }
def EditorOneSaid : Prop := editorOneRow.holds Tryd.pinned (OpenSpec.ofChange editorOneSpec)

/-- ITS FALSE NEIGHBOUR: 'it returns false'. Refute it at one input. -/
def editorOneWrong : ChangeSpec := { name := "editorOne", fn := fun _ => fun
  | [d1, d2] => { results := [.lit (.bool false)], args := [d1, d2] }
  | _ => none }
def EditorOneWrongFalsely : Prop := editorOneRow.holds Tryd.pinned (OpenSpec.ofChange editorOneWrong)

/-- 'linnetlaw13.EditorLit': WHATEVER THE INPUT: true; the input reads as it did. -/
def editorLitSpec : ChangeSpec := { name := "editorLit", fn := fun _ => fun
  | [d1, d2] => { results := [.lit (.bool true)], args := [d1, d2] }
  | _ => none }
def editorLitRow : OpenClaim := { program := "ythbblbjfbcmdlaadoor", sum := "2aeb9fef4259878dd9c5f77be9779bdeb480ad087d77fd3b4ad92f38494eae5f", func := "linnet/linnetlaw13.EditorLit", spec := "editorLit", unfollowed := true, recurses := true, named := ["linnet/table.standard", "unicode/utf8.first", "unicode/utf8.acceptRanges"], apart := false, laid := [("linnet/table.standard", laid_linnet_table_standard), ("unicode/utf8.acceptRanges", laid_unicode_utf8_acceptRanges), ("unicode/utf8.first", laid_unicode_utf8_first)] }
def EditorLitSaid : Prop := editorLitRow.holds Tryd.pinned (OpenSpec.ofChange editorLitSpec)

/-- ITS FALSE NEIGHBOUR: 'it returns false'. Refute it at one input. -/
def editorLitWrong : ChangeSpec := { name := "editorLit", fn := fun _ => fun
  | [d1, d2] => { results := [.lit (.bool false)], args := [d1, d2] }
  | _ => none }
def EditorLitWrongFalsely : Prop := editorLitRow.holds Tryd.pinned (OpenSpec.ofChange editorLitWrong)

/-- 'linnetlaw13.EditorLines': WHATEVER THE INPUT: true; the input reads as it did. -/
def editorLinesSpec : ChangeSpec := { name := "editorLines", fn := fun _ => fun
  | [d1, d2] => { results := [.lit (.bool true)], args := [d1, d2] }
  | _ => none }
def editorLinesRow : OpenClaim := { program := "ythbblbjfbcmdlaadoor", sum := "2aeb9fef4259878dd9c5f77be9779bdeb480ad087d77fd3b4ad92f38494eae5f", func := "linnet/linnetlaw13.EditorLines", spec := "editorLines", unfollowed := true, recurses := true, named := ["linnet/table.standard", "unicode/utf8.first", "unicode/utf8.acceptRanges"], apart := false, laid := [("linnet/table.standard", laid_linnet_table_standard), ("unicode/utf8.acceptRanges", laid_unicode_utf8_acceptRanges), ("unicode/utf8.first", laid_unicode_utf8_first)] }
def EditorLinesSaid : Prop := editorLinesRow.holds Tryd.pinned (OpenSpec.ofChange editorLinesSpec)

/-- ITS FALSE NEIGHBOUR: 'it returns false'. Refute it at one input. -/
def editorLinesWrong : ChangeSpec := { name := "editorLines", fn := fun _ => fun
  | [d1, d2] => { results := [.lit (.bool false)], args := [d1, d2] }
  | _ => none }
def EditorLinesWrongFalsely : Prop := editorLinesRow.holds Tryd.pinned (OpenSpec.ofChange editorLinesWrong)

/-- 'linnetlaw13.EditorTells': WHATEVER THE INPUT: true; the input reads as it did. -/
def editorTellsSpec : ChangeSpec := { name := "editorTells", fn := fun _ => fun
  | [d1, d2, d3] => { results := [.lit (.bool true)], args := [d1, d2, d3] }
  | _ => none }
def editorTellsRow : OpenClaim := { program := "ythbblbjfbcmdlaadoor", sum := "2aeb9fef4259878dd9c5f77be9779bdeb480ad087d77fd3b4ad92f38494eae5f", func := "linnet/linnetlaw13.EditorTells", spec := "editorTells", unfollowed := true, recurses := true, named := ["unicode/utf8.first", "unicode/utf8.acceptRanges", "linnet/table.standard"], apart := false, laid := [("linnet/table.standard", laid_linnet_table_standard), ("unicode/utf8.acceptRanges", laid_unicode_utf8_acceptRanges), ("unicode/utf8.first", laid_unicode_utf8_first)] }
def EditorTellsSaid : Prop := editorTellsRow.holds Tryd.pinned (OpenSpec.ofChange editorTellsSpec)

/-- ITS FALSE NEIGHBOUR: 'it returns false'. Refute it at one input. -/
def editorTellsWrong : ChangeSpec := { name := "editorTells", fn := fun _ => fun
  | [d1, d2, d3] => { results := [.lit (.bool false)], args := [d1, d2, d3] }
  | _ => none }
def EditorTellsWrongFalsely : Prop := editorTellsRow.holds Tryd.pinned (OpenSpec.ofChange editorTellsWrong)

/-- 'linnetlaw13.EditorSignals': WHATEVER THE INPUT: true; the input reads as it did. -/
def editorSignalsSpec : ChangeSpec := { name := "editorSignals", fn := fun _ => fun
  | [d1, d2] => { results := [.lit (.bool true)], args := [d1, d2] }
  | _ => none }
def editorSignalsRow : OpenClaim := { program := "ythbblbjfbcmdlaadoor", sum := "2aeb9fef4259878dd9c5f77be9779bdeb480ad087d77fd3b4ad92f38494eae5f", func := "linnet/linnetlaw13.EditorSignals", spec := "editorSignals", unfollowed := true, recurses := true, named := ["linnet/table.standard", "unicode/utf8.first", "unicode/utf8.acceptRanges"], apart := false, laid := [("linnet/table.standard", laid_linnet_table_standard), ("unicode/utf8.acceptRanges", laid_unicode_utf8_acceptRanges), ("unicode/utf8.first", laid_unicode_utf8_first)] }
def EditorSignalsSaid : Prop := editorSignalsRow.holds Tryd.pinned (OpenSpec.ofChange editorSignalsSpec)

/-- ITS FALSE NEIGHBOUR: 'it returns false'. Refute it at one input. -/
def editorSignalsWrong : ChangeSpec := { name := "editorSignals", fn := fun _ => fun
  | [d1, d2] => { results := [.lit (.bool false)], args := [d1, d2] }
  | _ => none }
def EditorSignalsWrongFalsely : Prop := editorSignalsRow.holds Tryd.pinned (OpenSpec.ofChange editorSignalsWrong)

/- THE SECOND FORM. 'bulk': how many values and letters a reading holds, each counted each time it is reached (what is shared counts as often as it is met; a slice's spare places count too). A statement '..UptoSaid' is the law's where the arguments, and the package variables that the reading takes, are together of bulk at most 1048576: NARROWER than '..Said'. Prove '..Said' where nothing that the law and all that it calls make is longer than what came in: it says more and counts as full. Else prove '..UptoSaid'. A law counts once. -/
mutual
def uptoBulk {H : Type} : DataW H → Nat
  | .lit (.string bytes) => bytes.length + 1
  | .lit _ => 1
  | .nil => 1
  | .ptr d => uptoBulk d + 1
  | .slice elems spare => uptoBulkAll elems + uptoBulkAll spare + 1
  | .agg parts => uptoBulkAll parts + 1
  | .iface _ d => uptoBulk d + 1
  | .map entries => uptoBulkEntries entries + 1
  | .held _ => 1
def uptoBulkAll {H : Type} : List (DataW H) → Nat
  | [] => 0
  | d :: r => uptoBulk d + uptoBulkAll r
def uptoBulkEntries {H : Type} : List (Lit × DataW H) → Nat
  | [] => 0
  | x :: r => uptoBulkEntry x + uptoBulkEntries r
def uptoBulkEntry {H : Type} : Lit × DataW H → Nat
  | (.string bytes, d) => bytes.length + uptoBulk d + 1
  | (_, d) => uptoBulk d + 1
 end
def uptoSmall : (H : Type) → List (DataW H) → Bool := fun _ ds => decide (uptoBulkAll ds ≤ 1048576)
def OpenSpec.upto (s : _root_.Go.ChangeSpec) : _root_.Go.OpenSpec := { _root_.Go.OpenSpec.ofChange s with cond := some uptoSmall }

/-- 'linnetlaw13.EditorGoes', WHERE WHAT IT READS IS OF BULK AT MOST 1048576: true; the input reads as it did. -/
def editorGoesUptoRow : OpenClaim := { program := "ythbblbjfbcmdlaadoor", sum := "2aeb9fef4259878dd9c5f77be9779bdeb480ad087d77fd3b4ad92f38494eae5f", func := "linnet/linnetlaw13.EditorGoes", spec := "editorGoes", unfollowed := true, recurses := true, named := ["unicode/utf8.first", "unicode/utf8.acceptRanges", "linnet/table.standard"], apart := false, laid := [("linnet/table.standard", laid_linnet_table_standard), ("unicode/utf8.acceptRanges", laid_unicode_utf8_acceptRanges), ("unicode/utf8.first", laid_unicode_utf8_first)], narrowed := true }
def EditorGoesUptoSaid : Prop := editorGoesUptoRow.holds Tryd.pinned (OpenSpec.upto editorGoesSpec)

/-- 'linnetlaw13.EditorOne', WHERE WHAT IT READS IS OF BULK AT MOST 1048576: true; the input reads as it did. -/
def editorOneUptoRow : OpenClaim := { program := "ythbblbjfbcmdlaadoor", sum := "2aeb9fef4259878dd9c5f77be9779bdeb480ad087d77fd3b4ad92f38494eae5f", func := "linnet/linnetlaw13.EditorOne", spec := "editorOne", unfollowed := true, recurses := true, named := ["unicode/utf8.first", "unicode/utf8.acceptRanges", "linnet/table.standard"], apart := false, laid := [("linnet/table.standard", laid_linnet_table_standard), ("unicode/utf8.acceptRanges", laid_unicode_utf8_acceptRanges), ("unicode/utf8.first", laid_unicode_utf8_first)], narrowed := true }
def EditorOneUptoSaid : Prop := editorOneUptoRow.holds Tryd.pinned (OpenSpec.upto editorOneSpec)

/-- 'linnetlaw13.EditorLit', WHERE WHAT IT READS IS OF BULK AT MOST 1048576: true; the input reads as it did. -/
def editorLitUptoRow : OpenClaim := { program := "ythbblbjfbcmdlaadoor", sum := "2aeb9fef4259878dd9c5f77be9779bdeb480ad087d77fd3b4ad92f38494eae5f", func := "linnet/linnetlaw13.EditorLit", spec := "editorLit", unfollowed := true, recurses := true, named := ["linnet/table.standard", "unicode/utf8.first", "unicode/utf8.acceptRanges"], apart := false, laid := [("linnet/table.standard", laid_linnet_table_standard), ("unicode/utf8.acceptRanges", laid_unicode_utf8_acceptRanges), ("unicode/utf8.first", laid_unicode_utf8_first)], narrowed := true }
def EditorLitUptoSaid : Prop := editorLitUptoRow.holds Tryd.pinned (OpenSpec.upto editorLitSpec)

/-- 'linnetlaw13.EditorLines', WHERE WHAT IT READS IS OF BULK AT MOST 1048576: true; the input reads as it did. -/
def editorLinesUptoRow : OpenClaim := { program := "ythbblbjfbcmdlaadoor", sum := "2aeb9fef4259878dd9c5f77be9779bdeb480ad087d77fd3b4ad92f38494eae5f", func := "linnet/linnetlaw13.EditorLines", spec := "editorLines", unfollowed := true, recurses := true, named := ["linnet/table.standard", "unicode/utf8.first", "unicode/utf8.acceptRanges"], apart := false, laid := [("linnet/table.standard", laid_linnet_table_standard), ("unicode/utf8.acceptRanges", laid_unicode_utf8_acceptRanges), ("unicode/utf8.first", laid_unicode_utf8_first)], narrowed := true }
def EditorLinesUptoSaid : Prop := editorLinesUptoRow.holds Tryd.pinned (OpenSpec.upto editorLinesSpec)

/-- 'linnetlaw13.EditorTells', WHERE WHAT IT READS IS OF BULK AT MOST 1048576: true; the input reads as it did. -/
def editorTellsUptoRow : OpenClaim := { program := "ythbblbjfbcmdlaadoor", sum := "2aeb9fef4259878dd9c5f77be9779bdeb480ad087d77fd3b4ad92f38494eae5f", func := "linnet/linnetlaw13.EditorTells", spec := "editorTells", unfollowed := true, recurses := true, named := ["unicode/utf8.first", "unicode/utf8.acceptRanges", "linnet/table.standard"], apart := false, laid := [("linnet/table.standard", laid_linnet_table_standard), ("unicode/utf8.acceptRanges", laid_unicode_utf8_acceptRanges), ("unicode/utf8.first", laid_unicode_utf8_first)], narrowed := true }
def EditorTellsUptoSaid : Prop := editorTellsUptoRow.holds Tryd.pinned (OpenSpec.upto editorTellsSpec)

/-- 'linnetlaw13.EditorSignals', WHERE WHAT IT READS IS OF BULK AT MOST 1048576: true; the input reads as it did. -/
def editorSignalsUptoRow : OpenClaim := { program := "ythbblbjfbcmdlaadoor", sum := "2aeb9fef4259878dd9c5f77be9779bdeb480ad087d77fd3b4ad92f38494eae5f", func := "linnet/linnetlaw13.EditorSignals", spec := "editorSignals", unfollowed := true, recurses := true, named := ["linnet/table.standard", "unicode/utf8.first", "unicode/utf8.acceptRanges"], apart := false, laid := [("linnet/table.standard", laid_linnet_table_standard), ("unicode/utf8.acceptRanges", laid_unicode_utf8_acceptRanges), ("unicode/utf8.first", laid_unicode_utf8_first)], narrowed := true }
def EditorSignalsUptoSaid : Prop := editorSignalsUptoRow.holds Tryd.pinned (OpenSpec.upto editorSignalsSpec)

end Rows
end Go.Proofs.YthbblbjfbcmdlaaDoor
