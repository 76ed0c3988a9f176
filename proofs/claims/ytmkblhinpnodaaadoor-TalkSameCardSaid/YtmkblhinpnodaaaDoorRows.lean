/-
  NARROWER THAN 'FOR EVERY INPUT', by the rows' own cells (each row's printed sentence says how): TalkQuiet: laid · TalkLines: laid · TalkTells: laid · TalkPass: laid · TalkSame: laid · TalkSignal: laid.
  DERIVED. THE GIVEN ROWS OF THIS SEAT. 6 by the template 'for every input the law returns true; each argument reads behind the call as it read before'; 0 by the template 'total and deterministic' (their statements: YtmkblhinpnodaaaDoorTotals.lean).
  GIVEN WITH THE SEED: the statements are not yours to turn. If you find one false, say at which input.
  Laid BY PROGRAM, IN A SANDBOX (cutbox-rows.mjs): the forced cells as the released guide's own fill.sh prints them over the translation 56df5151f78b6959… (all of the seat's roots in one cut). By AI agents, Wed Nov 11 2026. No macro, syntax, notation, axiom, sorry.
-/
import Derived.Test.YtmkblhinpnodaaaDoorChecked
import GoSem.PinnedTables
import GoSem.Claim
import GoSem.ClaimJoined
import GoSem.ClaimMapViews
import Derived.JoinedTies
import Derived.KernelRfl
namespace Go.Proofs.YtmkblhinpnodaaaDoor
/- THE CELL 'sum', in the pinned program and in every row, IS THE sha256 OF THE DUMP (.gsa) THAT YtmkblhinpnodaaaDoorProg.lean LOADS. Nothing in Lean hashes anything: it is a label: what it is worth is what the hold of that sum in a sandbox is worth. -/
noncomputable def Tryd.pinned : Pinned := { name := "ytmkblhinpnodaaadoor", sum := "56df5151f78b6959af738659a41d0f3c8f7d2112271b7c6feb3abbd6c2d4f284", checked := Tryd.checked }
namespace Rows
def none {H : Type} : Left H := { results := [], args := [] }

/- WHAT THE LISTED PACKAGE-LEVEL VARIABLES READ AS WHEN THE CALL BEGINS. Each datum BY PROGRAM (the guide's laid-datum.mjs) off the statement by which the dump's own 'gosem.cut.vars' lays the variable. In a bare row this is a premise. The card (YtmkblhinpnodaaaDoorCards.lean) ties it to the program's text. -/
def laid_linnet_table_standard {H : Type} : DataW H := .agg [.lit (.int .u8 0), .lit (.int .u8 0), .lit (.int .u8 0), .lit (.int .u8 3), .lit (.int .u8 15), .lit (.int .u8 20), .lit (.int .u8 0), .lit (.int .u8 28), .lit (.int .u8 4), .lit (.int .u8 26), .lit (.int .u8 127), .lit (.int .u8 21), .lit (.int .u8 23), .lit (.int .u8 18), .lit (.int .u8 22), .lit (.int .u8 17), .lit (.int .u8 19), .lit (.int .u8 0), .lit (.int .u8 0), .lit (.int .u8 2), .lit (.int .u8 6), .lit (.int .u8 25), .lit (.int .u8 24), .lit (.int .u8 1), .lit (.int .u8 5), .lit (.int .u8 9), .lit (.int .u8 16), .lit (.int .u8 8), .lit (.int .u8 14), .lit (.int .u8 29), .lit (.int .u8 11)]
def laid_unicode_utf8_acceptRanges {H : Type} : DataW H := .agg [.agg [.lit (.int .u8 128), .lit (.int .u8 191)], .agg [.lit (.int .u8 160), .lit (.int .u8 191)], .agg [.lit (.int .u8 128), .lit (.int .u8 159)], .agg [.lit (.int .u8 144), .lit (.int .u8 191)], .agg [.lit (.int .u8 128), .lit (.int .u8 143)], .agg [.lit (.int .u8 0), .lit (.int .u8 0)], .agg [.lit (.int .u8 0), .lit (.int .u8 0)], .agg [.lit (.int .u8 0), .lit (.int .u8 0)], .agg [.lit (.int .u8 0), .lit (.int .u8 0)], .agg [.lit (.int .u8 0), .lit (.int .u8 0)], .agg [.lit (.int .u8 0), .lit (.int .u8 0)], .agg [.lit (.int .u8 0), .lit (.int .u8 0)], .agg [.lit (.int .u8 0), .lit (.int .u8 0)], .agg [.lit (.int .u8 0), .lit (.int .u8 0)], .agg [.lit (.int .u8 0), .lit (.int .u8 0)], .agg [.lit (.int .u8 0), .lit (.int .u8 0)]]
/-- One of Go's own tables, pinned by name: the form's constant. -/
def laid_unicode_utf8_first : DataW Unit := Go.Pinned.utf8First

/-- 'linnetlaw15.TalkQuiet': WHATEVER THE INPUT: true; the input reads as it did. -/
def talkQuietSpec : ChangeSpec := { name := "talkQuiet", fn := fun _ => fun
  | [d1, d2] => { results := [.lit (.bool true)], args := [d1, d2] }
  | _ => none }
def talkQuietRow : OpenClaim := { program := "ytmkblhinpnodaaadoor", sum := "56df5151f78b6959af738659a41d0f3c8f7d2112271b7c6feb3abbd6c2d4f284", func := "linnet/linnetlaw15.TalkQuiet", spec := "talkQuiet", inPlace := ["internal/bytealg.MakeNoZero"], unfollowed := true, recurses := true, named := ["unicode/utf8.first", "unicode/utf8.acceptRanges", "linnet/table.standard"], apart := false, laid := [("linnet/table.standard", laid_linnet_table_standard), ("unicode/utf8.acceptRanges", laid_unicode_utf8_acceptRanges), ("unicode/utf8.first", laid_unicode_utf8_first)] }
def TalkQuietSaid : Prop := talkQuietRow.holds Tryd.pinned (OpenSpec.ofChange talkQuietSpec)

/-- ITS FALSE NEIGHBOUR: 'it returns false'. Refute it at one input. -/
def talkQuietWrong : ChangeSpec := { name := "talkQuiet", fn := fun _ => fun
  | [d1, d2] => { results := [.lit (.bool false)], args := [d1, d2] }
  | _ => none }
def TalkQuietWrongFalsely : Prop := talkQuietRow.holds Tryd.pinned (OpenSpec.ofChange talkQuietWrong)

/-- 'linnetlaw15.TalkLines': WHATEVER THE INPUT: true; the input reads as it did. -/
def talkLinesSpec : ChangeSpec := { name := "talkLines", fn := fun _ => fun
  | [d1, d2] => { results := [.lit (.bool true)], args := [d1, d2] }
  | _ => none }
def talkLinesRow : OpenClaim := { program := "ytmkblhinpnodaaadoor", sum := "56df5151f78b6959af738659a41d0f3c8f7d2112271b7c6feb3abbd6c2d4f284", func := "linnet/linnetlaw15.TalkLines", spec := "talkLines", inPlace := ["internal/bytealg.MakeNoZero"], unfollowed := true, recurses := true, named := ["unicode/utf8.first", "unicode/utf8.acceptRanges", "linnet/table.standard"], apart := false, laid := [("linnet/table.standard", laid_linnet_table_standard), ("unicode/utf8.acceptRanges", laid_unicode_utf8_acceptRanges), ("unicode/utf8.first", laid_unicode_utf8_first)] }
def TalkLinesSaid : Prop := talkLinesRow.holds Tryd.pinned (OpenSpec.ofChange talkLinesSpec)

/-- ITS FALSE NEIGHBOUR: 'it returns false'. Refute it at one input. -/
def talkLinesWrong : ChangeSpec := { name := "talkLines", fn := fun _ => fun
  | [d1, d2] => { results := [.lit (.bool false)], args := [d1, d2] }
  | _ => none }
def TalkLinesWrongFalsely : Prop := talkLinesRow.holds Tryd.pinned (OpenSpec.ofChange talkLinesWrong)

/-- 'linnetlaw15.TalkTells': WHATEVER THE INPUT: true; the input reads as it did. -/
def talkTellsSpec : ChangeSpec := { name := "talkTells", fn := fun _ => fun
  | [d1, d2, d3] => { results := [.lit (.bool true)], args := [d1, d2, d3] }
  | _ => none }
def talkTellsRow : OpenClaim := { program := "ytmkblhinpnodaaadoor", sum := "56df5151f78b6959af738659a41d0f3c8f7d2112271b7c6feb3abbd6c2d4f284", func := "linnet/linnetlaw15.TalkTells", spec := "talkTells", inPlace := ["internal/bytealg.MakeNoZero"], unfollowed := true, recurses := true, named := ["unicode/utf8.first", "unicode/utf8.acceptRanges", "linnet/table.standard"], apart := false, laid := [("linnet/table.standard", laid_linnet_table_standard), ("unicode/utf8.acceptRanges", laid_unicode_utf8_acceptRanges), ("unicode/utf8.first", laid_unicode_utf8_first)] }
def TalkTellsSaid : Prop := talkTellsRow.holds Tryd.pinned (OpenSpec.ofChange talkTellsSpec)

/-- ITS FALSE NEIGHBOUR: 'it returns false'. Refute it at one input. -/
def talkTellsWrong : ChangeSpec := { name := "talkTells", fn := fun _ => fun
  | [d1, d2, d3] => { results := [.lit (.bool false)], args := [d1, d2, d3] }
  | _ => none }
def TalkTellsWrongFalsely : Prop := talkTellsRow.holds Tryd.pinned (OpenSpec.ofChange talkTellsWrong)

/-- 'linnetlaw15.TalkPass': WHATEVER THE INPUT: true; the input reads as it did. -/
def talkPassSpec : ChangeSpec := { name := "talkPass", fn := fun _ => fun
  | [d1, d2] => { results := [.lit (.bool true)], args := [d1, d2] }
  | _ => none }
def talkPassRow : OpenClaim := { program := "ytmkblhinpnodaaadoor", sum := "56df5151f78b6959af738659a41d0f3c8f7d2112271b7c6feb3abbd6c2d4f284", func := "linnet/linnetlaw15.TalkPass", spec := "talkPass", inPlace := ["internal/bytealg.MakeNoZero"], unfollowed := true, recurses := true, named := ["linnet/table.standard", "unicode/utf8.first", "unicode/utf8.acceptRanges"], apart := false, laid := [("linnet/table.standard", laid_linnet_table_standard), ("unicode/utf8.acceptRanges", laid_unicode_utf8_acceptRanges), ("unicode/utf8.first", laid_unicode_utf8_first)] }
def TalkPassSaid : Prop := talkPassRow.holds Tryd.pinned (OpenSpec.ofChange talkPassSpec)

/-- ITS FALSE NEIGHBOUR: 'it returns false'. Refute it at one input. -/
def talkPassWrong : ChangeSpec := { name := "talkPass", fn := fun _ => fun
  | [d1, d2] => { results := [.lit (.bool false)], args := [d1, d2] }
  | _ => none }
def TalkPassWrongFalsely : Prop := talkPassRow.holds Tryd.pinned (OpenSpec.ofChange talkPassWrong)

/-- 'linnetlaw15.TalkSame': WHATEVER THE INPUT: true; the input reads as it did. -/
def talkSameSpec : ChangeSpec := { name := "talkSame", fn := fun _ => fun
  | [d1, d2] => { results := [.lit (.bool true)], args := [d1, d2] }
  | _ => none }
def talkSameRow : OpenClaim := { program := "ytmkblhinpnodaaadoor", sum := "56df5151f78b6959af738659a41d0f3c8f7d2112271b7c6feb3abbd6c2d4f284", func := "linnet/linnetlaw15.TalkSame", spec := "talkSame", inPlace := ["internal/bytealg.MakeNoZero"], unfollowed := true, recurses := true, named := ["unicode/utf8.first", "unicode/utf8.acceptRanges", "linnet/table.standard"], apart := false, laid := [("linnet/table.standard", laid_linnet_table_standard), ("unicode/utf8.acceptRanges", laid_unicode_utf8_acceptRanges), ("unicode/utf8.first", laid_unicode_utf8_first)] }
def TalkSameSaid : Prop := talkSameRow.holds Tryd.pinned (OpenSpec.ofChange talkSameSpec)

/-- ITS FALSE NEIGHBOUR: 'it returns false'. Refute it at one input. -/
def talkSameWrong : ChangeSpec := { name := "talkSame", fn := fun _ => fun
  | [d1, d2] => { results := [.lit (.bool false)], args := [d1, d2] }
  | _ => none }
def TalkSameWrongFalsely : Prop := talkSameRow.holds Tryd.pinned (OpenSpec.ofChange talkSameWrong)

/-- 'linnetlaw15.TalkSignal': WHATEVER THE INPUT: true; the input reads as it did. -/
def talkSignalSpec : ChangeSpec := { name := "talkSignal", fn := fun _ => fun
  | [d1, d2, d3] => { results := [.lit (.bool true)], args := [d1, d2, d3] }
  | _ => none }
def talkSignalRow : OpenClaim := { program := "ytmkblhinpnodaaadoor", sum := "56df5151f78b6959af738659a41d0f3c8f7d2112271b7c6feb3abbd6c2d4f284", func := "linnet/linnetlaw15.TalkSignal", spec := "talkSignal", inPlace := ["internal/bytealg.MakeNoZero"], unfollowed := true, recurses := true, named := ["unicode/utf8.first", "unicode/utf8.acceptRanges", "linnet/table.standard"], apart := false, laid := [("linnet/table.standard", laid_linnet_table_standard), ("unicode/utf8.acceptRanges", laid_unicode_utf8_acceptRanges), ("unicode/utf8.first", laid_unicode_utf8_first)] }
def TalkSignalSaid : Prop := talkSignalRow.holds Tryd.pinned (OpenSpec.ofChange talkSignalSpec)

/-- ITS FALSE NEIGHBOUR: 'it returns false'. Refute it at one input. -/
def talkSignalWrong : ChangeSpec := { name := "talkSignal", fn := fun _ => fun
  | [d1, d2, d3] => { results := [.lit (.bool false)], args := [d1, d2, d3] }
  | _ => none }
def TalkSignalWrongFalsely : Prop := talkSignalRow.holds Tryd.pinned (OpenSpec.ofChange talkSignalWrong)

/- THE SECOND FORM. 'bulk': how many values and letters a reading holds, each counted each time it is reached (what is shared counts as often as it is met; a slice's spare places count too). A statement '..UptoSaid' is the law's where the arguments, and the package variables that the reading takes, are together of bulk at most 1048576: NARROWER than '..Said'. Prove '..Said' where nothing that the law and all that it calls make is longer than what came in: it says more and counts as full. Else prove '..UptoSaid'. A law counts once. -/
mutual
def uptoBulk {H : Type} : DataW H → Nat
  | .lit (.string bytes) => bytes.length + 1
  | .lit _ => 1
  | .nil => 1
  | .ptr d => uptoBulk d + 1
  | .slice elems spare => uptoBulkAll elems + uptoBulkAll spare + 1
  | .agg parts => uptoBulkAll parts + 1
  | .iface _ d => uptoBulk d + 1
  | .map entries => uptoBulkEntries entries + 1
  | .held _ => 1
def uptoBulkAll {H : Type} : List (DataW H) → Nat
  | [] => 0
  | d :: r => uptoBulk d + uptoBulkAll r
def uptoBulkEntries {H : Type} : List (Lit × DataW H) → Nat
  | [] => 0
  | x :: r => uptoBulkEntry x + uptoBulkEntries r
def uptoBulkEntry {H : Type} : Lit × DataW H → Nat
  | (.string bytes, d) => bytes.length + uptoBulk d + 1
  | (_, d) => uptoBulk d + 1
 end
def uptoSmall : (H : Type) → List (DataW H) → Bool := fun _ ds => decide (uptoBulkAll ds ≤ 1048576)
def OpenSpec.upto (s : _root_.Go.ChangeSpec) : _root_.Go.OpenSpec := { _root_.Go.OpenSpec.ofChange s with cond := some uptoSmall }

/-- 'linnetlaw15.TalkQuiet', WHERE WHAT IT READS IS OF BULK AT MOST 1048576: true; the input reads as it did. -/
def talkQuietUptoRow : OpenClaim := { program := "ytmkblhinpnodaaadoor", sum := "56df5151f78b6959af738659a41d0f3c8f7d2112271b7c6feb3abbd6c2d4f284", func := "linnet/linnetlaw15.TalkQuiet", spec := "talkQuiet", inPlace := ["internal/bytealg.MakeNoZero"], unfollowed := true, recurses := true, named := ["unicode/utf8.first", "unicode/utf8.acceptRanges", "linnet/table.standard"], apart := false, laid := [("linnet/table.standard", laid_linnet_table_standard), ("unicode/utf8.acceptRanges", laid_unicode_utf8_acceptRanges), ("unicode/utf8.first", laid_unicode_utf8_first)], narrowed := true }
def TalkQuietUptoSaid : Prop := talkQuietUptoRow.holds Tryd.pinned (OpenSpec.upto talkQuietSpec)

/-- 'linnetlaw15.TalkLines', WHERE WHAT IT READS IS OF BULK AT MOST 1048576: true; the input reads as it did. -/
def talkLinesUptoRow : OpenClaim := { program := "ytmkblhinpnodaaadoor", sum := "56df5151f78b6959af738659a41d0f3c8f7d2112271b7c6feb3abbd6c2d4f284", func := "linnet/linnetlaw15.TalkLines", spec := "talkLines", inPlace := ["internal/bytealg.MakeNoZero"], unfollowed := true, recurses := true, named := ["unicode/utf8.first", "unicode/utf8.acceptRanges", "linnet/table.standard"], apart := false, laid := [("linnet/table.standard", laid_linnet_table_standard), ("unicode/utf8.acceptRanges", laid_unicode_utf8_acceptRanges), ("unicode/utf8.first", laid_unicode_utf8_first)], narrowed := true }
def TalkLinesUptoSaid : Prop := talkLinesUptoRow.holds Tryd.pinned (OpenSpec.upto talkLinesSpec)

/-- 'linnetlaw15.TalkTells', WHERE WHAT IT READS IS OF BULK AT MOST 1048576: true; the input reads as it did. -/
def talkTellsUptoRow : OpenClaim := { program := "ytmkblhinpnodaaadoor", sum := "56df5151f78b6959af738659a41d0f3c8f7d2112271b7c6feb3abbd6c2d4f284", func := "linnet/linnetlaw15.TalkTells", spec := "talkTells", inPlace := ["internal/bytealg.MakeNoZero"], unfollowed := true, recurses := true, named := ["unicode/utf8.first", "unicode/utf8.acceptRanges", "linnet/table.standard"], apart := false, laid := [("linnet/table.standard", laid_linnet_table_standard), ("unicode/utf8.acceptRanges", laid_unicode_utf8_acceptRanges), ("unicode/utf8.first", laid_unicode_utf8_first)], narrowed := true }
def TalkTellsUptoSaid : Prop := talkTellsUptoRow.holds Tryd.pinned (OpenSpec.upto talkTellsSpec)

/-- 'linnetlaw15.TalkPass', WHERE WHAT IT READS IS OF BULK AT MOST 1048576: true; the input reads as it did. -/
def talkPassUptoRow : OpenClaim := { program := "ytmkblhinpnodaaadoor", sum := "56df5151f78b6959af738659a41d0f3c8f7d2112271b7c6feb3abbd6c2d4f284", func := "linnet/linnetlaw15.TalkPass", spec := "talkPass", inPlace := ["internal/bytealg.MakeNoZero"], unfollowed := true, recurses := true, named := ["linnet/table.standard", "unicode/utf8.first", "unicode/utf8.acceptRanges"], apart := false, laid := [("linnet/table.standard", laid_linnet_table_standard), ("unicode/utf8.acceptRanges", laid_unicode_utf8_acceptRanges), ("unicode/utf8.first", laid_unicode_utf8_first)], narrowed := true }
def TalkPassUptoSaid : Prop := talkPassUptoRow.holds Tryd.pinned (OpenSpec.upto talkPassSpec)

/-- 'linnetlaw15.TalkSame', WHERE WHAT IT READS IS OF BULK AT MOST 1048576: true; the input reads as it did. -/
def talkSameUptoRow : OpenClaim := { program := "ytmkblhinpnodaaadoor", sum := "56df5151f78b6959af738659a41d0f3c8f7d2112271b7c6feb3abbd6c2d4f284", func := "linnet/linnetlaw15.TalkSame", spec := "talkSame", inPlace := ["internal/bytealg.MakeNoZero"], unfollowed := true, recurses := true, named := ["unicode/utf8.first", "unicode/utf8.acceptRanges", "linnet/table.standard"], apart := false, laid := [("linnet/table.standard", laid_linnet_table_standard), ("unicode/utf8.acceptRanges", laid_unicode_utf8_acceptRanges), ("unicode/utf8.first", laid_unicode_utf8_first)], narrowed := true }
def TalkSameUptoSaid : Prop := talkSameUptoRow.holds Tryd.pinned (OpenSpec.upto talkSameSpec)

/-- 'linnetlaw15.TalkSignal', WHERE WHAT IT READS IS OF BULK AT MOST 1048576: true; the input reads as it did. -/
def talkSignalUptoRow : OpenClaim := { program := "ytmkblhinpnodaaadoor", sum := "56df5151f78b6959af738659a41d0f3c8f7d2112271b7c6feb3abbd6c2d4f284", func := "linnet/linnetlaw15.TalkSignal", spec := "talkSignal", inPlace := ["internal/bytealg.MakeNoZero"], unfollowed := true, recurses := true, named := ["unicode/utf8.first", "unicode/utf8.acceptRanges", "linnet/table.standard"], apart := false, laid := [("linnet/table.standard", laid_linnet_table_standard), ("unicode/utf8.acceptRanges", laid_unicode_utf8_acceptRanges), ("unicode/utf8.first", laid_unicode_utf8_first)], narrowed := true }
def TalkSignalUptoSaid : Prop := talkSignalUptoRow.holds Tryd.pinned (OpenSpec.upto talkSignalSpec)

end Rows
end Go.Proofs.YtmkblhinpnodaaaDoor
