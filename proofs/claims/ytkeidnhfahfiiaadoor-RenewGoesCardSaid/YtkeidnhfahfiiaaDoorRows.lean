/-
  NARROWER THAN 'FOR EVERY INPUT', by the rows' own cells (each row's printed sentence says how): RenewTells: laid · RenewLong: laid · RenewPlain: laid · RenewMakes: laid · RenewAgain: laid · RenewGoes: laid.
  DERIVED. THE GIVEN ROWS OF THIS SEAT. 6 by the template 'for every input the law returns true; each argument reads behind the call as it read before'; 0 by the template 'total and deterministic' (their statements: YtkeidnhfahfiiaaDoorTotals.lean).
  GIVEN WITH THE SEED: the statements are not yours to turn. If you find one false, say at which input.
  Laid BY PROGRAM, IN A SANDBOX (cutbox-rows.mjs): the forced cells as the released guide's own fill.sh prints them over the translation e5bd23393072b5d5… (all of the seat's roots in one cut). By AI agents, Wed Nov 11 2026. No macro, syntax, notation, axiom, sorry.
-/
import Derived.Test.YtkeidnhfahfiiaaDoorChecked
import GoSem.PinnedTables
import GoSem.Claim
import GoSem.ClaimJoined
import GoSem.ClaimMapViews
import Derived.JoinedTies
import Derived.KernelRfl
namespace Go.Proofs.YtkeidnhfahfiiaaDoor
/- THE CELL 'sum', in the pinned program and in every row, IS THE sha256 OF THE DUMP (.gsa) THAT YtkeidnhfahfiiaaDoorProg.lean LOADS. Nothing in Lean hashes anything: it is a label: what it is worth is what the hold of that sum in a sandbox is worth. -/
noncomputable def Tryd.pinned : Pinned := { name := "ytkeidnhfahfiiaadoor", sum := "e5bd23393072b5d55431c0e8c558d8e999e5a42eaeba26dd02a9c5e5ad238423", checked := Tryd.checked }
namespace Rows
def none {H : Type} : Left H := { results := [], args := [] }

/- WHAT THE LISTED PACKAGE-LEVEL VARIABLES READ AS WHEN THE CALL BEGINS. Each datum BY PROGRAM (the guide's laid-datum.mjs) off the statement by which the dump's own 'gosem.cut.vars' lays the variable. In a bare row this is a premise. The card (YtkeidnhfahfiiaaDoorCards.lean) ties it to the program's text. -/
def laid_linnet_table_standard {H : Type} : DataW H := .agg [.lit (.int .u8 0), .lit (.int .u8 0), .lit (.int .u8 0), .lit (.int .u8 3), .lit (.int .u8 15), .lit (.int .u8 20), .lit (.int .u8 0), .lit (.int .u8 28), .lit (.int .u8 4), .lit (.int .u8 26), .lit (.int .u8 127), .lit (.int .u8 21), .lit (.int .u8 23), .lit (.int .u8 18), .lit (.int .u8 22), .lit (.int .u8 17), .lit (.int .u8 19), .lit (.int .u8 0), .lit (.int .u8 0), .lit (.int .u8 2), .lit (.int .u8 6), .lit (.int .u8 25), .lit (.int .u8 24), .lit (.int .u8 1), .lit (.int .u8 5), .lit (.int .u8 9), .lit (.int .u8 16), .lit (.int .u8 8), .lit (.int .u8 14), .lit (.int .u8 29), .lit (.int .u8 11)]
def laid_unicode_utf8_acceptRanges {H : Type} : DataW H := .agg [.agg [.lit (.int .u8 128), .lit (.int .u8 191)], .agg [.lit (.int .u8 160), .lit (.int .u8 191)], .agg [.lit (.int .u8 128), .lit (.int .u8 159)], .agg [.lit (.int .u8 144), .lit (.int .u8 191)], .agg [.lit (.int .u8 128), .lit (.int .u8 143)], .agg [.lit (.int .u8 0), .lit (.int .u8 0)], .agg [.lit (.int .u8 0), .lit (.int .u8 0)], .agg [.lit (.int .u8 0), .lit (.int .u8 0)], .agg [.lit (.int .u8 0), .lit (.int .u8 0)], .agg [.lit (.int .u8 0), .lit (.int .u8 0)], .agg [.lit (.int .u8 0), .lit (.int .u8 0)], .agg [.lit (.int .u8 0), .lit (.int .u8 0)], .agg [.lit (.int .u8 0), .lit (.int .u8 0)], .agg [.lit (.int .u8 0), .lit (.int .u8 0)], .agg [.lit (.int .u8 0), .lit (.int .u8 0)], .agg [.lit (.int .u8 0), .lit (.int .u8 0)]]
/-- One of Go's own tables, pinned by name: the form's constant. -/
def laid_unicode_utf8_first : DataW Unit := Go.Pinned.utf8First

/-- 'linnetlaw14.RenewTells': WHATEVER THE INPUT: true; the input reads as it did. -/
def renewTellsSpec : ChangeSpec := { name := "renewTells", fn := fun _ => fun
  | [d1, d2, d3] => { results := [.lit (.bool true)], args := [d1, d2, d3] }
  | _ => none }
def renewTellsRow : OpenClaim := { program := "ytkeidnhfahfiiaadoor", sum := "e5bd23393072b5d55431c0e8c558d8e999e5a42eaeba26dd02a9c5e5ad238423", func := "linnet/linnetlaw14.RenewTells", spec := "renewTells", inPlace := ["internal/bytealg.MakeNoZero"], unfollowed := true, recurses := true, named := ["linnet/table.standard"], apart := false, laid := [("linnet/table.standard", laid_linnet_table_standard)] }
def RenewTellsSaid : Prop := renewTellsRow.holds Tryd.pinned (OpenSpec.ofChange renewTellsSpec)

/-- ITS FALSE NEIGHBOUR: 'it returns false'. Refute it at one input. -/
def renewTellsWrong : ChangeSpec := { name := "renewTells", fn := fun _ => fun
  | [d1, d2, d3] => { results := [.lit (.bool false)], args := [d1, d2, d3] }
  | _ => none }
def RenewTellsWrongFalsely : Prop := renewTellsRow.holds Tryd.pinned (OpenSpec.ofChange renewTellsWrong)

/-- 'linnetlaw14.RenewLong': WHATEVER THE INPUT: true; the input reads as it did. -/
def renewLongSpec : ChangeSpec := { name := "renewLong", fn := fun _ => fun
  | [d1, d2] => { results := [.lit (.bool true)], args := [d1, d2] }
  | _ => none }
def renewLongRow : OpenClaim := { program := "ytkeidnhfahfiiaadoor", sum := "e5bd23393072b5d55431c0e8c558d8e999e5a42eaeba26dd02a9c5e5ad238423", func := "linnet/linnetlaw14.RenewLong", spec := "renewLong", inPlace := ["internal/bytealg.MakeNoZero"], unfollowed := true, recurses := true, named := ["linnet/table.standard"], apart := false, laid := [("linnet/table.standard", laid_linnet_table_standard)] }
def RenewLongSaid : Prop := renewLongRow.holds Tryd.pinned (OpenSpec.ofChange renewLongSpec)

/-- ITS FALSE NEIGHBOUR: 'it returns false'. Refute it at one input. -/
def renewLongWrong : ChangeSpec := { name := "renewLong", fn := fun _ => fun
  | [d1, d2] => { results := [.lit (.bool false)], args := [d1, d2] }
  | _ => none }
def RenewLongWrongFalsely : Prop := renewLongRow.holds Tryd.pinned (OpenSpec.ofChange renewLongWrong)

/-- 'linnetlaw14.RenewPlain': WHATEVER THE INPUT: true; the input reads as it did. -/
def renewPlainSpec : ChangeSpec := { name := "renewPlain", fn := fun _ => fun
  | [d1, d2] => { results := [.lit (.bool true)], args := [d1, d2] }
  | _ => none }
def renewPlainRow : OpenClaim := { program := "ytkeidnhfahfiiaadoor", sum := "e5bd23393072b5d55431c0e8c558d8e999e5a42eaeba26dd02a9c5e5ad238423", func := "linnet/linnetlaw14.RenewPlain", spec := "renewPlain", inPlace := ["internal/bytealg.MakeNoZero"], unfollowed := true, recurses := true, named := ["linnet/table.standard", "unicode/utf8.first", "unicode/utf8.acceptRanges"], apart := false, laid := [("linnet/table.standard", laid_linnet_table_standard), ("unicode/utf8.acceptRanges", laid_unicode_utf8_acceptRanges), ("unicode/utf8.first", laid_unicode_utf8_first)] }
def RenewPlainSaid : Prop := renewPlainRow.holds Tryd.pinned (OpenSpec.ofChange renewPlainSpec)

/-- ITS FALSE NEIGHBOUR: 'it returns false'. Refute it at one input. -/
def renewPlainWrong : ChangeSpec := { name := "renewPlain", fn := fun _ => fun
  | [d1, d2] => { results := [.lit (.bool false)], args := [d1, d2] }
  | _ => none }
def RenewPlainWrongFalsely : Prop := renewPlainRow.holds Tryd.pinned (OpenSpec.ofChange renewPlainWrong)

/-- 'linnetlaw14.RenewMakes': WHATEVER THE INPUT: true; the input reads as it did. -/
def renewMakesSpec : ChangeSpec := { name := "renewMakes", fn := fun _ => fun
  | [d] => { results := [.lit (.bool true)], args := [d] }
  | _ => none }
def renewMakesRow : OpenClaim := { program := "ytkeidnhfahfiiaadoor", sum := "e5bd23393072b5d55431c0e8c558d8e999e5a42eaeba26dd02a9c5e5ad238423", func := "linnet/linnetlaw14.RenewMakes", spec := "renewMakes", inPlace := ["internal/bytealg.MakeNoZero"], unfollowed := true, recurses := true, named := ["unicode/utf8.first", "unicode/utf8.acceptRanges", "linnet/table.standard"], apart := false, laid := [("linnet/table.standard", laid_linnet_table_standard), ("unicode/utf8.acceptRanges", laid_unicode_utf8_acceptRanges), ("unicode/utf8.first", laid_unicode_utf8_first)] }
def RenewMakesSaid : Prop := renewMakesRow.holds Tryd.pinned (OpenSpec.ofChange renewMakesSpec)

/-- ITS FALSE NEIGHBOUR: 'it returns false'. Refute it at one input. -/
def renewMakesWrong : ChangeSpec := { name := "renewMakes", fn := fun _ => fun
  | [d] => { results := [.lit (.bool false)], args := [d] }
  | _ => none }
def RenewMakesWrongFalsely : Prop := renewMakesRow.holds Tryd.pinned (OpenSpec.ofChange renewMakesWrong)

/-- 'linnetlaw14.RenewAgain': WHATEVER THE INPUT: true; the input reads as it did. -/
def renewAgainSpec : ChangeSpec := { name := "renewAgain", fn := fun _ => fun
  | [d1, d2] => { results := [.lit (.bool true)], args := [d1, d2] }
  | _ => none }
def renewAgainRow : OpenClaim := { program := "ytkeidnhfahfiiaadoor", sum := "e5bd23393072b5d55431c0e8c558d8e999e5a42eaeba26dd02a9c5e5ad238423", func := "linnet/linnetlaw14.RenewAgain", spec := "renewAgain", inPlace := ["internal/bytealg.MakeNoZero"], unfollowed := true, recurses := true, named := ["unicode/utf8.first", "unicode/utf8.acceptRanges", "linnet/table.standard"], apart := false, laid := [("linnet/table.standard", laid_linnet_table_standard), ("unicode/utf8.acceptRanges", laid_unicode_utf8_acceptRanges), ("unicode/utf8.first", laid_unicode_utf8_first)] }
def RenewAgainSaid : Prop := renewAgainRow.holds Tryd.pinned (OpenSpec.ofChange renewAgainSpec)

/-- ITS FALSE NEIGHBOUR: 'it returns false'. Refute it at one input. -/
def renewAgainWrong : ChangeSpec := { name := "renewAgain", fn := fun _ => fun
  | [d1, d2] => { results := [.lit (.bool false)], args := [d1, d2] }
  | _ => none }
def RenewAgainWrongFalsely : Prop := renewAgainRow.holds Tryd.pinned (OpenSpec.ofChange renewAgainWrong)

/-- 'linnetlaw14.RenewGoes': WHATEVER THE INPUT: true; the input reads as it did. -/
def renewGoesSpec : ChangeSpec := { name := "renewGoes", fn := fun _ => fun
  | [d1, d2] => { results := [.lit (.bool true)], args := [d1, d2] }
  | _ => none }
def renewGoesRow : OpenClaim := { program := "ytkeidnhfahfiiaadoor", sum := "e5bd23393072b5d55431c0e8c558d8e999e5a42eaeba26dd02a9c5e5ad238423", func := "linnet/linnetlaw14.RenewGoes", spec := "renewGoes", inPlace := ["internal/bytealg.MakeNoZero"], unfollowed := true, recurses := true, named := ["unicode/utf8.first", "unicode/utf8.acceptRanges", "linnet/table.standard"], apart := false, laid := [("linnet/table.standard", laid_linnet_table_standard), ("unicode/utf8.acceptRanges", laid_unicode_utf8_acceptRanges), ("unicode/utf8.first", laid_unicode_utf8_first)] }
def RenewGoesSaid : Prop := renewGoesRow.holds Tryd.pinned (OpenSpec.ofChange renewGoesSpec)

/-- ITS FALSE NEIGHBOUR: 'it returns false'. Refute it at one input. -/
def renewGoesWrong : ChangeSpec := { name := "renewGoes", fn := fun _ => fun
  | [d1, d2] => { results := [.lit (.bool false)], args := [d1, d2] }
  | _ => none }
def RenewGoesWrongFalsely : Prop := renewGoesRow.holds Tryd.pinned (OpenSpec.ofChange renewGoesWrong)

/- THE SECOND FORM. 'bulk': how many values and letters a reading holds, each counted each time it is reached (what is shared counts as often as it is met; a slice's spare places count too). A statement '..UptoSaid' is the law's where the arguments, and the package variables that the reading takes, are together of bulk at most 1048576: NARROWER than '..Said'. Prove '..Said' where nothing that the law and all that it calls make is longer than what came in: it says more and counts as full. Else prove '..UptoSaid'. A law counts once. -/
mutual
def uptoBulk {H : Type} : DataW H → Nat
  | .lit (.string bytes) => bytes.length + 1
  | .lit _ => 1
  | .nil => 1
  | .ptr d => uptoBulk d + 1
  | .slice elems spare => uptoBulkAll elems + uptoBulkAll spare + 1
  | .agg parts => uptoBulkAll parts + 1
  | .iface _ d => uptoBulk d + 1
  | .map entries => uptoBulkEntries entries + 1
  | .held _ => 1
def uptoBulkAll {H : Type} : List (DataW H) → Nat
  | [] => 0
  | d :: r => uptoBulk d + uptoBulkAll r
def uptoBulkEntries {H : Type} : List (Lit × DataW H) → Nat
  | [] => 0
  | x :: r => uptoBulkEntry x + uptoBulkEntries r
def uptoBulkEntry {H : Type} : Lit × DataW H → Nat
  | (.string bytes, d) => bytes.length + uptoBulk d + 1
  | (_, d) => uptoBulk d + 1
 end
def uptoSmall : (H : Type) → List (DataW H) → Bool := fun _ ds => decide (uptoBulkAll ds ≤ 1048576)
def OpenSpec.upto (s : _root_.Go.ChangeSpec) : _root_.Go.OpenSpec := { _root_.Go.OpenSpec.ofChange s with cond := some uptoSmall }

/-- 'linnetlaw14.RenewTells', WHERE WHAT IT READS IS OF BULK AT MOST 1048576: true; the input reads as it did. -/
def renewTellsUptoRow : OpenClaim := { program := "ytkeidnhfahfiiaadoor", sum := "e5bd23393072b5d55431c0e8c558d8e999e5a42eaeba26dd02a9c5e5ad238423", func := "linnet/linnetlaw14.RenewTells", spec := "renewTells", inPlace := ["internal/bytealg.MakeNoZero"], unfollowed := true, recurses := true, named := ["linnet/table.standard"], apart := false, laid := [("linnet/table.standard", laid_linnet_table_standard)], narrowed := true }
def RenewTellsUptoSaid : Prop := renewTellsUptoRow.holds Tryd.pinned (OpenSpec.upto renewTellsSpec)

/-- 'linnetlaw14.RenewLong', WHERE WHAT IT READS IS OF BULK AT MOST 1048576: true; the input reads as it did. -/
def renewLongUptoRow : OpenClaim := { program := "ytkeidnhfahfiiaadoor", sum := "e5bd23393072b5d55431c0e8c558d8e999e5a42eaeba26dd02a9c5e5ad238423", func := "linnet/linnetlaw14.RenewLong", spec := "renewLong", inPlace := ["internal/bytealg.MakeNoZero"], unfollowed := true, recurses := true, named := ["linnet/table.standard"], apart := false, laid := [("linnet/table.standard", laid_linnet_table_standard)], narrowed := true }
def RenewLongUptoSaid : Prop := renewLongUptoRow.holds Tryd.pinned (OpenSpec.upto renewLongSpec)

/-- 'linnetlaw14.RenewPlain', WHERE WHAT IT READS IS OF BULK AT MOST 1048576: true; the input reads as it did. -/
def renewPlainUptoRow : OpenClaim := { program := "ytkeidnhfahfiiaadoor", sum := "e5bd23393072b5d55431c0e8c558d8e999e5a42eaeba26dd02a9c5e5ad238423", func := "linnet/linnetlaw14.RenewPlain", spec := "renewPlain", inPlace := ["internal/bytealg.MakeNoZero"], unfollowed := true, recurses := true, named := ["linnet/table.standard", "unicode/utf8.first", "unicode/utf8.acceptRanges"], apart := false, laid := [("linnet/table.standard", laid_linnet_table_standard), ("unicode/utf8.acceptRanges", laid_unicode_utf8_acceptRanges), ("unicode/utf8.first", laid_unicode_utf8_first)], narrowed := true }
def RenewPlainUptoSaid : Prop := renewPlainUptoRow.holds Tryd.pinned (OpenSpec.upto renewPlainSpec)

/-- 'linnetlaw14.RenewMakes', WHERE WHAT IT READS IS OF BULK AT MOST 1048576: true; the input reads as it did. -/
def renewMakesUptoRow : OpenClaim := { program := "ytkeidnhfahfiiaadoor", sum := "e5bd23393072b5d55431c0e8c558d8e999e5a42eaeba26dd02a9c5e5ad238423", func := "linnet/linnetlaw14.RenewMakes", spec := "renewMakes", inPlace := ["internal/bytealg.MakeNoZero"], unfollowed := true, recurses := true, named := ["unicode/utf8.first", "unicode/utf8.acceptRanges", "linnet/table.standard"], apart := false, laid := [("linnet/table.standard", laid_linnet_table_standard), ("unicode/utf8.acceptRanges", laid_unicode_utf8_acceptRanges), ("unicode/utf8.first", laid_unicode_utf8_first)], narrowed := true }
def RenewMakesUptoSaid : Prop := renewMakesUptoRow.holds Tryd.pinned (OpenSpec.upto renewMakesSpec)

/-- 'linnetlaw14.RenewAgain', WHERE WHAT IT READS IS OF BULK AT MOST 1048576: true; the input reads as it did. -/
def renewAgainUptoRow : OpenClaim := { program := "ytkeidnhfahfiiaadoor", sum := "e5bd23393072b5d55431c0e8c558d8e999e5a42eaeba26dd02a9c5e5ad238423", func := "linnet/linnetlaw14.RenewAgain", spec := "renewAgain", inPlace := ["internal/bytealg.MakeNoZero"], unfollowed := true, recurses := true, named := ["unicode/utf8.first", "unicode/utf8.acceptRanges", "linnet/table.standard"], apart := false, laid := [("linnet/table.standard", laid_linnet_table_standard), ("unicode/utf8.acceptRanges", laid_unicode_utf8_acceptRanges), ("unicode/utf8.first", laid_unicode_utf8_first)], narrowed := true }
def RenewAgainUptoSaid : Prop := renewAgainUptoRow.holds Tryd.pinned (OpenSpec.upto renewAgainSpec)

/-- 'linnetlaw14.RenewGoes', WHERE WHAT IT READS IS OF BULK AT MOST 1048576: true; the input reads as it did. -/
def renewGoesUptoRow : OpenClaim := { program := "ytkeidnhfahfiiaadoor", sum := "e5bd23393072b5d55431c0e8c558d8e999e5a42eaeba26dd02a9c5e5ad238423", func := "linnet/linnetlaw14.RenewGoes", spec := "renewGoes", inPlace := ["internal/bytealg.MakeNoZero"], unfollowed := true, recurses := true, named := ["unicode/utf8.first", "unicode/utf8.acceptRanges", "linnet/table.standard"], apart := false, laid := [("linnet/table.standard", laid_linnet_table_standard), ("unicode/utf8.acceptRanges", laid_unicode_utf8_acceptRanges), ("unicode/utf8.first", laid_unicode_utf8_first)], narrowed := true }
def RenewGoesUptoSaid : Prop := renewGoesUptoRow.holds Tryd.pinned (OpenSpec.upto renewGoesSpec)

end Rows
end Go.Proofs.YtkeidnhfahfiiaaDoor
