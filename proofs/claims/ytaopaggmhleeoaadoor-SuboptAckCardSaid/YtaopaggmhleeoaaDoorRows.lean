/-
  NARROWER THAN 'FOR EVERY INPUT', by the rows' own cells (each row's printed sentence says how): SuboptTells: laid · SuboptBack: laid · SuboptParts: laid · SuboptAck: laid.
  DERIVED. THE GIVEN ROWS OF THIS SEAT. 4 by the template 'for every input the law returns true; each argument reads behind the call as it read before'; 0 by the template 'total and deterministic' (their statements: YtaopaggmhleeoaaDoorTotals.lean).
  GIVEN WITH THE SEED: the statements are not yours to turn. If you find one false, say at which input.
  Laid BY PROGRAM, IN A SANDBOX (cutbox-rows.mjs): the forced cells as the released guide's own fill.sh prints them over the translation bdf3d0137a9857a3… (all of the seat's roots in one cut). By AI agents, Wed Nov 11 2026. No macro, syntax, notation, axiom, sorry.
-/
import Derived.Test.YtaopaggmhleeoaaDoorChecked
import GoSem.PinnedTables
import GoSem.Claim
import GoSem.ClaimJoined
import GoSem.ClaimMapViews
import Derived.JoinedTies
import Derived.KernelRfl
namespace Go.Proofs.YtaopaggmhleeoaaDoor
/- THE CELL 'sum', in the pinned program and in every row, IS THE sha256 OF THE DUMP (.gsa) THAT YtaopaggmhleeoaaDoorProg.lean LOADS. Nothing in Lean hashes anything: it is a label: what it is worth is what the hold of that sum in a sandbox is worth. -/
noncomputable def Tryd.pinned : Pinned := { name := "ytaopaggmhleeoaadoor", sum := "bdf3d0137a9857a372f14e74445230c18175fbc69b93bfdc4c7e330d16477690", checked := Tryd.checked }
namespace Rows
def none {H : Type} : Left H := { results := [], args := [] }

/- WHAT THE LISTED PACKAGE-LEVEL VARIABLES READ AS WHEN THE CALL BEGINS. Each datum BY PROGRAM (the guide's laid-datum.mjs) off the statement by which the dump's own 'gosem.cut.vars' lays the variable. In a bare row this is a premise. The card (YtaopaggmhleeoaaDoorCards.lean) ties it to the program's text. -/
def laid_unicode_utf8_acceptRanges {H : Type} : DataW H := .agg [.agg [.lit (.int .u8 128), .lit (.int .u8 191)], .agg [.lit (.int .u8 160), .lit (.int .u8 191)], .agg [.lit (.int .u8 128), .lit (.int .u8 159)], .agg [.lit (.int .u8 144), .lit (.int .u8 191)], .agg [.lit (.int .u8 128), .lit (.int .u8 143)], .agg [.lit (.int .u8 0), .lit (.int .u8 0)], .agg [.lit (.int .u8 0), .lit (.int .u8 0)], .agg [.lit (.int .u8 0), .lit (.int .u8 0)], .agg [.lit (.int .u8 0), .lit (.int .u8 0)], .agg [.lit (.int .u8 0), .lit (.int .u8 0)], .agg [.lit (.int .u8 0), .lit (.int .u8 0)], .agg [.lit (.int .u8 0), .lit (.int .u8 0)], .agg [.lit (.int .u8 0), .lit (.int .u8 0)], .agg [.lit (.int .u8 0), .lit (.int .u8 0)], .agg [.lit (.int .u8 0), .lit (.int .u8 0)], .agg [.lit (.int .u8 0), .lit (.int .u8 0)]]
/-- One of Go's own tables, pinned by name: the form's constant. -/
def laid_unicode_utf8_first : DataW Unit := Go.Pinned.utf8First

/-- 'linnetlaw11.SuboptTells': WHATEVER THE INPUT: true; the input reads as it did. -/
def suboptTellsSpec : ChangeSpec := { name := "suboptTells", fn := fun _ => fun
  | [d1, d2, d3] => { results := [.lit (.bool true)], args := [d1, d2, d3] }
  | _ => none }
def suboptTellsRow : OpenClaim := { program := "ytaopaggmhleeoaadoor", sum := "bdf3d0137a9857a372f14e74445230c18175fbc69b93bfdc4c7e330d16477690", func := "linnet/linnetlaw11.SuboptTells", spec := "suboptTells", unfollowed := true, recurses := true, named := ["unicode/utf8.first", "unicode/utf8.acceptRanges"], apart := false, laid := [("unicode/utf8.acceptRanges", laid_unicode_utf8_acceptRanges), ("unicode/utf8.first", laid_unicode_utf8_first)] }
def SuboptTellsSaid : Prop := suboptTellsRow.holds Tryd.pinned (OpenSpec.ofChange suboptTellsSpec)

/-- ITS FALSE NEIGHBOUR: 'it returns false'. Refute it at one input. -/
def suboptTellsWrong : ChangeSpec := { name := "suboptTells", fn := fun _ => fun
  | [d1, d2, d3] => { results := [.lit (.bool false)], args := [d1, d2, d3] }
  | _ => none }
def SuboptTellsWrongFalsely : Prop := suboptTellsRow.holds Tryd.pinned (OpenSpec.ofChange suboptTellsWrong)

/-- 'linnetlaw11.SuboptBack': WHATEVER THE INPUT: true; the input reads as it did. -/
def suboptBackSpec : ChangeSpec := { name := "suboptBack", fn := fun _ => fun
  | [d1, d2] => { results := [.lit (.bool true)], args := [d1, d2] }
  | _ => none }
def suboptBackRow : OpenClaim := { program := "ytaopaggmhleeoaadoor", sum := "bdf3d0137a9857a372f14e74445230c18175fbc69b93bfdc4c7e330d16477690", func := "linnet/linnetlaw11.SuboptBack", spec := "suboptBack", unfollowed := true, recurses := true, named := ["unicode/utf8.first", "unicode/utf8.acceptRanges"], apart := false, laid := [("unicode/utf8.acceptRanges", laid_unicode_utf8_acceptRanges), ("unicode/utf8.first", laid_unicode_utf8_first)] }
def SuboptBackSaid : Prop := suboptBackRow.holds Tryd.pinned (OpenSpec.ofChange suboptBackSpec)

/-- ITS FALSE NEIGHBOUR: 'it returns false'. Refute it at one input. -/
def suboptBackWrong : ChangeSpec := { name := "suboptBack", fn := fun _ => fun
  | [d1, d2] => { results := [.lit (.bool false)], args := [d1, d2] }
  | _ => none }
def SuboptBackWrongFalsely : Prop := suboptBackRow.holds Tryd.pinned (OpenSpec.ofChange suboptBackWrong)

/-- 'linnetlaw11.SuboptParts': WHATEVER THE INPUT: true; the input reads as it did. -/
def suboptPartsSpec : ChangeSpec := { name := "suboptParts", fn := fun _ => fun
  | [d1, d2, d3] => { results := [.lit (.bool true)], args := [d1, d2, d3] }
  | _ => none }
def suboptPartsRow : OpenClaim := { program := "ytaopaggmhleeoaadoor", sum := "bdf3d0137a9857a372f14e74445230c18175fbc69b93bfdc4c7e330d16477690", func := "linnet/linnetlaw11.SuboptParts", spec := "suboptParts", unfollowed := true, recurses := true, named := ["unicode/utf8.first", "unicode/utf8.acceptRanges"], apart := false, laid := [("unicode/utf8.acceptRanges", laid_unicode_utf8_acceptRanges), ("unicode/utf8.first", laid_unicode_utf8_first)] }
def SuboptPartsSaid : Prop := suboptPartsRow.holds Tryd.pinned (OpenSpec.ofChange suboptPartsSpec)

/-- ITS FALSE NEIGHBOUR: 'it returns false'. Refute it at one input. -/
def suboptPartsWrong : ChangeSpec := { name := "suboptParts", fn := fun _ => fun
  | [d1, d2, d3] => { results := [.lit (.bool false)], args := [d1, d2, d3] }
  | _ => none }
def SuboptPartsWrongFalsely : Prop := suboptPartsRow.holds Tryd.pinned (OpenSpec.ofChange suboptPartsWrong)

/-- 'linnetlaw11.SuboptAck': WHATEVER THE INPUT: true; the input reads as it did. -/
def suboptAckSpec : ChangeSpec := { name := "suboptAck", fn := fun _ => fun
  | [d] => { results := [.lit (.bool true)], args := [d] }
  | _ => none }
def suboptAckRow : OpenClaim := { program := "ytaopaggmhleeoaadoor", sum := "bdf3d0137a9857a372f14e74445230c18175fbc69b93bfdc4c7e330d16477690", func := "linnet/linnetlaw11.SuboptAck", spec := "suboptAck", unfollowed := true, recurses := true, named := ["unicode/utf8.first", "unicode/utf8.acceptRanges"], apart := false, laid := [("unicode/utf8.acceptRanges", laid_unicode_utf8_acceptRanges), ("unicode/utf8.first", laid_unicode_utf8_first)] }
def SuboptAckSaid : Prop := suboptAckRow.holds Tryd.pinned (OpenSpec.ofChange suboptAckSpec)

/-- ITS FALSE NEIGHBOUR: 'it returns false'. Refute it at one input. -/
def suboptAckWrong : ChangeSpec := { name := "suboptAck", fn := fun _ => fun
  | [d] => { results := [.lit (.bool false)], args := [d] }
  | _ => none }
def SuboptAckWrongFalsely : Prop := suboptAckRow.holds Tryd.pinned (OpenSpec.ofChange suboptAckWrong)

/- THE SECOND FORM. 'bulk': how many values and letters a reading holds, each counted each time it is reached (what is shared counts as often as it is met; a slice's spare places count too). A statement '..UptoSaid' is the law's where the arguments, and the package variables that the reading takes, are together of bulk at most 1048576: NARROWER than '..Said'. Prove '..Said' where nothing that the law and all that it calls make is longer than what came in: it says more and counts as full. Else prove '..UptoSaid'. A law counts once. -/
mutual
def uptoBulk {H : Type} : DataW H → Nat
  | .lit (.string bytes) => bytes.length + 1
  | .lit _ => 1
  | .nil => 1
  | .ptr d => uptoBulk d + 1
  | .slice elems spare => uptoBulkAll elems + uptoBulkAll spare + 1
  | .agg parts => uptoBulkAll parts + 1
  | .iface _ d => uptoBulk d + 1
  | .map entries => uptoBulkEntries entries + 1
  | .held _ => 1
def uptoBulkAll {H : Type} : List (DataW H) → Nat
  | [] => 0
  | d :: r => uptoBulk d + uptoBulkAll r
def uptoBulkEntries {H : Type} : List (Lit × DataW H) → Nat
  | [] => 0
  | x :: r => uptoBulkEntry x + uptoBulkEntries r
def uptoBulkEntry {H : Type} : Lit × DataW H → Nat
  | (.string bytes, d) => bytes.length + uptoBulk d + 1
  | (_, d) => uptoBulk d + 1
 end
def uptoSmall : (H : Type) → List (DataW H) → Bool := fun _ ds => decide (uptoBulkAll ds ≤ 1048576)
def OpenSpec.upto (s : _root_.Go.ChangeSpec) : _root_.Go.OpenSpec := { _root_.Go.OpenSpec.ofChange s with cond := some uptoSmall }

/-- 'linnetlaw11.SuboptTells', WHERE WHAT IT READS IS OF BULK AT MOST 1048576: true; the input reads as it did. -/
def suboptTellsUptoRow : OpenClaim := { program := "ytaopaggmhleeoaadoor", sum := "bdf3d0137a9857a372f14e74445230c18175fbc69b93bfdc4c7e330d16477690", func := "linnet/linnetlaw11.SuboptTells", spec := "suboptTells", unfollowed := true, recurses := true, named := ["unicode/utf8.first", "unicode/utf8.acceptRanges"], apart := false, laid := [("unicode/utf8.acceptRanges", laid_unicode_utf8_acceptRanges), ("unicode/utf8.first", laid_unicode_utf8_first)], narrowed := true }
def SuboptTellsUptoSaid : Prop := suboptTellsUptoRow.holds Tryd.pinned (OpenSpec.upto suboptTellsSpec)

/-- 'linnetlaw11.SuboptBack', WHERE WHAT IT READS IS OF BULK AT MOST 1048576: true; the input reads as it did. -/
def suboptBackUptoRow : OpenClaim := { program := "ytaopaggmhleeoaadoor", sum := "bdf3d0137a9857a372f14e74445230c18175fbc69b93bfdc4c7e330d16477690", func := "linnet/linnetlaw11.SuboptBack", spec := "suboptBack", unfollowed := true, recurses := true, named := ["unicode/utf8.first", "unicode/utf8.acceptRanges"], apart := false, laid := [("unicode/utf8.acceptRanges", laid_unicode_utf8_acceptRanges), ("unicode/utf8.first", laid_unicode_utf8_first)], narrowed := true }
def SuboptBackUptoSaid : Prop := suboptBackUptoRow.holds Tryd.pinned (OpenSpec.upto suboptBackSpec)

/-- 'linnetlaw11.SuboptParts', WHERE WHAT IT READS IS OF BULK AT MOST 1048576: true; the input reads as it did. -/
def suboptPartsUptoRow : OpenClaim := { program := "ytaopaggmhleeoaadoor", sum := "bdf3d0137a9857a372f14e74445230c18175fbc69b93bfdc4c7e330d16477690", func := "linnet/linnetlaw11.SuboptParts", spec := "suboptParts", unfollowed := true, recurses := true, named := ["unicode/utf8.first", "unicode/utf8.acceptRanges"], apart := false, laid := [("unicode/utf8.acceptRanges", laid_unicode_utf8_acceptRanges), ("unicode/utf8.first", laid_unicode_utf8_first)], narrowed := true }
def SuboptPartsUptoSaid : Prop := suboptPartsUptoRow.holds Tryd.pinned (OpenSpec.upto suboptPartsSpec)

/-- 'linnetlaw11.SuboptAck', WHERE WHAT IT READS IS OF BULK AT MOST 1048576: true; the input reads as it did. -/
def suboptAckUptoRow : OpenClaim := { program := "ytaopaggmhleeoaadoor", sum := "bdf3d0137a9857a372f14e74445230c18175fbc69b93bfdc4c7e330d16477690", func := "linnet/linnetlaw11.SuboptAck", spec := "suboptAck", unfollowed := true, recurses := true, named := ["unicode/utf8.first", "unicode/utf8.acceptRanges"], apart := false, laid := [("unicode/utf8.acceptRanges", laid_unicode_utf8_acceptRanges), ("unicode/utf8.first", laid_unicode_utf8_first)], narrowed := true }
def SuboptAckUptoSaid : Prop := suboptAckUptoRow.holds Tryd.pinned (OpenSpec.upto suboptAckSpec)

end Rows
end Go.Proofs.YtaopaggmhleeoaaDoor
