/-
  NARROWER THAN 'FOR EVERY INPUT', by the rows' own cells (each row's printed sentence says how): MaskTells: laid · MaskBack: laid · MaskWith: laid · MaskOrder: laid · MaskKeys: laid · MaskTwo: laid.
  DERIVED. THE GIVEN ROWS OF THIS SEAT. 6 by the template 'for every input the law returns true; each argument reads behind the call as it read before'; 0 by the template 'total and deterministic' (their statements: YtnbghbbmilfgpaaDoorTotals.lean).
  GIVEN WITH THE SEED: the statements are not yours to turn. If you find one false, say at which input.
  Laid BY PROGRAM, IN A SANDBOX (cutbox-rows.mjs): the forced cells as the released guide's own fill.sh prints them over the translation ebc05c8f6870ca7c… (all of the seat's roots in one cut). By AI agents, Wed Nov 11 2026. No macro, syntax, notation, axiom, sorry.
-/
import Derived.Test.YtnbghbbmilfgpaaDoorChecked
import GoSem.PinnedTables
import GoSem.Claim
import GoSem.ClaimJoined
import GoSem.ClaimMapViews
import Derived.JoinedTies
import Derived.KernelRfl
namespace Go.Proofs.YtnbghbbmilfgpaaDoor
/- THE CELL 'sum', in the pinned program and in every row, IS THE sha256 OF THE DUMP (.gsa) THAT YtnbghbbmilfgpaaDoorProg.lean LOADS. Nothing in Lean hashes anything: it is a label: what it is worth is what the hold of that sum in a sandbox is worth. -/
noncomputable def Tryd.pinned : Pinned := { name := "ytnbghbbmilfgpaadoor", sum := "ebc05c8f6870ca7c9498dba8cbbd6f88c80e199ccf45738d100eef3d71d7a9f3", checked := Tryd.checked }
namespace Rows
def none {H : Type} : Left H := { results := [], args := [] }

/- WHAT THE LISTED PACKAGE-LEVEL VARIABLES READ AS WHEN THE CALL BEGINS. Each datum BY PROGRAM (the guide's laid-datum.mjs) off the statement by which the dump's own 'gosem.cut.vars' lays the variable. In a bare row this is a premise. The card (YtnbghbbmilfgpaaDoorCards.lean) ties it to the program's text. -/
def laid_unicode_utf8_acceptRanges {H : Type} : DataW H := .agg [.agg [.lit (.int .u8 128), .lit (.int .u8 191)], .agg [.lit (.int .u8 160), .lit (.int .u8 191)], .agg [.lit (.int .u8 128), .lit (.int .u8 159)], .agg [.lit (.int .u8 144), .lit (.int .u8 191)], .agg [.lit (.int .u8 128), .lit (.int .u8 143)], .agg [.lit (.int .u8 0), .lit (.int .u8 0)], .agg [.lit (.int .u8 0), .lit (.int .u8 0)], .agg [.lit (.int .u8 0), .lit (.int .u8 0)], .agg [.lit (.int .u8 0), .lit (.int .u8 0)], .agg [.lit (.int .u8 0), .lit (.int .u8 0)], .agg [.lit (.int .u8 0), .lit (.int .u8 0)], .agg [.lit (.int .u8 0), .lit (.int .u8 0)], .agg [.lit (.int .u8 0), .lit (.int .u8 0)], .agg [.lit (.int .u8 0), .lit (.int .u8 0)], .agg [.lit (.int .u8 0), .lit (.int .u8 0)], .agg [.lit (.int .u8 0), .lit (.int .u8 0)]]
/-- One of Go's own tables, pinned by name: the form's constant. -/
def laid_unicode_utf8_first : DataW Unit := Go.Pinned.utf8First

/-- 'linnetlaw10.MaskTells': WHATEVER THE INPUT: true; the input reads as it did. -/
def maskTellsSpec : ChangeSpec := { name := "maskTells", fn := fun _ => fun
  | [d1, d2, d3] => { results := [.lit (.bool true)], args := [d1, d2, d3] }
  | _ => none }
def maskTellsRow : OpenClaim := { program := "ytnbghbbmilfgpaadoor", sum := "ebc05c8f6870ca7c9498dba8cbbd6f88c80e199ccf45738d100eef3d71d7a9f3", func := "linnet/linnetlaw10.MaskTells", spec := "maskTells", named := ["unicode/utf8.first", "unicode/utf8.acceptRanges"], apart := false, laid := [("unicode/utf8.acceptRanges", laid_unicode_utf8_acceptRanges), ("unicode/utf8.first", laid_unicode_utf8_first)] }
def MaskTellsSaid : Prop := maskTellsRow.holds Tryd.pinned (OpenSpec.ofChange maskTellsSpec)

/-- ITS FALSE NEIGHBOUR: 'it returns false'. Refute it at one input. -/
def maskTellsWrong : ChangeSpec := { name := "maskTells", fn := fun _ => fun
  | [d1, d2, d3] => { results := [.lit (.bool false)], args := [d1, d2, d3] }
  | _ => none }
def MaskTellsWrongFalsely : Prop := maskTellsRow.holds Tryd.pinned (OpenSpec.ofChange maskTellsWrong)

/-- 'linnetlaw10.MaskBack': WHATEVER THE INPUT: true; the input reads as it did. -/
def maskBackSpec : ChangeSpec := { name := "maskBack", fn := fun _ => fun
  | [d1, d2] => { results := [.lit (.bool true)], args := [d1, d2] }
  | _ => none }
def maskBackRow : OpenClaim := { program := "ytnbghbbmilfgpaadoor", sum := "ebc05c8f6870ca7c9498dba8cbbd6f88c80e199ccf45738d100eef3d71d7a9f3", func := "linnet/linnetlaw10.MaskBack", spec := "maskBack", named := ["unicode/utf8.first", "unicode/utf8.acceptRanges"], apart := false, laid := [("unicode/utf8.acceptRanges", laid_unicode_utf8_acceptRanges), ("unicode/utf8.first", laid_unicode_utf8_first)] }
def MaskBackSaid : Prop := maskBackRow.holds Tryd.pinned (OpenSpec.ofChange maskBackSpec)

/-- ITS FALSE NEIGHBOUR: 'it returns false'. Refute it at one input. -/
def maskBackWrong : ChangeSpec := { name := "maskBack", fn := fun _ => fun
  | [d1, d2] => { results := [.lit (.bool false)], args := [d1, d2] }
  | _ => none }
def MaskBackWrongFalsely : Prop := maskBackRow.holds Tryd.pinned (OpenSpec.ofChange maskBackWrong)

/-- 'linnetlaw10.MaskWith': WHATEVER THE INPUT: true; the input reads as it did. -/
def maskWithSpec : ChangeSpec := { name := "maskWith", fn := fun _ => fun
  | [d1, d2, d3] => { results := [.lit (.bool true)], args := [d1, d2, d3] }
  | _ => none }
def maskWithRow : OpenClaim := { program := "ytnbghbbmilfgpaadoor", sum := "ebc05c8f6870ca7c9498dba8cbbd6f88c80e199ccf45738d100eef3d71d7a9f3", func := "linnet/linnetlaw10.MaskWith", spec := "maskWith", named := ["unicode/utf8.first", "unicode/utf8.acceptRanges"], apart := false, laid := [("unicode/utf8.acceptRanges", laid_unicode_utf8_acceptRanges), ("unicode/utf8.first", laid_unicode_utf8_first)] }
def MaskWithSaid : Prop := maskWithRow.holds Tryd.pinned (OpenSpec.ofChange maskWithSpec)

/-- ITS FALSE NEIGHBOUR: 'it returns false'. Refute it at one input. -/
def maskWithWrong : ChangeSpec := { name := "maskWith", fn := fun _ => fun
  | [d1, d2, d3] => { results := [.lit (.bool false)], args := [d1, d2, d3] }
  | _ => none }
def MaskWithWrongFalsely : Prop := maskWithRow.holds Tryd.pinned (OpenSpec.ofChange maskWithWrong)

/-- 'linnetlaw10.MaskOrder': WHATEVER THE INPUT: true; the input reads as it did. -/
def maskOrderSpec : ChangeSpec := { name := "maskOrder", fn := fun _ => fun
  | [d1, d2, d3] => { results := [.lit (.bool true)], args := [d1, d2, d3] }
  | _ => none }
def maskOrderRow : OpenClaim := { program := "ytnbghbbmilfgpaadoor", sum := "ebc05c8f6870ca7c9498dba8cbbd6f88c80e199ccf45738d100eef3d71d7a9f3", func := "linnet/linnetlaw10.MaskOrder", spec := "maskOrder", named := ["unicode/utf8.first", "unicode/utf8.acceptRanges"], apart := false, laid := [("unicode/utf8.acceptRanges", laid_unicode_utf8_acceptRanges), ("unicode/utf8.first", laid_unicode_utf8_first)] }
def MaskOrderSaid : Prop := maskOrderRow.holds Tryd.pinned (OpenSpec.ofChange maskOrderSpec)

/-- ITS FALSE NEIGHBOUR: 'it returns false'. Refute it at one input. -/
def maskOrderWrong : ChangeSpec := { name := "maskOrder", fn := fun _ => fun
  | [d1, d2, d3] => { results := [.lit (.bool false)], args := [d1, d2, d3] }
  | _ => none }
def MaskOrderWrongFalsely : Prop := maskOrderRow.holds Tryd.pinned (OpenSpec.ofChange maskOrderWrong)

/-- 'linnetlaw10.MaskKeys': WHATEVER THE INPUT: true; the input reads as it did. -/
def maskKeysSpec : ChangeSpec := { name := "maskKeys", fn := fun _ => fun
  | [d] => { results := [.lit (.bool true)], args := [d] }
  | _ => none }
def maskKeysRow : OpenClaim := { program := "ytnbghbbmilfgpaadoor", sum := "ebc05c8f6870ca7c9498dba8cbbd6f88c80e199ccf45738d100eef3d71d7a9f3", func := "linnet/linnetlaw10.MaskKeys", spec := "maskKeys", named := ["unicode/utf8.first", "unicode/utf8.acceptRanges"], apart := false, laid := [("unicode/utf8.acceptRanges", laid_unicode_utf8_acceptRanges), ("unicode/utf8.first", laid_unicode_utf8_first)] }
def MaskKeysSaid : Prop := maskKeysRow.holds Tryd.pinned (OpenSpec.ofChange maskKeysSpec)

/-- ITS FALSE NEIGHBOUR: 'it returns false'. Refute it at one input. -/
def maskKeysWrong : ChangeSpec := { name := "maskKeys", fn := fun _ => fun
  | [d] => { results := [.lit (.bool false)], args := [d] }
  | _ => none }
def MaskKeysWrongFalsely : Prop := maskKeysRow.holds Tryd.pinned (OpenSpec.ofChange maskKeysWrong)

/-- 'linnetlaw10.MaskTwo': WHATEVER THE INPUT: true; the input reads as it did. -/
def maskTwoSpec : ChangeSpec := { name := "maskTwo", fn := fun _ => fun
  | [d1, d2] => { results := [.lit (.bool true)], args := [d1, d2] }
  | _ => none }
def maskTwoRow : OpenClaim := { program := "ytnbghbbmilfgpaadoor", sum := "ebc05c8f6870ca7c9498dba8cbbd6f88c80e199ccf45738d100eef3d71d7a9f3", func := "linnet/linnetlaw10.MaskTwo", spec := "maskTwo", named := ["unicode/utf8.first", "unicode/utf8.acceptRanges"], apart := false, laid := [("unicode/utf8.acceptRanges", laid_unicode_utf8_acceptRanges), ("unicode/utf8.first", laid_unicode_utf8_first)] }
def MaskTwoSaid : Prop := maskTwoRow.holds Tryd.pinned (OpenSpec.ofChange maskTwoSpec)

/-- ITS FALSE NEIGHBOUR: 'it returns false'. Refute it at one input. -/
def maskTwoWrong : ChangeSpec := { name := "maskTwo", fn := fun _ => fun
  | [d1, d2] => { results := [.lit (.bool false)], args := [d1, d2] }
  | _ => none }
def MaskTwoWrongFalsely : Prop := maskTwoRow.holds Tryd.pinned (OpenSpec.ofChange maskTwoWrong)

/- THE SECOND FORM. 'bulk': how many values and letters a reading holds, each counted each time it is reached (what is shared counts as often as it is met; a slice's spare places count too). A statement '..UptoSaid' is the law's where the arguments, and the package variables that the reading takes, are together of bulk at most 1048576: NARROWER than '..Said'. Prove '..Said' where nothing that the law and all that it calls make is longer than what came in: it says more and counts as full. Else prove '..UptoSaid'. A law counts once. -/
mutual
def uptoBulk {H : Type} : DataW H → Nat
  | .lit (.string bytes) => bytes.length + 1
  | .lit _ => 1
  | .nil => 1
  | .ptr d => uptoBulk d + 1
  | .slice elems spare => uptoBulkAll elems + uptoBulkAll spare + 1
  | .agg parts => uptoBulkAll parts + 1
  | .iface _ d => uptoBulk d + 1
  | .map entries => uptoBulkEntries entries + 1
  | .held _ => 1
def uptoBulkAll {H : Type} : List (DataW H) → Nat
  | [] => 0
  | d :: r => uptoBulk d + uptoBulkAll r
def uptoBulkEntries {H : Type} : List (Lit × DataW H) → Nat
  | [] => 0
  | x :: r => uptoBulkEntry x + uptoBulkEntries r
def uptoBulkEntry {H : Type} : Lit × DataW H → Nat
  | (.string bytes, d) => bytes.length + uptoBulk d + 1
  | (_, d) => uptoBulk d + 1
 end
def uptoSmall : (H : Type) → List (DataW H) → Bool := fun _ ds => decide (uptoBulkAll ds ≤ 1048576)
def OpenSpec.upto (s : _root_.Go.ChangeSpec) : _root_.Go.OpenSpec := { _root_.Go.OpenSpec.ofChange s with cond := some uptoSmall }

/-- 'linnetlaw10.MaskTells', WHERE WHAT IT READS IS OF BULK AT MOST 1048576: true; the input reads as it did. -/
def maskTellsUptoRow : OpenClaim := { program := "ytnbghbbmilfgpaadoor", sum := "ebc05c8f6870ca7c9498dba8cbbd6f88c80e199ccf45738d100eef3d71d7a9f3", func := "linnet/linnetlaw10.MaskTells", spec := "maskTells", named := ["unicode/utf8.first", "unicode/utf8.acceptRanges"], apart := false, laid := [("unicode/utf8.acceptRanges", laid_unicode_utf8_acceptRanges), ("unicode/utf8.first", laid_unicode_utf8_first)], narrowed := true }
def MaskTellsUptoSaid : Prop := maskTellsUptoRow.holds Tryd.pinned (OpenSpec.upto maskTellsSpec)

/-- 'linnetlaw10.MaskBack', WHERE WHAT IT READS IS OF BULK AT MOST 1048576: true; the input reads as it did. -/
def maskBackUptoRow : OpenClaim := { program := "ytnbghbbmilfgpaadoor", sum := "ebc05c8f6870ca7c9498dba8cbbd6f88c80e199ccf45738d100eef3d71d7a9f3", func := "linnet/linnetlaw10.MaskBack", spec := "maskBack", named := ["unicode/utf8.first", "unicode/utf8.acceptRanges"], apart := false, laid := [("unicode/utf8.acceptRanges", laid_unicode_utf8_acceptRanges), ("unicode/utf8.first", laid_unicode_utf8_first)], narrowed := true }
def MaskBackUptoSaid : Prop := maskBackUptoRow.holds Tryd.pinned (OpenSpec.upto maskBackSpec)

/-- 'linnetlaw10.MaskWith', WHERE WHAT IT READS IS OF BULK AT MOST 1048576: true; the input reads as it did. -/
def maskWithUptoRow : OpenClaim := { program := "ytnbghbbmilfgpaadoor", sum := "ebc05c8f6870ca7c9498dba8cbbd6f88c80e199ccf45738d100eef3d71d7a9f3", func := "linnet/linnetlaw10.MaskWith", spec := "maskWith", named := ["unicode/utf8.first", "unicode/utf8.acceptRanges"], apart := false, laid := [("unicode/utf8.acceptRanges", laid_unicode_utf8_acceptRanges), ("unicode/utf8.first", laid_unicode_utf8_first)], narrowed := true }
def MaskWithUptoSaid : Prop := maskWithUptoRow.holds Tryd.pinned (OpenSpec.upto maskWithSpec)

/-- 'linnetlaw10.MaskOrder', WHERE WHAT IT READS IS OF BULK AT MOST 1048576: true; the input reads as it did. -/
def maskOrderUptoRow : OpenClaim := { program := "ytnbghbbmilfgpaadoor", sum := "ebc05c8f6870ca7c9498dba8cbbd6f88c80e199ccf45738d100eef3d71d7a9f3", func := "linnet/linnetlaw10.MaskOrder", spec := "maskOrder", named := ["unicode/utf8.first", "unicode/utf8.acceptRanges"], apart := false, laid := [("unicode/utf8.acceptRanges", laid_unicode_utf8_acceptRanges), ("unicode/utf8.first", laid_unicode_utf8_first)], narrowed := true }
def MaskOrderUptoSaid : Prop := maskOrderUptoRow.holds Tryd.pinned (OpenSpec.upto maskOrderSpec)

/-- 'linnetlaw10.MaskKeys', WHERE WHAT IT READS IS OF BULK AT MOST 1048576: true; the input reads as it did. -/
def maskKeysUptoRow : OpenClaim := { program := "ytnbghbbmilfgpaadoor", sum := "ebc05c8f6870ca7c9498dba8cbbd6f88c80e199ccf45738d100eef3d71d7a9f3", func := "linnet/linnetlaw10.MaskKeys", spec := "maskKeys", named := ["unicode/utf8.first", "unicode/utf8.acceptRanges"], apart := false, laid := [("unicode/utf8.acceptRanges", laid_unicode_utf8_acceptRanges), ("unicode/utf8.first", laid_unicode_utf8_first)], narrowed := true }
def MaskKeysUptoSaid : Prop := maskKeysUptoRow.holds Tryd.pinned (OpenSpec.upto maskKeysSpec)

/-- 'linnetlaw10.MaskTwo', WHERE WHAT IT READS IS OF BULK AT MOST 1048576: true; the input reads as it did. -/
def maskTwoUptoRow : OpenClaim := { program := "ytnbghbbmilfgpaadoor", sum := "ebc05c8f6870ca7c9498dba8cbbd6f88c80e199ccf45738d100eef3d71d7a9f3", func := "linnet/linnetlaw10.MaskTwo", spec := "maskTwo", named := ["unicode/utf8.first", "unicode/utf8.acceptRanges"], apart := false, laid := [("unicode/utf8.acceptRanges", laid_unicode_utf8_acceptRanges), ("unicode/utf8.first", laid_unicode_utf8_first)], narrowed := true }
def MaskTwoUptoSaid : Prop := maskTwoUptoRow.holds Tryd.pinned (OpenSpec.upto maskTwoSpec)

end Rows
end Go.Proofs.YtnbghbbmilfgpaaDoor
