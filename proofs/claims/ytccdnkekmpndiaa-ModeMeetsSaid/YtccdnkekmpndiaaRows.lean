/-
  No cell of these rows narrows 'for every input' (looked for: loops, veiled, ifaces, maps, wideKeys, modest, calm, conditions, laid).
  DERIVED. THE GIVEN ROWS OF THIS SEAT. 6 by the template 'for every input the law returns true; each argument reads behind the call as it read before'; 0 by the template 'total and deterministic' (their statements: YtccdnkekmpndiaaTotals.lean).
  GIVEN WITH THE SEED: the statements are not yours to turn. If you find one false, say at which input.
  Laid BY PROGRAM, IN A SANDBOX (cutbox-rows.mjs): the forced cells as the released guide's own fill.sh prints them over the translation 9a82dc1d12573966… (all of the seat's roots in one cut). By AI agents, Wed Nov 11 2026. No macro, syntax, notation, axiom, sorry.
-/
import Derived.Test.YtccdnkekmpndiaaChecked
import GoSem.Claim
import GoSem.ClaimJoined
import GoSem.ClaimMapViews
import Derived.JoinedTies
import Derived.KernelRfl
namespace Go.Proofs.Ytccdnkekmpndiaa
/- THE CELL 'sum', in the pinned program and in every row, IS THE sha256 OF THE DUMP (.gsa) THAT YtccdnkekmpndiaaProg.lean LOADS. Nothing in Lean hashes anything: it is a label: what it is worth is what the hold of that sum in a sandbox is worth. -/
noncomputable def Try.pinned : Pinned := { name := "ytccdnkekmpndiaa", sum := "9a82dc1d1257396683a501a52467d254fadcdb8be67663edd7ed93e6fa3cbf95", checked := Try.checked }
namespace Rows
def none {H : Type} : Left H := { results := [], args := [] }

/-- 'linnetlaw16.ModeTakes': WHATEVER THE INPUT: true; the input reads as it did. -/
def modeTakesSpec : ChangeSpec := { name := "modeTakes", fn := fun _ => fun
  | [d1, d2] => { results := [.lit (.bool true)], args := [d1, d2] }
  | _ => none }
def modeTakesRow : OpenClaim := { program := "ytccdnkekmpndiaa", sum := "9a82dc1d1257396683a501a52467d254fadcdb8be67663edd7ed93e6fa3cbf95", func := "linnet/linnetlaw16.ModeTakes", spec := "modeTakes", unfollowed := true, recurses := true, apart := false }
def ModeTakesSaid : Prop := modeTakesRow.holds Try.pinned (OpenSpec.ofChange modeTakesSpec)

/-- ITS FALSE NEIGHBOUR: 'it returns false'. Refute it at one input. -/
def modeTakesWrong : ChangeSpec := { name := "modeTakes", fn := fun _ => fun
  | [d1, d2] => { results := [.lit (.bool false)], args := [d1, d2] }
  | _ => none }
def ModeTakesWrongFalsely : Prop := modeTakesRow.holds Try.pinned (OpenSpec.ofChange modeTakesWrong)

/-- 'linnetlaw16.ModeStray': WHATEVER THE INPUT: true; the input reads as it did. -/
def modeStraySpec : ChangeSpec := { name := "modeStray", fn := fun _ => fun
  | [d1, d2, d3] => { results := [.lit (.bool true)], args := [d1, d2, d3] }
  | _ => none }
def modeStrayRow : OpenClaim := { program := "ytccdnkekmpndiaa", sum := "9a82dc1d1257396683a501a52467d254fadcdb8be67663edd7ed93e6fa3cbf95", func := "linnet/linnetlaw16.ModeStray", spec := "modeStray", unfollowed := true, recurses := true, apart := false }
def ModeStraySaid : Prop := modeStrayRow.holds Try.pinned (OpenSpec.ofChange modeStraySpec)

/-- ITS FALSE NEIGHBOUR: 'it returns false'. Refute it at one input. -/
def modeStrayWrong : ChangeSpec := { name := "modeStray", fn := fun _ => fun
  | [d1, d2, d3] => { results := [.lit (.bool false)], args := [d1, d2, d3] }
  | _ => none }
def ModeStrayWrongFalsely : Prop := modeStrayRow.holds Try.pinned (OpenSpec.ofChange modeStrayWrong)

/-- 'linnetlaw16.ModeHad': WHATEVER THE INPUT: true; the input reads as it did. -/
def modeHadSpec : ChangeSpec := { name := "modeHad", fn := fun _ => fun
  | [d1, d2] => { results := [.lit (.bool true)], args := [d1, d2] }
  | _ => none }
def modeHadRow : OpenClaim := { program := "ytccdnkekmpndiaa", sum := "9a82dc1d1257396683a501a52467d254fadcdb8be67663edd7ed93e6fa3cbf95", func := "linnet/linnetlaw16.ModeHad", spec := "modeHad", unfollowed := true, recurses := true, apart := false }
def ModeHadSaid : Prop := modeHadRow.holds Try.pinned (OpenSpec.ofChange modeHadSpec)

/-- ITS FALSE NEIGHBOUR: 'it returns false'. Refute it at one input. -/
def modeHadWrong : ChangeSpec := { name := "modeHad", fn := fun _ => fun
  | [d1, d2] => { results := [.lit (.bool false)], args := [d1, d2] }
  | _ => none }
def ModeHadWrongFalsely : Prop := modeHadRow.holds Try.pinned (OpenSpec.ofChange modeHadWrong)

/-- 'linnetlaw16.ModeAsks': WHATEVER THE INPUT: true; the input reads as it did. -/
def modeAsksSpec : ChangeSpec := { name := "modeAsks", fn := fun _ => fun
  | [d1, d2, d3] => { results := [.lit (.bool true)], args := [d1, d2, d3] }
  | _ => none }
def modeAsksRow : OpenClaim := { program := "ytccdnkekmpndiaa", sum := "9a82dc1d1257396683a501a52467d254fadcdb8be67663edd7ed93e6fa3cbf95", func := "linnet/linnetlaw16.ModeAsks", spec := "modeAsks", unfollowed := true, recurses := true, apart := false }
def ModeAsksSaid : Prop := modeAsksRow.holds Try.pinned (OpenSpec.ofChange modeAsksSpec)

/-- ITS FALSE NEIGHBOUR: 'it returns false'. Refute it at one input. -/
def modeAsksWrong : ChangeSpec := { name := "modeAsks", fn := fun _ => fun
  | [d1, d2, d3] => { results := [.lit (.bool false)], args := [d1, d2, d3] }
  | _ => none }
def ModeAsksWrongFalsely : Prop := modeAsksRow.holds Try.pinned (OpenSpec.ofChange modeAsksWrong)

/-- 'linnetlaw16.ModeMeets': WHATEVER THE INPUT: true; the input reads as it did. -/
def modeMeetsSpec : ChangeSpec := { name := "modeMeets", fn := fun _ => fun
  | [d1, d2] => { results := [.lit (.bool true)], args := [d1, d2] }
  | _ => none }
def modeMeetsRow : OpenClaim := { program := "ytccdnkekmpndiaa", sum := "9a82dc1d1257396683a501a52467d254fadcdb8be67663edd7ed93e6fa3cbf95", func := "linnet/linnetlaw16.ModeMeets", spec := "modeMeets", unfollowed := true, recurses := true, apart := false }
def ModeMeetsSaid : Prop := modeMeetsRow.holds Try.pinned (OpenSpec.ofChange modeMeetsSpec)

/-- ITS FALSE NEIGHBOUR: 'it returns false'. Refute it at one input. -/
def modeMeetsWrong : ChangeSpec := { name := "modeMeets", fn := fun _ => fun
  | [d1, d2] => { results := [.lit (.bool false)], args := [d1, d2] }
  | _ => none }
def ModeMeetsWrongFalsely : Prop := modeMeetsRow.holds Try.pinned (OpenSpec.ofChange modeMeetsWrong)

/-- 'linnetlaw16.ModeOnce': WHATEVER THE INPUT: true; the input reads as it did. -/
def modeOnceSpec : ChangeSpec := { name := "modeOnce", fn := fun _ => fun
  | [d1, d2] => { results := [.lit (.bool true)], args := [d1, d2] }
  | _ => none }
def modeOnceRow : OpenClaim := { program := "ytccdnkekmpndiaa", sum := "9a82dc1d1257396683a501a52467d254fadcdb8be67663edd7ed93e6fa3cbf95", func := "linnet/linnetlaw16.ModeOnce", spec := "modeOnce", unfollowed := true, recurses := true, apart := false }
def ModeOnceSaid : Prop := modeOnceRow.holds Try.pinned (OpenSpec.ofChange modeOnceSpec)

/-- ITS FALSE NEIGHBOUR: 'it returns false'. Refute it at one input. -/
def modeOnceWrong : ChangeSpec := { name := "modeOnce", fn := fun _ => fun
  | [d1, d2] => { results := [.lit (.bool false)], args := [d1, d2] }
  | _ => none }
def ModeOnceWrongFalsely : Prop := modeOnceRow.holds Try.pinned (OpenSpec.ofChange modeOnceWrong)

/- THE SECOND FORM. 'bulk': how many values and letters a reading holds, each counted each time it is reached (what is shared counts as often as it is met; a slice's spare places count too). A statement '..UptoSaid' is the law's where the arguments, and the package variables that the reading takes, are together of bulk at most 1048576: NARROWER than '..Said'. Prove '..Said' where nothing that the law and all that it calls make is longer than what came in: it says more and counts as full. Else prove '..UptoSaid'. A law counts once. -/
mutual
def uptoBulk {H : Type} : DataW H → Nat
  | .lit (.string bytes) => bytes.length + 1
  | .lit _ => 1
  | .nil => 1
  | .ptr d => uptoBulk d + 1
  | .slice elems spare => uptoBulkAll elems + uptoBulkAll spare + 1
  | .agg parts => uptoBulkAll parts + 1
  | .iface _ d => uptoBulk d + 1
  | .map entries => uptoBulkEntries entries + 1
  | .held _ => 1
def uptoBulkAll {H : Type} : List (DataW H) → Nat
  | [] => 0
  | d :: r => uptoBulk d + uptoBulkAll r
def uptoBulkEntries {H : Type} : List (Lit × DataW H) → Nat
  | [] => 0
  | x :: r => uptoBulkEntry x + uptoBulkEntries r
def uptoBulkEntry {H : Type} : Lit × DataW H → Nat
  | (.string bytes, d) => bytes.length + uptoBulk d + 1
  | (_, d) => uptoBulk d + 1
 end
def uptoSmall : (H : Type) → List (DataW H) → Bool := fun _ ds => decide (uptoBulkAll ds ≤ 1048576)
def OpenSpec.upto (s : _root_.Go.ChangeSpec) : _root_.Go.OpenSpec := { _root_.Go.OpenSpec.ofChange s with cond := some uptoSmall }

/-- 'linnetlaw16.ModeTakes', WHERE WHAT IT READS IS OF BULK AT MOST 1048576: true; the input reads as it did. -/
def modeTakesUptoRow : OpenClaim := { program := "ytccdnkekmpndiaa", sum := "9a82dc1d1257396683a501a52467d254fadcdb8be67663edd7ed93e6fa3cbf95", func := "linnet/linnetlaw16.ModeTakes", spec := "modeTakes", unfollowed := true, recurses := true, apart := false, narrowed := true }
def ModeTakesUptoSaid : Prop := modeTakesUptoRow.holds Try.pinned (OpenSpec.upto modeTakesSpec)

/-- 'linnetlaw16.ModeStray', WHERE WHAT IT READS IS OF BULK AT MOST 1048576: true; the input reads as it did. -/
def modeStrayUptoRow : OpenClaim := { program := "ytccdnkekmpndiaa", sum := "9a82dc1d1257396683a501a52467d254fadcdb8be67663edd7ed93e6fa3cbf95", func := "linnet/linnetlaw16.ModeStray", spec := "modeStray", unfollowed := true, recurses := true, apart := false, narrowed := true }
def ModeStrayUptoSaid : Prop := modeStrayUptoRow.holds Try.pinned (OpenSpec.upto modeStraySpec)

/-- 'linnetlaw16.ModeHad', WHERE WHAT IT READS IS OF BULK AT MOST 1048576: true; the input reads as it did. -/
def modeHadUptoRow : OpenClaim := { program := "ytccdnkekmpndiaa", sum := "9a82dc1d1257396683a501a52467d254fadcdb8be67663edd7ed93e6fa3cbf95", func := "linnet/linnetlaw16.ModeHad", spec := "modeHad", unfollowed := true, recurses := true, apart := false, narrowed := true }
def ModeHadUptoSaid : Prop := modeHadUptoRow.holds Try.pinned (OpenSpec.upto modeHadSpec)

/-- 'linnetlaw16.ModeAsks', WHERE WHAT IT READS IS OF BULK AT MOST 1048576: true; the input reads as it did. -/
def modeAsksUptoRow : OpenClaim := { program := "ytccdnkekmpndiaa", sum := "9a82dc1d1257396683a501a52467d254fadcdb8be67663edd7ed93e6fa3cbf95", func := "linnet/linnetlaw16.ModeAsks", spec := "modeAsks", unfollowed := true, recurses := true, apart := false, narrowed := true }
def ModeAsksUptoSaid : Prop := modeAsksUptoRow.holds Try.pinned (OpenSpec.upto modeAsksSpec)

/-- 'linnetlaw16.ModeMeets', WHERE WHAT IT READS IS OF BULK AT MOST 1048576: true; the input reads as it did. -/
def modeMeetsUptoRow : OpenClaim := { program := "ytccdnkekmpndiaa", sum := "9a82dc1d1257396683a501a52467d254fadcdb8be67663edd7ed93e6fa3cbf95", func := "linnet/linnetlaw16.ModeMeets", spec := "modeMeets", unfollowed := true, recurses := true, apart := false, narrowed := true }
def ModeMeetsUptoSaid : Prop := modeMeetsUptoRow.holds Try.pinned (OpenSpec.upto modeMeetsSpec)

/-- 'linnetlaw16.ModeOnce', WHERE WHAT IT READS IS OF BULK AT MOST 1048576: true; the input reads as it did. -/
def modeOnceUptoRow : OpenClaim := { program := "ytccdnkekmpndiaa", sum := "9a82dc1d1257396683a501a52467d254fadcdb8be67663edd7ed93e6fa3cbf95", func := "linnet/linnetlaw16.ModeOnce", spec := "modeOnce", unfollowed := true, recurses := true, apart := false, narrowed := true }
def ModeOnceUptoSaid : Prop := modeOnceUptoRow.holds Try.pinned (OpenSpec.upto modeOnceSpec)

end Rows
end Go.Proofs.Ytccdnkekmpndiaa
