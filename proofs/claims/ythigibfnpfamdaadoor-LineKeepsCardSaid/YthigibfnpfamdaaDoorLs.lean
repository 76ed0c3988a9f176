/- Layer 12: what arguments are, and what the listed variables hold. Own work. -/
import Derived.Test.YthigibfnpfamdaaDoorLq
import Derived.Test.YthigibfnpfamdaaDoorSbs
import Derived.Test.YthigibfnpfamdaaDoorRows
import Derived.Test.YthigibfnpfamdaaDoorTie
import Derived.Test.YthigibfnpfamdaaDoorCards
import Derived.SevenTiedAt
import Derived.LaidMore
import Derived.OpenShut
import Derived.Lay
import Derived.MakeChecks
import Derived.Stop.Joined
namespace Go.Proofs.YthigibfnpfamdaaDoor
open Go Go.Shade Go.ChangeShapes Go.WideShapes Go.ChangeAt Go.RowKit

theorem ownK : ownKnob Tryd.prog.godebug = none := by kernel_rfl
theorem laidOut : laidOutB Tryd.prog = true := by kernel_rfl
def laidV : List (String × DataW Unit) := [("unicode/utf8.acceptRanges", Rows.laid_unicode_utf8_acceptRanges), ("unicode/utf8.first", Rows.laid_unicode_utf8_first)]
theorem door_met (os : Os) (args : Array Value) : laidMetH Tryd.prog laidV ((World.laidAll Tryd.prog os laidV).forCall (fun _ _ => 0) ⟨#[], args, []⟩).memory := by
  rw [MakeChecks.laidMetH_plain _ _ _ (by kernel_rfl)]
  exact laidMet_laidAll _ (by kernel_rfl) (by kernel_rfl)
theorem globs {W : World} (_ : laidMetH Tryd.prog laidV W) : GlobR (gI W).U W.heap (fun _ => none) := (relI W).glob
theorem argL {a : AV} (h0 : argOK Tryd.prog 24 a) : ∃ b n, a = lA b n := by
  obtain ⟨ps, rfl, h⟩ := arg_agg (ts := [.sl [.int .u8], .int .i64]) (by kernel_rfl) (by kernel_rfl) h0
  obtain ⟨p1, q1, rfl, h1, h⟩ := okL_cons h
  obtain ⟨p2, q2, rfl, h2, h⟩ := okL_cons h
  have := okL_nil h
  subst this
  obtain ⟨b, rfl, _⟩ := okP_bytes h1
  obtain ⟨n, rfl, _⟩ := okP_i64 h2
  exact ⟨b, n, rfl⟩
theorem argK {a : AV} (h0 : argOK Tryd.prog 40 a) : ∃ c r o, a = kA c r o := by
  obtain ⟨ps, rfl, h⟩ := arg_agg (ts := [.int .u8, .int .i64, .bool]) (by kernel_rfl) (by kernel_rfl) h0
  obtain ⟨p1, q1, rfl, h1, h⟩ := okL_cons h
  obtain ⟨p2, q2, rfl, h2, h⟩ := okL_cons h
  obtain ⟨p3, q3, rfl, h3, h⟩ := okL_cons h
  have := okL_nil h
  subst this
  obtain ⟨c, rfl⟩ := okP_u8 h1
  obtain ⟨r, rfl, _⟩ := okP_i64 h2
  obtain ⟨o, rfl⟩ := okP_bool h3
  exact ⟨c, r, o, rfl⟩
theorem argB {a : AV} (h0 : argOK Tryd.prog 22 a) : ∃ b, a = .sl 1 (bys b) := by
  obtain ⟨p, rfl, h⟩ := arg_one (ty := .sl [.int .u8]) (by kernel_rfl) (by kernel_rfl) h0
  obtain ⟨b, rfl, _⟩ := okP_bytes h
  exact ⟨b, rfl⟩
theorem argU {a : AV} (h0 : argOK Tryd.prog 5 a) : ∃ b : UInt8, a = .int .u8 b.toNat := by
  obtain ⟨p, rfl, h⟩ := arg_one (ty := .int .u8) (by kernel_rfl) (by kernel_rfl) h0
  obtain ⟨b, rfl⟩ := okP_u8 h
  exact ⟨b, rfl⟩
theorem argI {a : AV} (h0 : argOK Tryd.prog 3 a) : ∃ n, a = .int .i64 n := by
  obtain ⟨p, rfl, h⟩ := arg_one (ty := .int .i64) (by kernel_rfl) (by kernel_rfl) h0
  obtain ⟨n, rfl, _⟩ := okP_i64 h
  exact ⟨n, rfl⟩
end Go.Proofs.YthigibfnpfamdaaDoor
