/- Layer 11: what arguments are. Own work. -/
import Derived.Test.YtaopaggmhleeoaaNc
import Derived.Test.YtaopaggmhleeoaaSbs
import Derived.Test.YtaopaggmhleeoaaRows
namespace Go.Proofs.Ytaopaggmhleeoaa
open Go Go.Shade Go.ChangeShapes Go.WideShapes Go.ChangeAt Go.RowKit

theorem ownK : ownKnob Try.prog.godebug = none := by kernel_rfl
theorem laidOut : laidOutB Try.prog = true := by kernel_rfl
theorem argB {a : AV} (h0 : argOK Try.prog 22 a) : ∃ b, a = .sl 1 (bys b) := by
  obtain ⟨p, rfl, h⟩ := arg_one (ty := .sl [.int .u8]) (by kernel_rfl) (by kernel_rfl) h0
  obtain ⟨b, rfl, _⟩ := okP_bytes h
  exact ⟨b, rfl⟩
theorem argU {a : AV} (h0 : argOK Try.prog 5 a) : ∃ b : UInt8, a = .int .u8 b.toNat := by
  obtain ⟨p, rfl, h⟩ := arg_one (ty := .int .u8) (by kernel_rfl) (by kernel_rfl) h0
  obtain ⟨b, rfl⟩ := okP_u8 h
  exact ⟨b, rfl⟩
end Go.Proofs.Ytaopaggmhleeoaa
