/- Layer 10: what arguments are, and what the listed variables hold. Own work. -/
import Derived.Test.YtnbghbbmilfgpaaDoorKe
import Derived.Test.YtnbghbbmilfgpaaDoorKf
import Derived.Test.YtnbghbbmilfgpaaDoorKg
import Derived.Test.YtnbghbbmilfgpaaDoorSbs
import Derived.Test.YtnbghbbmilfgpaaDoorRows
import Derived.Test.YtnbghbbmilfgpaaDoorTie
import Derived.Test.YtnbghbbmilfgpaaDoorCards
import Derived.SevenTiedAt
import Derived.LaidMore
import Derived.OpenShut
import Derived.Lay
import Derived.MakeChecks
import Derived.Stop.Joined
namespace Go.Proofs.YtnbghbbmilfgpaaDoor
open Go Go.Shade Go.ChangeShapes Go.WideShapes Go.ChangeAt Go.RowKit

theorem ownK : ownKnob Tryd.prog.godebug = none := by kernel_rfl
theorem laidOut : laidOutB Tryd.prog = true := by kernel_rfl
def laidV : List (String × DataW Unit) := [("unicode/utf8.acceptRanges", Rows.laid_unicode_utf8_acceptRanges), ("unicode/utf8.first", Rows.laid_unicode_utf8_first)]
theorem door_met (os : Os) (args : Array Value) : laidMetH Tryd.prog laidV ((World.laidAll Tryd.prog os laidV).forCall (fun _ _ => 0) ⟨#[], args, []⟩).memory := by
  rw [MakeChecks.laidMetH_plain _ _ _ (by kernel_rfl)]
  exact laidMet_laidAll _ (by kernel_rfl) (by kernel_rfl)
theorem globs {W : World} (_ : laidMetH Tryd.prog laidV W) : GlobR (gI W).U W.heap (fun _ => none) := (relI W).glob
theorem argB {a : AV} (h0 : argOK Tryd.prog 26 a) : ∃ b, a = .sl 1 (bys b) := by
  obtain ⟨p, rfl, h⟩ := arg_one (ty := .sl [.int .u8]) (by kernel_rfl) (by kernel_rfl) h0
  obtain ⟨b, rfl, _⟩ := okP_bytes h
  exact ⟨b, rfl⟩
theorem argU {a : AV} (h0 : argOK Tryd.prog 5 a) : ∃ b : UInt8, a = .int .u8 b.toNat := by
  obtain ⟨p, rfl, h⟩ := arg_one (ty := .int .u8) (by kernel_rfl) (by kernel_rfl) h0
  obtain ⟨b, rfl⟩ := okP_u8 h
  exact ⟨b, rfl⟩
theorem okL_u8s : ∀ (k : Nat) {ts : List Ty} {ps : List PV}, OkL (List.replicate k (.int .u8) ++ ts) ps → ∃ l : List UInt8, l.length = k ∧ ∃ qs, ps = l.map (fun b => .s (.int .u8 b.toNat)) ++ qs ∧ OkL ts qs
  | 0, ts, ps, h => ⟨[], rfl, ps, rfl, h⟩
  | k + 1, ts, ps, h => by
    rw [List.replicate_succ, List.cons_append] at h
    obtain ⟨p, qs, rfl, h1, h2⟩ := okL_cons h
    obtain ⟨b, rfl⟩ := okP_u8 h1
    obtain ⟨l, hl, qs', rfl, h3⟩ := okL_u8s k h2
    exact ⟨b :: l, by simp [hl], qs', rfl, h3⟩
theorem argM {a : AV} (h0 : argOK Tryd.prog 23 a) : ∃ m, a = .agg (mq m) := by
  obtain ⟨ps, rfl, h⟩ := arg_agg (ts := List.replicate 32 (.int .u8) ++ []) (by kernel_rfl) (by kernel_rfl) h0
  obtain ⟨l, hl, qs, rfl, h2⟩ := okL_u8s 32 h
  have := okL_nil h2
  subst this
  refine ⟨⟨l, hl⟩, ?_⟩
  simp [mq]
theorem argC {a : AV} (h0 : argOK Tryd.prog 25 a) : ∃ x on, a = cA x on := by
  obtain ⟨ps, rfl, h⟩ := arg_agg (ts := [.int .u8, .bool]) (by kernel_rfl) (by kernel_rfl) h0
  obtain ⟨p1, q1, rfl, h1, h⟩ := okL_cons h
  obtain ⟨p2, q2, rfl, h2, h⟩ := okL_cons h
  have := okL_nil h
  subst this
  obtain ⟨x, rfl⟩ := okP_u8 h1
  obtain ⟨on, rfl⟩ := okP_bool h2
  exact ⟨x, on, rfl⟩
end Go.Proofs.YtnbghbbmilfgpaaDoor
