/- Layer 7: what arguments are, and what the listed variable holds. Own work. -/
import Derived.Test.YtblmdlhdfiafgaaDoorHd
import Derived.Test.YtblmdlhdfiafgaaDoorSbs
import Derived.Test.YtblmdlhdfiafgaaDoorRows
import Derived.Test.YtblmdlhdfiafgaaDoorTie
import Derived.Test.YtblmdlhdfiafgaaDoorCards
import Derived.SevenTiedAt
import Derived.LaidMore
import Derived.OpenShut
import Derived.Stop.Joined
namespace Go.Proofs.YtblmdlhdfiafgaaDoor
open Go Go.Shade Go.ChangeShapes Go.WideShapes Go.ChangeAt Go.RowKit

theorem ownK : ownKnob Tryd.prog.godebug = none := by kernel_rfl
theorem laidOut : laidOutB Tryd.prog = true := by kernel_rfl
def laidV : List (String × DataW Unit) := [("linnet/slc.commands", Rows.laid_linnet_slc_commands)]
theorem door_met (os : Os) (args : Array Value) : laidMetH Tryd.prog laidV ((World.doorLaid Tryd.prog 400 os).forCall (fun _ _ => 0) ⟨#[], args, []⟩).memory :=
  laidMetH_of_parts3 (fuel := 8) (laidMet_of_run' 8 (by kernel_rfl) (by kernel_rfl)) (by kernel_rfl) (by kernel_rfl)
theorem globs {W : World} (h : laidMetH Tryd.prog laidV W) : GlobR (gI W).U W.heap Γ7 :=
  glob_laid (n := "linnet/slc.commands") (g := 0) (t := 51) (e := 3) (k := .i64) (ns := cmds) (by kernel_rfl) (by kernel_rfl) Tryd.underlying51 Tryd.underlying3 (by kernel_rfl) h

theorem argB {a : AV} (h0 : argOK Tryd.prog 23 a) : ∃ b, a = .sl 1 (bys b) := by
  obtain ⟨p, rfl, h⟩ := arg_one (ty := .sl [.int .u8]) (by kernel_rfl) (by kernel_rfl) h0
  obtain ⟨b, rfl, _⟩ := okP_bytes h
  exact ⟨b, rfl⟩
theorem argI {a : AV} (h0 : argOK Tryd.prog 3 a) : ∃ n, a = .int .i64 n := by
  obtain ⟨p, rfl, h⟩ := arg_one (ty := .int .i64) (by kernel_rfl) (by kernel_rfl) h0
  obtain ⟨n, rfl, _⟩ := okP_i64 h
  exact ⟨n, rfl⟩
theorem argU {a : AV} (h0 : argOK Tryd.prog 5 a) : ∃ b : UInt8, a = .int .u8 b.toNat := by
  obtain ⟨p, rfl, h⟩ := arg_one (ty := .int .u8) (by kernel_rfl) (by kernel_rfl) h0
  obtain ⟨b, rfl⟩ := okP_u8 h
  exact ⟨b, rfl⟩
theorem okT {ps : List PV} (h : OkL [.int .i64, .int .i64, .bool, .bool, .bool, .int .u8] ps) : ∃ t, ps = tP t := by
  obtain ⟨p1, q1, rfl, h1, h⟩ := okL_cons h
  obtain ⟨p2, q2, rfl, h2, h⟩ := okL_cons h
  obtain ⟨p3, q3, rfl, h3, h⟩ := okL_cons h
  obtain ⟨p4, q4, rfl, h4, h⟩ := okL_cons h
  obtain ⟨p5, q5, rfl, h5, h⟩ := okL_cons h
  obtain ⟨p6, q6, rfl, h6, h⟩ := okL_cons h
  have := okL_nil h
  subst this
  obtain ⟨f, rfl, _⟩ := okP_i64 h1
  obtain ⟨l, rfl, _⟩ := okP_i64 h2
  obtain ⟨a, rfl⟩ := okP_bool h3
  obtain ⟨i, rfl⟩ := okP_bool h4
  obtain ⟨o, rfl⟩ := okP_bool h5
  obtain ⟨v, rfl⟩ := okP_u8 h6
  exact ⟨⟨f, l, a, i, o, v⟩, rfl⟩
theorem argT {a : AV} (h0 : argOK Tryd.prog 36 a) : ∃ t, a = tA t := by
  obtain ⟨ps, rfl, h⟩ := arg_agg (ts := [.int .i64, .int .i64, .bool, .bool, .bool, .int .u8]) (by kernel_rfl) (by kernel_rfl) h0
  obtain ⟨t, rfl⟩ := okT h
  exact ⟨t, rfl⟩
theorem argL {a : AV} (h0 : argOK Tryd.prog 22 a) : ∃ l : List T3, a = .sl 6 (l.map tP) := by
  obtain ⟨p, rfl, h⟩ := arg_one (ty := .sl [.int .i64, .int .i64, .bool, .bool, .bool, .int .u8]) (by kernel_rfl) (by kernel_rfl) h0
  obtain ⟨xs, rfl, _, hx⟩ := okP_sl h
  obtain ⟨l, rfl⟩ := rows_of (g := tP) (xs := xs) (fun x hxm => okT (hx x hxm))
  exact ⟨l, rfl⟩
end Go.Proofs.YtblmdlhdfiafgaaDoor
