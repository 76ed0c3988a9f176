/- Layer 15: what arguments are, and what the listed variables hold. Own work. -/
import Derived.Test.YtmkblhinpnodaaaDoorWl
import Derived.Test.YtmkblhinpnodaaaDoorSgl
import Derived.Test.YtmkblhinpnodaaaDoorRows
import Derived.Test.YtmkblhinpnodaaaDoorTie
import Derived.Test.YtmkblhinpnodaaaDoorCards
import Derived.SevenTiedAt
import Derived.LaidMore
import Derived.OpenShut
import Derived.Lay
import Derived.MakeChecks
import Derived.Stop.Joined
namespace Go.Proofs.YtmkblhinpnodaaaDoor
open Go Go.Shade Go.ChangeShapes Go.WideShapes Go.ChangeAt Go.RowKit

theorem ownK : ownKnob Tryd.prog.godebug = none := by kernel_rfl
theorem laidOut : laidOutB Tryd.prog = true := by kernel_rfl
def laidV : List (String × DataW Unit) := [("linnet/table.standard", Rows.laid_linnet_table_standard), ("unicode/utf8.acceptRanges", Rows.laid_unicode_utf8_acceptRanges), ("unicode/utf8.first", Rows.laid_unicode_utf8_first)]
theorem door_met (os : Os) (args : Array Value) : laidMetH Tryd.prog laidV ((World.laidAll Tryd.prog os laidV).forCall (fun _ _ => 0) ⟨#[], args, []⟩).memory := by
  rw [MakeChecks.laidMetH_plain _ _ _ (by kernel_rfl)]
  exact laidMet_laidAll _ (by kernel_rfl) (by kernel_rfl)
def stdI : List Int := [0, 0, 0, 3, 15, 20, 0, 28, 4, 26, 127, 21, 23, 18, 22, 17, 19, 0, 0, 2, 6, 25, 24, 1, 5, 9, 16, 8, 14, 29, 11]
theorem globs {W : World} (h : laidMetH Tryd.prog laidV W) : GlobR (gI W).U W.heap ΓT :=
  glob_laidR (n := "linnet/table.standard") (g := 0) (t := 97) (e := 5) (k := .u8) (ns := stdI) (by kernel_rfl) (by kernel_rfl) Tryd.underlying97 Tryd.underlying5 (by kernel_rfl) (r := [("unicode/utf8.acceptRanges", Rows.laid_unicode_utf8_acceptRanges), ("unicode/utf8.first", Rows.laid_unicode_utf8_first)]) (by kernel_rfl) h
theorem argD {a : AV} (h0 : argOK Tryd.prog 27 a) : ∃ t r, a = dtA t r := by
  obtain ⟨ps, rfl, h⟩ := arg_agg (ts := tyT 31 ++ [.int .i64]) (by kernel_rfl) (by kernel_rfl) h0
  obtain ⟨t, q0, hq, hh⟩ := okL_tbl h
  clear h
  subst hq
  obtain ⟨p1, q1, rfl, h1, h⟩ := okL_cons hh
  have := okL_nil h
  subst this
  obtain ⟨r, rfl, _⟩ := okP_i64 h1
  exact ⟨t, r, by rw [List.map_append, tqP_map]; rfl⟩
theorem argT {a : AV} (h0 : argOK Tryd.prog 25 a) : ∃ t, a = .agg (tq t) := by
  obtain ⟨ps, rfl, h⟩ := arg_agg (ts := tyT 31 ++ []) (by kernel_rfl) (by kernel_rfl) h0
  obtain ⟨t, q0, hq, hh⟩ := okL_tbl h
  clear h
  subst hq
  have := okL_nil hh
  subst this
  exact ⟨t, by rw [List.map_append, tqP_map, List.map_nil, List.append_nil]⟩
theorem argK {a : AV} (h0 : argOK Tryd.prog 35 a) : ∃ b n o l h, a = tkI b n o l h := by
  obtain ⟨ps, rfl, h⟩ := arg_agg (ts := [.sl [.int .u8], .int .i64, .bool, .bool, .bool]) (by kernel_rfl) (by kernel_rfl) h0
  obtain ⟨p2, q2, rfl, h2, h⟩ := okL_cons h
  obtain ⟨p3, q3, rfl, h3, h⟩ := okL_cons h
  obtain ⟨p4, q4, rfl, h4, h⟩ := okL_cons h
  obtain ⟨p5, q5, rfl, h5, h⟩ := okL_cons h
  obtain ⟨p6, q6, rfl, h6, h⟩ := okL_cons h
  have := okL_nil h
  subst this
  obtain ⟨b, rfl, _⟩ := okP_bytes h2
  obtain ⟨n, rfl, _⟩ := okP_i64 h3
  obtain ⟨o, rfl⟩ := okP_bool h4
  obtain ⟨l, rfl⟩ := okP_bool h5
  obtain ⟨g, rfl⟩ := okP_bool h6
  exact ⟨b, n, o, l, g, rfl⟩
theorem argH {a : AV} (h0 : argOK Tryd.prog 49 a) : ∃ c e f, a = hwB c e f := by
  obtain ⟨ps, rfl, h⟩ := arg_agg (ts := [.int .u8, .bool, .bool]) (by kernel_rfl) (by kernel_rfl) h0
  obtain ⟨p2, q2, rfl, h2, h⟩ := okL_cons h
  obtain ⟨p3, q3, rfl, h3, h⟩ := okL_cons h
  obtain ⟨p4, q4, rfl, h4, h⟩ := okL_cons h
  have := okL_nil h
  subst this
  obtain ⟨b, rfl⟩ := okP_u8 h2
  obtain ⟨o, rfl⟩ := okP_bool h3
  obtain ⟨l, rfl⟩ := okP_bool h4
  exact ⟨b, o, l, rfl⟩
theorem argB {a : AV} (h0 : argOK Tryd.prog 28 a) : ∃ b, a = .sl 1 (bys b) := by
  obtain ⟨p, rfl, h⟩ := arg_one (ty := .sl [.int .u8]) (by kernel_rfl) (by kernel_rfl) h0
  obtain ⟨b, rfl, _⟩ := okP_bytes h
  exact ⟨b, rfl⟩
end Go.Proofs.YtmkblhinpnodaaaDoor
