/- Layer 22: what arguments are, and what the listed variables hold. Own work. -/
import Derived.Test.YtlijecknkpcgfaaDoorVo
import Derived.Test.YtlijecknkpcgfaaDoorSbs
import Derived.Test.YtlijecknkpcgfaaDoorRows
import Derived.Test.YtlijecknkpcgfaaDoorTie
import Derived.Test.YtlijecknkpcgfaaDoorCards
import Derived.SevenTiedAt
import Derived.LaidMore
import Derived.OpenShut
import Derived.Lay
import Derived.MakeChecks
import Derived.Stop.Joined
namespace Go.Proofs.YtlijecknkpcgfaaDoor
open Go Go.Shade Go.ChangeShapes Go.WideShapes Go.ChangeAt Go.RowKit

theorem ownK : ownKnob Tryd.prog.godebug = none := by kernel_rfl
theorem laidOut : laidOutB Tryd.prog = true := by kernel_rfl
def laidV : List (String × DataW Unit) := [("unicode/utf8.acceptRanges", Rows.laid_unicode_utf8_acceptRanges), ("unicode/utf8.first", Rows.laid_unicode_utf8_first)]
theorem door_met (os : Os) (args : Array Value) : laidMetH Tryd.prog laidV ((World.laidAll Tryd.prog os laidV).forCall (fun _ _ => 0) ⟨#[], args, []⟩).memory := by
  rw [MakeChecks.laidMetH_plain _ _ _ (by kernel_rfl)]
  exact laidMet_laidAll _ (by kernel_rfl) (by kernel_rfl)
theorem globs {W : World} (_ : laidMetH Tryd.prog laidV W) : GlobR (gI W).U W.heap (fun _ => none) := (relI W).glob
theorem argB {a : AV} (h0 : argOK Tryd.prog 23 a) : ∃ b, a = .sl 1 (bys b) := by
  obtain ⟨p, rfl, h⟩ := arg_one (ty := .sl [.int .u8]) (by kernel_rfl) (by kernel_rfl) h0
  obtain ⟨b, rfl, _⟩ := okP_bytes h
  exact ⟨b, rfl⟩
theorem argU {a : AV} (h0 : argOK Tryd.prog 5 a) : ∃ b : UInt8, a = .int .u8 b.toNat := by
  obtain ⟨p, rfl, h⟩ := arg_one (ty := .int .u8) (by kernel_rfl) (by kernel_rfl) h0
  obtain ⟨b, rfl⟩ := okP_u8 h
  exact ⟨b, rfl⟩
theorem okL_u8s : ∀ (k : Nat) {ts : List Ty} {ps : List PV}, OkL (List.replicate k (.int .u8) ++ ts) ps → ∃ l : List UInt8, l.length = k ∧ ∃ qs, ps = l.map (fun b => .s (.int .u8 b.toNat)) ++ qs ∧ OkL ts qs
  | 0, ts, ps, h => ⟨[], rfl, ps, rfl, h⟩
  | k + 1, ts, ps, h => by
    rw [List.replicate_succ, List.cons_append] at h
    obtain ⟨p, qs, rfl, h1, h2⟩ := okL_cons h
    obtain ⟨b, rfl⟩ := okP_u8 h1
    obtain ⟨l, hl, qs', rfl, h3⟩ := okL_u8s k h2
    exact ⟨b :: l, by simp [hl], qs', rfl, h3⟩
def tyS : List Ty := .int .i64 :: .int .i64 :: .int .i64 :: .int .u8 :: .bool :: .bool :: (List.replicate 32 (.int .u8) ++ [.int .i64, .int .i64, .bool, .bool, .bool, .int .u8, .sl [.int .u8], .flt .f64, .flt .f64, .flt .f64, .flt .f64, .int .u64])
theorem okL_step {ps : List PV} (h : OkL tyS ps) : ∃ s : {s : Stp // inS s}, ps = sR s.1 := by
  unfold tyS at h
  obtain ⟨p1, q1, rfl, h1, h⟩ := okL_cons h
  obtain ⟨p2, q2, rfl, h2, h⟩ := okL_cons h
  obtain ⟨p3, q3, rfl, h3, h⟩ := okL_cons h
  obtain ⟨p4, q4, rfl, h4, h⟩ := okL_cons h
  obtain ⟨p5, q5, rfl, h5, h⟩ := okL_cons h
  obtain ⟨p6, q6, rfl, h6, h⟩ := okL_cons h
  obtain ⟨l, hl, q7, hq, hh⟩ := okL_u8s 32 h
  clear h
  subst hq
  obtain ⟨r1, s1, rfl, g1, h⟩ := okL_cons hh
  clear hh
  obtain ⟨r2, s2, rfl, g2, h⟩ := okL_cons h
  obtain ⟨r3, s3, rfl, g3, h⟩ := okL_cons h
  obtain ⟨r4, s4, rfl, g4, h⟩ := okL_cons h
  obtain ⟨r5, s5, rfl, g5, h⟩ := okL_cons h
  obtain ⟨r6, s6, rfl, g6, h⟩ := okL_cons h
  obtain ⟨r7, s7, rfl, g7, h⟩ := okL_cons h
  obtain ⟨r8, s8, rfl, g8, h⟩ := okL_cons h
  obtain ⟨r9, s9, rfl, g9, h⟩ := okL_cons h
  obtain ⟨ra, sa, rfl, ga, h⟩ := okL_cons h
  obtain ⟨rb, sb, rfl, gb, h⟩ := okL_cons h
  obtain ⟨rc, sc, rfl, gc, h⟩ := okL_cons h
  have := okL_nil h
  subst this
  obtain ⟨kind, rfl, _⟩ := okP_i64 h1
  obtain ⟨who, rfl, _⟩ := okP_i64 h2
  obtain ⟨n, rfl, _⟩ := okP_i64 h3
  obtain ⟨k, rfl⟩ := okP_u8 h4
  obtain ⟨him, rfl⟩ := okP_bool h5
  obtain ⟨on, rfl⟩ := okP_bool h6
  obtain ⟨tf, rfl, _⟩ := okP_i64 g1
  obtain ⟨tl, rfl, _⟩ := okP_i64 g2
  obtain ⟨ta, rfl⟩ := okP_bool g3
  obtain ⟨ti, rfl⟩ := okP_bool g4
  obtain ⟨to, rfl⟩ := okP_bool g5
  obtain ⟨tv, rfl⟩ := okP_u8 g6
  obtain ⟨b, rfl, _⟩ := okP_bytes g7
  obtain ⟨w0, rfl, b0⟩ := okP_f64 g8
  obtain ⟨w1, rfl, b1⟩ := okP_f64 g9
  obtain ⟨w2, rfl, b2⟩ := okP_f64 ga
  obtain ⟨w3, rfl, b3⟩ := okP_f64 gb
  obtain ⟨d, rfl, b4⟩ := okP_u64 gc
  exact ⟨⟨⟨kind, who, n, k, him, on, ⟨l, hl⟩, ⟨tf, tl, ta, ti, to, tv⟩, b, w0, w1, w2, w3, d⟩, b0, b1, b2, b3, b4⟩, rfl⟩
theorem argS {a : AV} (h0 : argOK Tryd.prog 22 a) : ∃ (l : List Stp) (_ : ∀ s ∈ l, inS s), a = .sl 50 (l.map sR) := by
  obtain ⟨p, rfl, h⟩ := arg_one (ty := .sl tyS) (by kernel_rfl) (by kernel_rfl) h0
  obtain ⟨xs, rfl, _, hx⟩ := okP_sl h
  obtain ⟨l, rfl⟩ := rows_of (g := fun s : {s : Stp // inS s} => sR s.1) (xs := xs) (fun x hm => okL_step (hx x hm))
  refine ⟨l.map (·.1), fun s hs => ?_, ?_⟩
  · obtain ⟨t, _, rfl⟩ := List.mem_map.1 hs
    exact t.2
  · rw [List.map_map]
    rfl
end Go.Proofs.YtlijecknkpcgfaaDoor
