/- Layer 11: what arguments are, and what the listed variables hold. Own work. -/
import Derived.Test.YtaopaggmhleeoaaDoorJ3
import Derived.Test.YtaopaggmhleeoaaDoorJ3
import Derived.Test.YtaopaggmhleeoaaDoorSbs
import Derived.Test.YtaopaggmhleeoaaDoorRows
import Derived.Test.YtaopaggmhleeoaaDoorTie
import Derived.Test.YtaopaggmhleeoaaDoorCards
import Derived.SevenTiedAt
import Derived.LaidMore
import Derived.OpenShut
import Derived.Lay
import Derived.MakeChecks
import Derived.Stop.Joined
namespace Go.Proofs.YtaopaggmhleeoaaDoor
open Go Go.Shade Go.ChangeShapes Go.WideShapes Go.ChangeAt Go.RowKit

theorem ownK : ownKnob Tryd.prog.godebug = none := by kernel_rfl
theorem laidOut : laidOutB Tryd.prog = true := by kernel_rfl
def laidV : List (String × DataW Unit) := [("unicode/utf8.acceptRanges", Rows.laid_unicode_utf8_acceptRanges), ("unicode/utf8.first", Rows.laid_unicode_utf8_first)]
theorem door_met (os : Os) (args : Array Value) : laidMetH Tryd.prog laidV ((World.laidAll Tryd.prog os laidV).forCall (fun _ _ => 0) ⟨#[], args, []⟩).memory := by
  rw [MakeChecks.laidMetH_plain _ _ _ (by kernel_rfl)]
  exact laidMet_laidAll _ (by kernel_rfl) (by kernel_rfl)
theorem globs {W : World} (_ : laidMetH Tryd.prog laidV W) : GlobR (gI W).U W.heap (fun _ => none) := (relI W).glob
theorem argB {a : AV} (h0 : argOK Tryd.prog 27 a) : ∃ b, a = .sl 1 (bys b) := by
  obtain ⟨p, rfl, h⟩ := arg_one (ty := .sl [.int .u8]) (by kernel_rfl) (by kernel_rfl) h0
  obtain ⟨b, rfl, _⟩ := okP_bytes h
  exact ⟨b, rfl⟩
theorem argU {a : AV} (h0 : argOK Tryd.prog 5 a) : ∃ b : UInt8, a = .int .u8 b.toNat := by
  obtain ⟨p, rfl, h⟩ := arg_one (ty := .int .u8) (by kernel_rfl) (by kernel_rfl) h0
  obtain ⟨b, rfl⟩ := okP_u8 h
  exact ⟨b, rfl⟩
theorem okL_u8s : ∀ (k : Nat) {ts : List Ty} {ps : List PV}, OkL (List.replicate k (.int .u8) ++ ts) ps → ∃ l : List UInt8, l.length = k ∧ ∃ qs, ps = l.map (fun b => .s (.int .u8 b.toNat)) ++ qs ∧ OkL ts qs
  | 0, ts, ps, h => ⟨[], rfl, ps, rfl, h⟩
  | k + 1, ts, ps, h => by
    rw [List.replicate_succ, List.cons_append] at h
    obtain ⟨p, qs, rfl, h1, h2⟩ := okL_cons h
    obtain ⟨b, rfl⟩ := okP_u8 h1
    obtain ⟨l, hl, qs', rfl, h3⟩ := okL_u8s k h2
    exact ⟨b :: l, by simp [hl], qs', rfl, h3⟩
theorem argM {a : AV} (h0 : argOK Tryd.prog 23 a) : ∃ m, a = .agg (mq m) := by
  obtain ⟨ps, rfl, h⟩ := arg_agg (ts := List.replicate 32 (.int .u8) ++ []) (by kernel_rfl) (by kernel_rfl) h0
  obtain ⟨l, hl, qs, rfl, h2⟩ := okL_u8s 32 h
  have := okL_nil h2
  subst this
  refine ⟨⟨l, hl⟩, ?_⟩
  simp [mq]
theorem okL_mask {ts : List Ty} {ps : List PV} (h : OkL (List.replicate 32 (.int .u8) ++ ts) ps) : ∃ (m : Mask) (qs : List PV), ps = mqP m ++ qs ∧ OkL ts qs := by
  obtain ⟨l, hl, qs, h1, h2⟩ := okL_u8s 32 h
  exact ⟨⟨l, hl⟩, qs, h1, h2⟩
theorem okT {ps : List PV} (h : OkL [.int .i64, .int .i64, .bool, .bool, .bool, .int .u8] ps) : ∃ t, ps = tP t := by
  obtain ⟨p1, q1, rfl, h1, h⟩ := okL_cons h
  obtain ⟨p2, q2, rfl, h2, h⟩ := okL_cons h
  obtain ⟨p3, q3, rfl, h3, h⟩ := okL_cons h
  obtain ⟨p4, q4, rfl, h4, h⟩ := okL_cons h
  obtain ⟨p5, q5, rfl, h5, h⟩ := okL_cons h
  obtain ⟨p6, q6, rfl, h6, h⟩ := okL_cons h
  have := okL_nil h
  subst this
  obtain ⟨f, rfl, _⟩ := okP_i64 h1
  obtain ⟨l, rfl, _⟩ := okP_i64 h2
  obtain ⟨a, rfl⟩ := okP_bool h3
  obtain ⟨i, rfl⟩ := okP_bool h4
  obtain ⟨o, rfl⟩ := okP_bool h5
  obtain ⟨v, rfl⟩ := okP_u8 h6
  exact ⟨⟨f, l, a, i, o, v⟩, rfl⟩
theorem argSub {a : AV} (h0 : argOK Tryd.prog 26 a) : ∃ s, a = sA s := by
  obtain ⟨ps, rfl, h⟩ := arg_agg (ts := .int .i64 :: .int .i64 :: .int .i64 :: (List.replicate 32 (.int .u8) ++ [.sl [.int .i64, .int .i64, .bool, .bool, .bool, .int .u8]])) (by kernel_rfl) (by kernel_rfl) h0
  obtain ⟨p1, q1, rfl, h1, h⟩ := okL_cons h
  obtain ⟨p2, q2, rfl, h2, h⟩ := okL_cons h
  obtain ⟨p3, q3, rfl, h3, h⟩ := okL_cons h
  obtain ⟨m, q4, rfl, hm⟩ := okL_mask h
  obtain ⟨p5, q5, rfl, h5, h⟩ := okL_cons hm
  have := okL_nil h
  subst this
  obtain ⟨k, rfl, _⟩ := okP_i64 h1
  obtain ⟨n, rfl, _⟩ := okP_i64 h2
  obtain ⟨v, rfl, _⟩ := okP_i64 h3
  obtain ⟨xs, rfl, _, hx⟩ := okP_sl h5
  obtain ⟨l, rfl⟩ := rows_of (g := tP) (xs := xs) (fun x hxm => okT (hx x hxm))
  refine ⟨⟨k, n, v, m, l⟩, ?_⟩
  simp [sA, mqP_map]
theorem argL {a : AV} (h0 : argOK Tryd.prog 24 a) : ∃ l : List T3, a = .sl 6 (l.map tP) := by
  obtain ⟨p, rfl, h⟩ := arg_one (ty := .sl [.int .i64, .int .i64, .bool, .bool, .bool, .int .u8]) (by kernel_rfl) (by kernel_rfl) h0
  obtain ⟨xs, rfl, _, hx⟩ := okP_sl h
  obtain ⟨l, rfl⟩ := rows_of (g := tP) (xs := xs) (fun x hxm => okT (hx x hxm))
  exact ⟨l, rfl⟩
end Go.Proofs.YtaopaggmhleeoaaDoor
