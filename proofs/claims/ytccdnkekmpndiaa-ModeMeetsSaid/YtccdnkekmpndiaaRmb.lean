/- Layer 16: what arguments are: asks, and what is asked for. Own work. -/
import Derived.Test.YtccdnkekmpndiaaRm
import Derived.Test.YtccdnkekmpndiaaMo
namespace Go.Proofs.Ytccdnkekmpndiaa
open Go Go.Shade Go.ChangeShapes Go.WideShapes Go.ChangeAt Go.RowKit
theorem argAsks {a : AV} (h0 : argOK Try.prog 43 a) : ∃ k, inA k ∧ a = aA k := by
  obtain ⟨ps, rfl, h⟩ := arg_agg (ts := .int .i64 :: .int .i64 :: .int .i64 :: (List.replicate 32 (.int .u8) ++ (List.replicate 32 (.int .u8) ++ [.bool, .bool, .int .i64]))) (by kernel_rfl) (by kernel_rfl) h0
  obtain ⟨p1, q1, rfl, h1, h⟩ := okL_cons h
  obtain ⟨p2, q2, rfl, h2, h⟩ := okL_cons h
  obtain ⟨p3, q3, rfl, h3, h⟩ := okL_cons h
  obtain ⟨m, q4, rfl, hm⟩ := okL_mask h
  obtain ⟨m', q4', rfl, hm'⟩ := okL_mask hm
  obtain ⟨p5, q5, rfl, h5, h⟩ := okL_cons hm'
  obtain ⟨p6, q6, rfl, h6, h⟩ := okL_cons h
  obtain ⟨p7, q7, rfl, h7, h⟩ := okL_cons h
  have := okL_nil h
  subst this
  obtain ⟨n1, rfl, a1, b1⟩ := okP_i64 h1
  obtain ⟨n2, rfl, a2, b2⟩ := okP_i64 h2
  obtain ⟨n3, rfl, a3, b3⟩ := okP_i64 h3
  obtain ⟨o, rfl⟩ := okP_bool h5
  obtain ⟨y, rfl⟩ := okP_bool h6
  obtain ⟨n4, rfl, a4, b4⟩ := okP_i64 h7
  refine ⟨⟨n1, n2, n3, m, m', o, y, n4⟩, ⟨⟨a1, b1⟩, ⟨a2, b2⟩, ⟨a3, b3⟩, ⟨a4, b4⟩⟩, ?_⟩
  simp [aA, mqP_map]
theorem argAsk {a : AV} (h0 : argOK Try.prog 51 a) : ∃ x, in64 x.mode ∧ a = xA x := by
  obtain ⟨ps, rfl, h⟩ := arg_agg (ts := .int .i64 :: .bool :: .bool :: (List.replicate 32 (.int .u8) ++ [])) (by kernel_rfl) (by kernel_rfl) h0
  obtain ⟨p1, q1, rfl, h1, h⟩ := okL_cons h
  obtain ⟨p2, q2, rfl, h2, h⟩ := okL_cons h
  obtain ⟨p3, q3, rfl, h3, h⟩ := okL_cons h
  obtain ⟨m, q4, rfl, hm⟩ := okL_mask h
  have := okL_nil hm
  subst this
  obtain ⟨n1, rfl, a1, b1⟩ := okP_i64 h1
  obtain ⟨o, rfl⟩ := okP_bool h2
  obtain ⟨y, rfl⟩ := okP_bool h3
  refine ⟨⟨n1, o, y, m⟩, ⟨a1, b1⟩, ?_⟩
  simp [xA, mqP_map]
end Go.Proofs.Ytccdnkekmpndiaa
