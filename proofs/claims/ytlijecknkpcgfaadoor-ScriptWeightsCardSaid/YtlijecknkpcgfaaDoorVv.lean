/- Layer 22: what weights and a draw are, as arguments. Own work. -/
import Derived.Test.YtlijecknkpcgfaaDoorVw
namespace Go.Proofs.YtlijecknkpcgfaaDoor
open Go Go.Shade
theorem argF {a : AV} (h0 : argOK Tryd.prog 40 a) : ∃ (w0 w1 w2 w3 : Nat) (_ : w0 < 18446744073709551616) (_ : w1 < 18446744073709551616) (_ : w2 < 18446744073709551616) (_ : w3 < 18446744073709551616), a = .agg [fA w0, fA w1, fA w2, fA w3] := by
  obtain ⟨ps, rfl, h⟩ := arg_agg (ts := [.flt .f64, .flt .f64, .flt .f64, .flt .f64]) (by kernel_rfl) (by kernel_rfl) h0
  obtain ⟨p1, q1, rfl, h1, h⟩ := okL_cons h
  obtain ⟨p2, q2, rfl, h2, h⟩ := okL_cons h
  obtain ⟨p3, q3, rfl, h3, h⟩ := okL_cons h
  obtain ⟨p4, q4, rfl, h4, h⟩ := okL_cons h
  have := okL_nil h
  subst this
  obtain ⟨w0, rfl, b0⟩ := okP_f64 h1
  obtain ⟨w1, rfl, b1⟩ := okP_f64 h2
  obtain ⟨w2, rfl, b2⟩ := okP_f64 h3
  obtain ⟨w3, rfl, b3⟩ := okP_f64 h4
  exact ⟨w0, w1, w2, w3, b0, b1, b2, b3, rfl⟩
theorem argD {a : AV} (h0 : argOK Tryd.prog 41 a) : ∃ (d : Nat) (_ : d < 18446744073709551616), a = .int .u64 d := by
  obtain ⟨p, rfl, h⟩ := arg_one (ty := .int .u64) (by kernel_rfl) (by kernel_rfl) h0
  obtain ⟨d, rfl, b⟩ := okP_u64 h
  exact ⟨d, b, rfl⟩
end Go.Proofs.YtlijecknkpcgfaaDoor
