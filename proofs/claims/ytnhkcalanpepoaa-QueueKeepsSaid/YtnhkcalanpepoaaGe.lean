/- Layer 1: the chapter's examples hold. Own work. -/
import Derived.Test.YtnhkcalanpepoaaGd
namespace Go.Proofs.Ytnhkcalanpepoaa
open Go Go.Shade
variable {Γ : Globs}
theorem aPut1 : Good Try.prog Γ 11 [qv 3 [], .sl 1 (bys [1, 2, 3, 4])] [] (.ret (.tup [.agg [.int .i64 3, .own 0 1 (bys [1, 2, 3])], .int .i64 3, .int .i64 0])) [(0, .tok)] := gPutOk 3 [] [1, 2, 3, 4] ⟨by omega, by omega, by decide⟩
theorem aTake1 : Good Try.prog Γ 12 [qv 3 [1, 2, 3], .int .i64 2] [] (.ret (.tup [.agg [.int .i64 3, .own 1 1 (bys [3])], .own 0 1 (bys [1, 2]), .int .i64 0])) [(0, .tok), (1, .tok)] := gTakeOk 3 [1, 2, 3] 2 ⟨by omega, by omega, by decide⟩
theorem aPut2 : Good Try.prog Γ 11 [qv 3 [3], .sl 1 (bys [5, 6])] [] (.ret (.tup [.agg [.int .i64 3, .own 0 1 (bys [3, 5, 6])], .int .i64 2, .int .i64 0])) [(0, .tok)] := gPutOk 3 [3] [5, 6] ⟨by omega, by omega, by decide⟩
theorem aTake2 : Good Try.prog Γ 12 [qv 3 [3, 5, 6], .int .i64 9] [] (.ret (.tup [.agg [.int .i64 3, .own 1 1 (bys [])], .own 0 1 (bys [3, 5, 6]), .int .i64 0])) [(0, .tok), (1, .tok)] := gTakeOk 3 [3, 5, 6] 9 ⟨by omega, by omega, by decide⟩
theorem gAwake : Good Try.prog Γ 14 [] [] (.ret (.bool true)) [] := by
  refine sh_start mixed F14 rfl ⟨rfl, rfl, rfl, rfl, rfl⟩ ?_
  simp (disch := omega) only [go_sem, seval]
  refine sh_call (gNewOk 3 (by omega)) [] ⟨rfl, trivial⟩ trivial rfl trivial ?_
  simp (disch := omega) only [qv, go_sem, seval]
  refine sh_call aPut1 [] ⟨⟨rfl, rfl, trivial⟩, ⟨rfl, rfl⟩, trivial⟩ trivial rfl ⟨.inr rfl, trivial⟩ ?_
  simp (disch := omega) only [go_sem, seval]
  refine sh_call aTake1 [] ⟨⟨rfl, ⟨rfl, rfl⟩, trivial⟩, rfl, trivial⟩ trivial rfl ⟨.inr rfl, .inr rfl, trivial⟩ ?_
  simp (disch := omega) only [go_sem, seval]
  refine sh_call aPut2 [] ⟨⟨rfl, ⟨rfl, rfl⟩, trivial⟩, ⟨rfl, rfl⟩, trivial⟩ trivial rfl ⟨.inr rfl, trivial⟩ ?_
  simp (disch := omega) only [go_sem, seval]
  refine sh_call aTake2 [] ⟨⟨rfl, ⟨rfl, rfl⟩, trivial⟩, rfl, trivial⟩ trivial rfl ⟨.inr rfl, .inr rfl, trivial⟩ ?_
  simp (disch := omega) only [go_sem, seval]
  exact endE_by [] rfl trivial rfl rfl
end Go.Proofs.Ytnhkcalanpepoaa
