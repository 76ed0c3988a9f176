/- Layer 12: the document's typing and doing. Own work. -/
import Derived.Test.YtkeidnhfahfiiaaDoorLj
namespace Go.Proofs.YtkeidnhfahfiiaaDoor
open Go Go.Shade
variable {Γ : Globs}
theorem gFewL (b : List UInt8) (n : Int) : Good Tryd.prog Γ 22 [lA b n] [] (.ret (lA (if (200 < b.length ∧ b.length < 4000) ∨ 4100 < b.length then b.take 200 else b) n)) [] := by
  refine sh_start mixed F22 rfl ⟨(by first | exact rfl | (simp only [go_sem, seval]; done) | (simp only [go_sem, seval]; exact rfl)), (by first | exact rfl | (simp only [go_sem, seval]; done) | (simp only [go_sem, seval]; exact rfl)), (by first | exact rfl | (simp only [go_sem, seval]; done) | (simp only [go_sem, seval]; exact rfl)), (by first | exact rfl | (simp only [go_sem, seval]; done) | (simp only [go_sem, seval]; exact rfl)), (by first | exact rfl | (simp only [go_sem, seval]; done) | (simp only [go_sem, seval]; exact rfl))⟩ ?_
  by_cases h1 : 200 < b.length <;> by_cases h2 : b.length < 4000 <;> by_cases h3 : 4100 < b.length
  all_goals repeat' (first | (with_reducible exact trivial) | simp (maxSteps := 2000000) (disch := omega) only [bys_length, bys_take, h1, h2, h3, go_sem, seval] | ((with_reducible refine isE ?_); refine endA (by first | exact rfl | (simp only [go_sem, seval]; exact rfl) | (simp only [go_sem, seval]; done)) ?_ (by (repeat' (first | exact trivial | exact rfl | refine ⟨_, rfl, ?_⟩ | refine ⟨?_, ?_⟩ | fail)); first | done | fail) rfl rfl; (repeat' (first | exact le_mq0 rfl | exact le_mq0r rfl | refine le_mqr ?_ | refine le_mq ?_ | exact trivial | refine le_int ?_ | refine le_bool ?_ | refine le_str ?_ | refine le_sl ?_ | refine le_own ?_ | refine le_osl ?_ | refine le_nsl ?_ | exact rfl | (first | (rw [if_pos (by omega)]) | (rw [if_neg (by omega)]) | omega; done) | refine ⟨?_, ?_⟩ | fail))) | ((with_reducible refine isI ?_ ?_); (kernel_rfl)) | fail)
end Go.Proofs.YtkeidnhfahfiiaaDoor
