/- Layer 22: whether two scripts are the same, as the document says it. Own work. -/
import Derived.Test.YtlijecknkpcgfaaDoorVo
import Derived.Test.YtlijecknkpcgfaaDoorScb
namespace Go.Proofs.YtlijecknkpcgfaaDoor
open Go Go.Shade
variable {Γ : Globs}
set_option maxHeartbeats 4000000 in
theorem gRSameL (a b : List Stp) (ha : a.length ≤ 100000) : Go.Shade.Good Tryd.prog Γ 22 [.sl 50 (a.map sR), .sl 50 (b.map sR)] [] (.ret (.bool (decide (a = b)))) [] := by
  refine sh_start mixed F22 rfl ⟨(by first | exact rfl | (simp only [go_sem, seval]; done) | (simp only [go_sem, seval]; exact rfl)), (by first | exact rfl | (simp only [go_sem, seval]; done) | (simp only [go_sem, seval]; exact rfl)), (by first | exact rfl | (simp only [go_sem, seval]; done) | (simp only [go_sem, seval]; exact rfl)), (by first | exact rfl | (simp only [go_sem, seval]; done) | (simp only [go_sem, seval]; exact rfl)), (by first | exact rfl | (simp only [go_sem, seval]; done) | (simp only [go_sem, seval]; exact rfl))⟩ ?_
  by_cases hl : a.length = b.length
  · repeat' (first | (with_reducible exact trivial) | simp (maxSteps := 2000000) (disch := omega) only [List.length_map, hl, go_sem, seval] | ((with_reducible refine isI ?_ ?_); (kernel_rfl)) | fail)
    refine sh_loopX mixed (fun i : Nat => ([(0, .sl 50 (a.map sR)), (1, .sl 50 (b.map sR)), (5, .int .i64 i)], [])) (fun i => a.length - i) (fun i => i ≤ a.length ∧ a.take i = b.take i) 0 (by simp) wkAu ?_
    rintro i ⟨hi, he⟩
    by_cases h : i < a.length
    · obtain ⟨t, u, h1, h2, h3⟩ := stwo_at h (by omega : i < b.length)
      have h3 := h3 he
      have hs := gOneS (Γ := Γ) t u
      by_cases htu : t = u
      · rw [decide_eq_true htu] at hs
        repeat' (first | (with_reducible exact trivial) | simp (maxSteps := 2000000) (disch := omega) only [List.length_map, h1, h2, sR_map, Int.toNat_natCast, go_sem, seval] | ((with_reducible refine isS ?_); first | refine cS (hs) ?_ | fail) | ((with_reducible refine isT ?_); first | refine cT (hs) ?_ | fail) | ((with_reducible refine isI ?_ ?_); (kernel_rfl)) | fail)
        exact ⟨i + 1, by omega, ⟨by omega, h3.1 htu⟩, wkAu⟩
      · have hne : a ≠ b := fun e => htu (h3.2 (by rw [e]))
        rw [decide_eq_false htu] at hs
        repeat' (first | (with_reducible exact trivial) | simp (maxSteps := 2000000) (disch := omega) only [List.length_map, h1, h2, sR_map, Int.toNat_natCast, go_sem, seval] | ((with_reducible refine isS ?_); first | refine cS (hs) ?_ | fail) | ((with_reducible refine isT ?_); first | refine cT (hs) ?_ | fail) | ((with_reducible refine isE ?_); refine eA ?_; (repeat' (first | exact le_mq0 rfl | exact le_mq0r rfl | exact le_jk50 (by simp only [List.length_cons, List.length_append, mq_len, List.length_nil]) | refine le_mqr ?_ | refine le_mq ?_ | exact trivial | refine le_int ?_ | refine le_bool ?_ | refine le_str ?_ | refine le_sl ?_ | refine le_own ?_ | refine le_osl ?_ | refine le_nsl ?_ | exact rfl | (exact (decide_eq_false hne).symm; done) | refine ⟨?_, ?_⟩ | fail))) | ((with_reducible refine isI ?_ ?_); (kernel_rfl)) | fail)
    · have e : a = b := by rw [← List.take_of_length_le (l := a) (i := i) (by omega), he, List.take_of_length_le (by omega)]
      repeat' (first | (with_reducible exact trivial) | simp (maxSteps := 2000000) (disch := omega) only [List.length_map, hl, go_sem, seval] | ((with_reducible refine isE ?_); refine eA ?_; (repeat' (first | exact le_mq0 rfl | exact le_mq0r rfl | exact le_jk50 (by simp only [List.length_cons, List.length_append, mq_len, List.length_nil]) | refine le_mqr ?_ | refine le_mq ?_ | exact trivial | refine le_int ?_ | refine le_bool ?_ | refine le_str ?_ | refine le_sl ?_ | refine le_own ?_ | refine le_osl ?_ | refine le_nsl ?_ | exact rfl | (exact (decide_eq_true e).symm; done) | refine ⟨?_, ?_⟩ | fail))) | ((with_reducible refine isI ?_ ?_); (kernel_rfl)) | fail)
  · repeat' (first | (with_reducible exact trivial) | simp (maxSteps := 2000000) (disch := omega) only [List.length_map, Int.natCast_inj, hl, go_sem, seval] | ((with_reducible refine isE ?_); refine eA ?_; (repeat' (first | exact le_mq0 rfl | exact le_mq0r rfl | exact le_jk50 (by simp only [List.length_cons, List.length_append, mq_len, List.length_nil]) | refine le_mqr ?_ | refine le_mq ?_ | exact trivial | refine le_int ?_ | refine le_bool ?_ | refine le_str ?_ | refine le_sl ?_ | refine le_own ?_ | refine le_osl ?_ | refine le_nsl ?_ | exact rfl | (exact (decide_eq_false (fun e => hl (by rw [e]))).symm; done) | refine ⟨?_, ?_⟩ | fail))) | ((with_reducible refine isI ?_ ?_); (kernel_rfl)) | fail)
end Go.Proofs.YtlijecknkpcgfaaDoor
