/- Layer 22: a script put, as the document says it. Own work. -/
import Derived.Test.YtlijecknkpcgfaaDoorXd
import Derived.Test.YtlijecknkpcgfaaDoorXe
import Derived.Test.YtlijecknkpcgfaaDoorScb
namespace Go.Proofs.YtlijecknkpcgfaaDoor
open Go Go.Shade
variable {Γ : Globs}
set_option maxHeartbeats 8000000 in
theorem gRPutS (l : List Stp) (hl : l.length ≤ 10000) (hi : ∀ s ∈ l, inS s) : Go.Shade.Good Tryd.prog Γ 20 [.sl 50 (l.map sR)] [] (.ret (resP l)) [] := by
  refine sh_start mixed F20 rfl ⟨(by first | exact rfl | (simp only [go_sem, seval]; done) | (simp only [go_sem, seval]; exact rfl)), (by first | exact rfl | (simp only [go_sem, seval]; done) | (simp only [go_sem, seval]; exact rfl)), (by first | exact rfl | (simp only [go_sem, seval]; done) | (simp only [go_sem, seval]; exact rfl)), (by first | exact rfl | (simp only [go_sem, seval]; done) | (simp only [go_sem, seval]; exact rfl)), (by first | exact rfl | (simp only [go_sem, seval]; done) | (simp only [go_sem, seval]; exact rfl))⟩ ?_
  repeat' (first | (with_reducible exact trivial) | simp (maxSteps := 2000000) (disch := omega) only [go_sem, seval] | ((with_reducible refine isI ?_ ?_); (kernel_rfl)) | fail)
  refine sh_loopX mixed (fun i : Nat => ([(0, .sl 50 (l.map sR)), (4, .own 0 1 (bys (putS (l.take i)))), (5, .int .i64 i)], [(0, .tok)])) (fun i => l.length - i) (fun i => i ≤ l.length ∧ ∀ s ∈ l.take i, mayV s) 0 (by simp)
    (weakG_nil 4 9 1 rfl rfl wkAu) ?_
  rintro i ⟨hi', hm⟩
  have lp : (putS (l.take i)).length ≤ 3010000 := by
    have := putS_len hm
    rw [List.length_take] at this
    omega
  by_cases hlt : i < l.length
  · obtain ⟨s, hs, htk, hg⟩ := selem_at hlt
    have hin := hi s hs
    have hw := gRMayS (Γ := Γ) s hin
    by_cases hv : mayV s
    · rw [decide_eq_true hv] at hw
      have hy := gRLays (Γ := Γ) s hv hin
      have hlen := layS_len hv
      repeat' (first | (with_reducible exact trivial) | simp (maxSteps := 2000000) (disch := omega) only [List.length_map, hg, sR_map, bys_length, bys_cat, Int.toNat_natCast, bys_length, bys_cat, go_sem, seval] | ((with_reducible refine isS ?_); first | refine cS (hw) ?_ | refine cS (hy) ?_ | fail) | ((with_reducible refine isI ?_ ?_); (kernel_rfl)) | fail)
      exact ⟨i + 1, by omega, ⟨by omega, by rw [htk]; simp only [List.mem_append, List.mem_singleton]; exact fun x hx => hx.elim (hm x) (fun e => e ▸ hv)⟩, (wkAu (h1 := by (repeat' (first | exact le_mq0 rfl | exact le_mq0r rfl | exact le_jk50 (by simp only [List.length_cons, List.length_append, mq_len, List.length_nil]) | refine le_mqr ?_ | refine le_mq ?_ | exact trivial | exact rfl | refine le_int ?_ | refine le_bool ?_ | refine le_str ?_ | refine le_sl ?_ | refine le_own ?_ | refine le_osl ?_ | refine le_nsl ?_ | refine ⟨_, rfl, ?_⟩ | refine ⟨?_, ?_⟩ | ((rw [htk, putS_snoc]); done) | exact Option.some_ne_none _ | fail)); first | done | fail) (h2 := by (repeat' (first | exact le_mq0 rfl | exact le_mq0r rfl | exact le_jk50 (by simp only [List.length_cons, List.length_append, mq_len, List.length_nil]) | refine le_mqr ?_ | refine le_mq ?_ | exact trivial | exact rfl | refine le_int ?_ | refine le_bool ?_ | refine le_str ?_ | refine le_sl ?_ | refine le_own ?_ | refine le_osl ?_ | refine le_nsl ?_ | refine ⟨_, rfl, ?_⟩ | refine ⟨?_, ?_⟩ | ((rw [htk, putS_snoc]); done) | exact Option.some_ne_none _ | fail)); first | done | fail))⟩
    · rw [show resP l = .tup [.sl 1 [], .int .i64 1] by rw [resP, outP, stopP, if_neg (fun h => hv (h s hs)), if_neg (fun h => hv (h s hs))]; rfl]
      rw [decide_eq_false hv] at hw
      repeat' (first | (with_reducible exact trivial) | simp (maxSteps := 2000000) (disch := omega) only [List.length_map, hg, sR_map, Int.toNat_natCast, go_sem, seval] | ((with_reducible refine isS ?_); first | refine cS (hw) ?_ | fail) | ((with_reducible refine isE ?_); refine eA ?_; (repeat' (first | exact le_mq0 rfl | exact le_mq0r rfl | exact le_jk50 (by simp only [List.length_cons, List.length_append, mq_len, List.length_nil]) | refine le_mqr ?_ | refine le_mq ?_ | exact trivial | refine le_int ?_ | refine le_bool ?_ | refine le_str ?_ | refine le_sl ?_ | refine le_own ?_ | refine le_osl ?_ | refine le_nsl ?_ | exact rfl | refine ⟨?_, ?_⟩ | fail))) | ((with_reducible refine isI ?_ ?_); (kernel_rfl)) | fail)
  · have ht : l.take i = l := List.take_of_length_le (by omega)
    rw [ht] at hm
    by_cases h4 : l.length ≤ 4096
    · rw [show resP l = .tup [.sl 1 (bys (putS l)), .int .i64 0] by rw [resP, outP, stopP, if_pos hm, if_pos h4, if_pos hm, if_pos h4]]
      repeat' (first | (with_reducible exact trivial) | simp (maxSteps := 2000000) (disch := omega) only [List.length_map, ht, go_sem, seval] | ((with_reducible refine isE ?_); refine eA ?_; (repeat' (first | exact le_mq0 rfl | exact le_mq0r rfl | exact le_jk50 (by simp only [List.length_cons, List.length_append, mq_len, List.length_nil]) | refine le_mqr ?_ | refine le_mq ?_ | exact trivial | refine le_int ?_ | refine le_bool ?_ | refine le_str ?_ | refine le_sl ?_ | refine le_own ?_ | refine le_osl ?_ | refine le_nsl ?_ | exact rfl | refine ⟨?_, ?_⟩ | fail))) | ((with_reducible refine isI ?_ ?_); (kernel_rfl)) | fail)
    · rw [show resP l = .tup [.sl 1 [], .int .i64 3] by rw [resP, outP, stopP, if_pos hm, if_neg h4, if_pos hm, if_neg h4]; rfl]
      repeat' (first | (with_reducible exact trivial) | simp (maxSteps := 2000000) (disch := omega) only [List.length_map, ht, go_sem, seval] | ((with_reducible refine isE ?_); refine eA ?_; (repeat' (first | exact le_mq0 rfl | exact le_mq0r rfl | exact le_jk50 (by simp only [List.length_cons, List.length_append, mq_len, List.length_nil]) | refine le_mqr ?_ | refine le_mq ?_ | exact trivial | refine le_int ?_ | refine le_bool ?_ | refine le_str ?_ | refine le_sl ?_ | refine le_own ?_ | refine le_osl ?_ | refine le_nsl ?_ | exact rfl | refine ⟨?_, ?_⟩ | fail))) | ((with_reducible refine isI ?_ ?_); (kernel_rfl)) | fail)
end Go.Proofs.YtlijecknkpcgfaaDoor
