/- Layer 22: how long a step is, as the document says it. Own work. -/
import Derived.Test.YtlijecknkpcgfaaDoorXi
import Derived.Test.YtlijecknkpcgfaaDoorScb
namespace Go.Proofs.YtlijecknkpcgfaaDoor
open Go Go.Shade
variable {Γ : Globs}
set_option maxHeartbeats 8000000 in
theorem gRLong (b : List UInt8) (hb : b.length ≤ 80000) : Go.Shade.Good Tryd.prog Γ 39 [.sl 1 (bys b)] [] (.ret (.int .i64 (longV b : Nat))) [] := by
  match b, hb with
  | [], _ =>
    refine sh_start mixed F39 rfl ⟨(by first | exact rfl | (simp only [go_sem, seval]; done) | (simp only [go_sem, seval]; exact rfl)), (by first | exact rfl | (simp only [go_sem, seval]; done) | (simp only [go_sem, seval]; exact rfl)), (by first | exact rfl | (simp only [go_sem, seval]; done) | (simp only [go_sem, seval]; exact rfl)), (by first | exact rfl | (simp only [go_sem, seval]; done) | (simp only [go_sem, seval]; exact rfl)), (by first | exact rfl | (simp only [go_sem, seval]; done) | (simp only [go_sem, seval]; exact rfl))⟩ ?_
    repeat' (first | (with_reducible exact trivial) | simp (maxSteps := 2000000) (disch := omega) only [List.length_nil, go_sem, seval] | ((with_reducible refine isE ?_); refine eA ?_; (repeat' (first | exact le_mq0 rfl | exact le_mq0r rfl | exact le_jk50 (by simp only [List.length_cons, List.length_append, mq_len, List.length_nil]) | refine le_mqr ?_ | refine le_mq ?_ | exact trivial | refine le_int ?_ | refine le_bool ?_ | refine le_str ?_ | refine le_sl ?_ | refine le_own ?_ | refine le_osl ?_ | refine le_nsl ?_ | exact rfl | refine ⟨?_, ?_⟩ | fail))) | ((with_reducible refine isI ?_ ?_); (kernel_rfl)) | fail)
  | c :: r, hb =>
    rw [List.length_cons] at hb
    have g0 : (bys (c :: r)).getD 0 [] = [.s (.int .u8 c.toNat)] := rfl
    rw [longV]
    by_cases h7 : 7 < c.toNat
    · rw [if_pos h7]
      refine sh_start mixed F39 rfl ⟨(by first | exact rfl | (simp only [go_sem, seval]; done) | (simp only [go_sem, seval]; exact rfl)), (by first | exact rfl | (simp only [go_sem, seval]; done) | (simp only [go_sem, seval]; exact rfl)), (by first | exact rfl | (simp only [go_sem, seval]; done) | (simp only [go_sem, seval]; exact rfl)), (by first | exact rfl | (simp only [go_sem, seval]; done) | (simp only [go_sem, seval]; exact rfl)), (by first | exact rfl | (simp only [go_sem, seval]; done) | (simp only [go_sem, seval]; exact rfl))⟩ ?_
      repeat' (first | (with_reducible exact trivial) | simp (maxSteps := 2000000) (disch := omega) only [bys_length, List.length_cons, g0, go_sem, seval] | ((with_reducible refine isE ?_); refine eA ?_; (repeat' (first | exact le_mq0 rfl | exact le_mq0r rfl | exact le_jk50 (by simp only [List.length_cons, List.length_append, mq_len, List.length_nil]) | refine le_mqr ?_ | refine le_mq ?_ | exact trivial | refine le_int ?_ | refine le_bool ?_ | refine le_str ?_ | refine le_sl ?_ | refine le_own ?_ | refine le_osl ?_ | refine le_nsl ?_ | exact rfl | refine ⟨?_, ?_⟩ | fail))) | ((with_reducible refine isI ?_ ?_); (kernel_rfl)) | fail)
    · rw [if_neg h7]
      have hk : c.toNat = 0 ∨ c.toNat = 1 ∨ c.toNat = 2 ∨ c.toNat = 3 ∨ c.toNat = 5 ∨ c.toNat = 7 ∨ c.toNat = 4 ∨ c.toNat = 6 := by omega
      rcases hk with hk | hk | hk | hk | hk | hk | hk | hk
      iterate 6
        · rw [hk, if_neg (by omega), if_neg (by omega), if_neg (by omega)]
          rw [hk] at g0
          refine sh_start mixed F39 rfl ⟨(by first | exact rfl | (simp only [go_sem, seval]; done) | (simp only [go_sem, seval]; exact rfl)), (by first | exact rfl | (simp only [go_sem, seval]; done) | (simp only [go_sem, seval]; exact rfl)), (by first | exact rfl | (simp only [go_sem, seval]; done) | (simp only [go_sem, seval]; exact rfl)), (by first | exact rfl | (simp only [go_sem, seval]; done) | (simp only [go_sem, seval]; exact rfl)), (by first | exact rfl | (simp only [go_sem, seval]; done) | (simp only [go_sem, seval]; exact rfl))⟩ ?_
          repeat' (first | (with_reducible exact trivial) | simp (maxSteps := 2000000) (disch := omega) only [bys_length, List.length_cons, g0, go_sem, seval] | ((with_reducible refine isE ?_); refine eA ?_; (repeat' (first | exact le_mq0 rfl | exact le_mq0r rfl | exact le_jk50 (by simp only [List.length_cons, List.length_append, mq_len, List.length_nil]) | refine le_mqr ?_ | refine le_mq ?_ | exact trivial | refine le_int ?_ | refine le_bool ?_ | refine le_str ?_ | refine le_sl ?_ | refine le_own ?_ | refine le_osl ?_ | refine le_nsl ?_ | exact rfl | refine ⟨?_, ?_⟩ | fail))) | ((with_reducible refine isI ?_ ?_); (kernel_rfl)) | fail)
      · rw [hk] at g0
        match r, hb with
        | [], _ =>
          rw [hk, if_neg (by simp), if_neg (by simp), if_neg (by simp)]
          refine sh_start mixed F39 rfl ⟨(by first | exact rfl | (simp only [go_sem, seval]; done) | (simp only [go_sem, seval]; exact rfl)), (by first | exact rfl | (simp only [go_sem, seval]; done) | (simp only [go_sem, seval]; exact rfl)), (by first | exact rfl | (simp only [go_sem, seval]; done) | (simp only [go_sem, seval]; exact rfl)), (by first | exact rfl | (simp only [go_sem, seval]; done) | (simp only [go_sem, seval]; exact rfl)), (by first | exact rfl | (simp only [go_sem, seval]; done) | (simp only [go_sem, seval]; exact rfl))⟩ ?_
          repeat' (first | (with_reducible exact trivial) | simp (maxSteps := 2000000) (disch := omega) only [bys_length, List.length_cons, List.length_nil, g0, go_sem, seval] | ((with_reducible refine isE ?_); refine eA ?_; (repeat' (first | exact le_mq0 rfl | exact le_mq0r rfl | exact le_jk50 (by simp only [List.length_cons, List.length_append, mq_len, List.length_nil]) | refine le_mqr ?_ | refine le_mq ?_ | exact trivial | refine le_int ?_ | refine le_bool ?_ | refine le_str ?_ | refine le_sl ?_ | refine le_own ?_ | refine le_osl ?_ | refine le_nsl ?_ | exact rfl | refine ⟨?_, ?_⟩ | fail))) | ((with_reducible refine isI ?_ ?_); (kernel_rfl)) | fail)
        | x :: q, hb =>
          rw [List.length_cons] at hb
          have g1 : (bys (c :: x :: q)).getD 1 [] = [.s (.int .u8 x.toNat)] := rfl
          by_cases x0 : x.toNat = 0
          · rw [if_pos ⟨hk, by simp, x0⟩]
            rw [x0] at g1
            refine sh_start mixed F39 rfl ⟨(by first | exact rfl | (simp only [go_sem, seval]; done) | (simp only [go_sem, seval]; exact rfl)), (by first | exact rfl | (simp only [go_sem, seval]; done) | (simp only [go_sem, seval]; exact rfl)), (by first | exact rfl | (simp only [go_sem, seval]; done) | (simp only [go_sem, seval]; exact rfl)), (by first | exact rfl | (simp only [go_sem, seval]; done) | (simp only [go_sem, seval]; exact rfl)), (by first | exact rfl | (simp only [go_sem, seval]; done) | (simp only [go_sem, seval]; exact rfl))⟩ ?_
            repeat' (first | (with_reducible exact trivial) | simp (maxSteps := 2000000) (disch := omega) only [bys_length, List.length_cons, g0, g1, go_sem, seval] | ((with_reducible refine isE ?_); refine eA ?_; (repeat' (first | exact le_mq0 rfl | exact le_mq0r rfl | exact le_jk50 (by simp only [List.length_cons, List.length_append, mq_len, List.length_nil]) | refine le_mqr ?_ | refine le_mq ?_ | exact trivial | refine le_int ?_ | refine le_bool ?_ | refine le_str ?_ | refine le_sl ?_ | refine le_own ?_ | refine le_osl ?_ | refine le_nsl ?_ | exact rfl | refine ⟨?_, ?_⟩ | fail))) | ((with_reducible refine isI ?_ ?_); (kernel_rfl)) | fail)
          · rw [if_neg (fun k => x0 k.2.2)]
            by_cases x1 : x.toNat = 1
            · rw [x1] at g1
              match q, hb with
              | [], _ =>
                rw [if_neg (by simp), if_neg (by omega), hk]
                refine sh_start mixed F39 rfl ⟨(by first | exact rfl | (simp only [go_sem, seval]; done) | (simp only [go_sem, seval]; exact rfl)), (by first | exact rfl | (simp only [go_sem, seval]; done) | (simp only [go_sem, seval]; exact rfl)), (by first | exact rfl | (simp only [go_sem, seval]; done) | (simp only [go_sem, seval]; exact rfl)), (by first | exact rfl | (simp only [go_sem, seval]; done) | (simp only [go_sem, seval]; exact rfl)), (by first | exact rfl | (simp only [go_sem, seval]; done) | (simp only [go_sem, seval]; exact rfl))⟩ ?_
                repeat' (first | (with_reducible exact trivial) | simp (maxSteps := 2000000) (disch := omega) only [bys_length, List.length_cons, List.length_nil, g0, g1, go_sem, seval] | ((with_reducible refine isE ?_); refine eA ?_; (repeat' (first | exact le_mq0 rfl | exact le_mq0r rfl | exact le_jk50 (by simp only [List.length_cons, List.length_append, mq_len, List.length_nil]) | refine le_mqr ?_ | refine le_mq ?_ | exact trivial | refine le_int ?_ | refine le_bool ?_ | refine le_str ?_ | refine le_sl ?_ | refine le_own ?_ | refine le_osl ?_ | refine le_nsl ?_ | exact rfl | refine ⟨?_, ?_⟩ | fail))) | ((with_reducible refine isI ?_ ?_); (kernel_rfl)) | fail)
              | y :: q, hb =>
                rw [List.length_cons] at hb
                have g2 : (bys (c :: x :: y :: q)).getD 2 [] = [.s (.int .u8 y.toNat)] := rfl
                have hy := y.toNat_lt
                rw [if_pos ⟨hk, by simp, x1⟩]
                refine sh_start mixed F39 rfl ⟨(by first | exact rfl | (simp only [go_sem, seval]; done) | (simp only [go_sem, seval]; exact rfl)), (by first | exact rfl | (simp only [go_sem, seval]; done) | (simp only [go_sem, seval]; exact rfl)), (by first | exact rfl | (simp only [go_sem, seval]; done) | (simp only [go_sem, seval]; exact rfl)), (by first | exact rfl | (simp only [go_sem, seval]; done) | (simp only [go_sem, seval]; exact rfl)), (by first | exact rfl | (simp only [go_sem, seval]; done) | (simp only [go_sem, seval]; exact rfl))⟩ ?_
                repeat' (first | (with_reducible exact trivial) | simp (maxSteps := 2000000) (disch := omega) only [bys_length, List.length_cons, g0, g1, g2, wrap64_u, go_sem, seval] | ((with_reducible refine isE ?_); refine eA ?_; (repeat' (first | exact le_mq0 rfl | exact le_mq0r rfl | exact le_jk50 (by simp only [List.length_cons, List.length_append, mq_len, List.length_nil]) | refine le_mqr ?_ | refine le_mq ?_ | exact trivial | refine le_int ?_ | refine le_bool ?_ | refine le_str ?_ | refine le_sl ?_ | refine le_own ?_ | refine le_osl ?_ | refine le_nsl ?_ | exact rfl | (simp; done) | refine ⟨?_, ?_⟩ | fail))) | ((with_reducible refine isI ?_ ?_); (kernel_rfl)) | fail)
            · rw [if_neg (fun k => x1 k.2.2), if_neg (by omega), hk]
              have x0' : ¬ ((x.toNat : Int) = 0) := by omega
              have x1' : ¬ ((x.toNat : Int) = 1) := by omega
              refine sh_start mixed F39 rfl ⟨(by first | exact rfl | (simp only [go_sem, seval]; done) | (simp only [go_sem, seval]; exact rfl)), (by first | exact rfl | (simp only [go_sem, seval]; done) | (simp only [go_sem, seval]; exact rfl)), (by first | exact rfl | (simp only [go_sem, seval]; done) | (simp only [go_sem, seval]; exact rfl)), (by first | exact rfl | (simp only [go_sem, seval]; done) | (simp only [go_sem, seval]; exact rfl)), (by first | exact rfl | (simp only [go_sem, seval]; done) | (simp only [go_sem, seval]; exact rfl))⟩ ?_
              by_cases hq : 0 < q.length
              · repeat' (first | (with_reducible exact trivial) | simp (maxSteps := 2000000) (disch := omega) only [bys_length, List.length_cons, g0, g1, x0', x1', go_sem, seval] | ((with_reducible refine isE ?_); refine eA ?_; (repeat' (first | exact le_mq0 rfl | exact le_mq0r rfl | exact le_jk50 (by simp only [List.length_cons, List.length_append, mq_len, List.length_nil]) | refine le_mqr ?_ | refine le_mq ?_ | exact trivial | refine le_int ?_ | refine le_bool ?_ | refine le_str ?_ | refine le_sl ?_ | refine le_own ?_ | refine le_osl ?_ | refine le_nsl ?_ | exact rfl | refine ⟨?_, ?_⟩ | fail))) | ((with_reducible refine isI ?_ ?_); (kernel_rfl)) | fail)
              · repeat' (first | (with_reducible exact trivial) | simp (maxSteps := 2000000) (disch := omega) only [bys_length, List.length_cons, g0, g1, x0', go_sem, seval] | ((with_reducible refine isE ?_); refine eA ?_; (repeat' (first | exact le_mq0 rfl | exact le_mq0r rfl | exact le_jk50 (by simp only [List.length_cons, List.length_append, mq_len, List.length_nil]) | refine le_mqr ?_ | refine le_mq ?_ | exact trivial | refine le_int ?_ | refine le_bool ?_ | refine le_str ?_ | refine le_sl ?_ | refine le_own ?_ | refine le_osl ?_ | refine le_nsl ?_ | exact rfl | refine ⟨?_, ?_⟩ | fail))) | ((with_reducible refine isI ?_ ?_); (kernel_rfl)) | fail)
      · rw [hk] at g0
        rw [if_neg (by omega), if_neg (by omega)]
        match r, hb with
        | [], _ =>
          rw [hk, if_neg (by simp)]
          refine sh_start mixed F39 rfl ⟨(by first | exact rfl | (simp only [go_sem, seval]; done) | (simp only [go_sem, seval]; exact rfl)), (by first | exact rfl | (simp only [go_sem, seval]; done) | (simp only [go_sem, seval]; exact rfl)), (by first | exact rfl | (simp only [go_sem, seval]; done) | (simp only [go_sem, seval]; exact rfl)), (by first | exact rfl | (simp only [go_sem, seval]; done) | (simp only [go_sem, seval]; exact rfl)), (by first | exact rfl | (simp only [go_sem, seval]; done) | (simp only [go_sem, seval]; exact rfl))⟩ ?_
          repeat' (first | (with_reducible exact trivial) | simp (maxSteps := 2000000) (disch := omega) only [bys_length, List.length_cons, List.length_nil, g0, go_sem, seval] | ((with_reducible refine isE ?_); refine eA ?_; (repeat' (first | exact le_mq0 rfl | exact le_mq0r rfl | exact le_jk50 (by simp only [List.length_cons, List.length_append, mq_len, List.length_nil]) | refine le_mqr ?_ | refine le_mq ?_ | exact trivial | refine le_int ?_ | refine le_bool ?_ | refine le_str ?_ | refine le_sl ?_ | refine le_own ?_ | refine le_osl ?_ | refine le_nsl ?_ | exact rfl | refine ⟨?_, ?_⟩ | fail))) | ((with_reducible refine isI ?_ ?_); (kernel_rfl)) | fail)
        | x :: q, hb =>
          rw [List.length_cons] at hb
          have hx := x.toNat_lt
          have g1 : (bys (c :: x :: q)).getD 1 [] = [.s (.int .u8 x.toNat)] := rfl
          rw [if_pos ⟨hk, by simp⟩]
          refine sh_start mixed F39 rfl ⟨(by first | exact rfl | (simp only [go_sem, seval]; done) | (simp only [go_sem, seval]; exact rfl)), (by first | exact rfl | (simp only [go_sem, seval]; done) | (simp only [go_sem, seval]; exact rfl)), (by first | exact rfl | (simp only [go_sem, seval]; done) | (simp only [go_sem, seval]; exact rfl)), (by first | exact rfl | (simp only [go_sem, seval]; done) | (simp only [go_sem, seval]; exact rfl)), (by first | exact rfl | (simp only [go_sem, seval]; done) | (simp only [go_sem, seval]; exact rfl))⟩ ?_
          repeat' (first | (with_reducible exact trivial) | simp (maxSteps := 2000000) (disch := omega) only [bys_length, List.length_cons, g0, g1, wrap64_u, go_sem, seval] | ((with_reducible refine isE ?_); refine eA ?_; (repeat' (first | exact le_mq0 rfl | exact le_mq0r rfl | exact le_jk50 (by simp only [List.length_cons, List.length_append, mq_len, List.length_nil]) | refine le_mqr ?_ | refine le_mq ?_ | exact trivial | refine le_int ?_ | refine le_bool ?_ | refine le_str ?_ | refine le_sl ?_ | refine le_own ?_ | refine le_osl ?_ | refine le_nsl ?_ | exact rfl | (simp; done) | refine ⟨?_, ?_⟩ | fail))) | ((with_reducible refine isI ?_ ?_); (kernel_rfl)) | fail)
end Go.Proofs.YtlijecknkpcgfaaDoor
