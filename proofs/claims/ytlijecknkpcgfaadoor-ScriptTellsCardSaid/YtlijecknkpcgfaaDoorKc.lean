/- Layer 10: what the document's functions come to. Own work. -/
import Derived.Test.YtlijecknkpcgfaaDoorKb
import Derived.Test.YtlijecknkpcgfaaDoorScb
namespace Go.Proofs.YtlijecknkpcgfaaDoor
open Go Go.Shade
variable {Γ : Globs}
set_option maxRecDepth 20000 in
theorem gRPut (m : Mask) : Good Tryd.prog Γ 56 [.agg (mq m)] [] (.ret (.sl 1 (bys (trimR (· == 0) m.l)))) [] := by
  refine sh_start mixed F56 rfl ⟨(by first | (with_reducible exact rfl) | (simp only [go_sem, seval]; done) | (simp only [go_sem, seval]; exact rfl) | exact rfl), (by first | (with_reducible exact rfl) | (simp only [go_sem, seval]; done) | (simp only [go_sem, seval]; exact rfl) | exact rfl), (by first | (with_reducible exact rfl) | (simp only [go_sem, seval]; done) | (simp only [go_sem, seval]; exact rfl) | exact rfl), (by first | (with_reducible exact rfl) | (simp only [go_sem, seval]; done) | (simp only [go_sem, seval]; exact rfl) | exact rfl), (by first | (with_reducible exact rfl) | (simp only [go_sem, seval]; done) | (simp only [go_sem, seval]; exact rfl) | exact rfl)⟩ ?_
  have hm := m.h
  repeat' (first | (with_reducible exact trivial) | simp (maxSteps := 2000000) (disch := omega) only [go_sem, seval, -List.reduceReplicate] | ((with_reducible refine isI ?_ ?_); (kernel_rfl)) | fail)
  refine sh_loopX mixed (fun n : Nat => ([(1, .ptr 0 0), (3, .int .i64 n)], [(0, .box (mq m) false)])) (fun n => n) (fun n => n ≤ 32 ∧ trimTo (· == 0) m.l 32 = trimTo (· == 0) m.l n) 32 ⟨Nat.le_refl _, rfl⟩ wkAu ?_
  rintro n ⟨hn, he⟩
  cases n with
  | zero => repeat' (first | (with_reducible exact trivial) | simp (maxSteps := 2000000) (disch := omega) only [go_sem, seval, List.replicate_zero, -List.reduceReplicate] | ((with_reducible refine isE ?_); refine eA ?_; (repeat' (first | exact le_rqr rfl | exact le_rq rfl | refine le_rqr ?_ | refine le_rq ?_ | exact le_mq0 rfl | exact le_mq0r rfl | refine le_mqr ?_ | refine le_mq ?_ | exact trivial | refine le_int ?_ | refine le_bool ?_ | refine le_str ?_ | refine le_sl ?_ | refine le_own ?_ | refine le_osl ?_ | refine le_nsl ?_ | exact rfl | ((unfold trimR; rw [hm, he]; rfl); done) | refine ⟨?_, ?_⟩ | fail))) | ((with_reducible refine isI ?_ ?_); (kernel_rfl)) | fail)
  | succ n =>
    have hg := mq_at (m := m) (by omega : n < 32)
    have e1 : ((n : Int) + 1 - 1).toNat = n := by omega
    have e2 : ((n : Int) + 1).toNat = n + 1 := by omega
    have hstep : trimTo (· == 0) m.l (n + 1) = if (m.at n == 0) = true then trimTo (· == 0) m.l n else n + 1 := rfl
    rw [hstep] at he
    by_cases hc : m.at n = 0
    · rw [if_pos (by simpa using hc)] at he
      repeat' (first | (with_reducible exact trivial) | simp (maxSteps := 2000000) (disch := omega) only [hg, e1, hc, Int.natCast_add, Int.natCast_one, go_sem, seval, -List.reduceReplicate] | ((with_reducible refine isI ?_ ?_); (kernel_rfl)) | fail)
      exact ⟨n, by omega, ⟨by omega, he⟩, (wkAu (h1 := by (repeat' (first | exact le_rqr rfl | exact le_rq rfl | refine le_rqr ?_ | refine le_rq ?_ | exact le_mq0 rfl | exact le_mq0r rfl | refine le_mqr ?_ | refine le_mq ?_ | exact trivial | exact rfl | refine le_int ?_ | refine le_bool ?_ | refine le_str ?_ | refine le_sl ?_ | refine le_own ?_ | refine le_osl ?_ | refine le_nsl ?_ | refine ⟨_, rfl, ?_⟩ | refine ⟨?_, ?_⟩ | (omega; done) | fail)); first | done | fail) (h2 := by (repeat' (first | exact le_rqr rfl | exact le_rq rfl | refine le_rqr ?_ | refine le_rq ?_ | exact le_mq0 rfl | exact le_mq0r rfl | refine le_mqr ?_ | refine le_mq ?_ | exact trivial | exact rfl | refine le_int ?_ | refine le_bool ?_ | refine le_str ?_ | refine le_sl ?_ | refine le_own ?_ | refine le_osl ?_ | refine le_nsl ?_ | refine ⟨_, rfl, ?_⟩ | refine ⟨?_, ?_⟩ | (omega; done) | fail)); first | done | fail))⟩
    · rw [if_neg (by simpa using hc)] at he
      have htl : (mq m).take (n + 1) = bq (m.l.take (n + 1)) := by rw [show mq m = bq m.l from rfl, bq_take]
      repeat' (first | (with_reducible exact trivial) | simp (maxSteps := 2000000) (disch := omega) only [hg, e1, e2, and0, hc, Int.natCast_add, Int.natCast_one, htl, go_sem, seval, List.replicate_zero, -List.reduceReplicate] | ((with_reducible refine isE ?_); refine eA ?_; (repeat' (first | exact le_rqr rfl | exact le_rq rfl | refine le_rqr ?_ | refine le_rq ?_ | exact le_mq0 rfl | exact le_mq0r rfl | refine le_mqr ?_ | refine le_mq ?_ | exact trivial | refine le_int ?_ | refine le_bool ?_ | refine le_str ?_ | refine le_sl ?_ | refine le_own ?_ | refine le_osl ?_ | refine le_nsl ?_ | exact rfl | ((unfold trimR; rw [hm, he]); done) | refine ⟨?_, ?_⟩ | fail))) | ((with_reducible refine isI ?_ ?_); (kernel_rfl)) | fail)
set_option maxRecDepth 20000 in
theorem gRGet (b : List UInt8) (h : b.length ≤ 1000000) : Good Tryd.prog Γ 59 [.sl 1 (bys b)] [] (.ret (.tup [.agg (mq (if b.length ≤ 32 then padM b else .zero)), .bool (decide (b.length ≤ 32))])) [] := by
  refine sh_start mixed F59 rfl ⟨(by first | (with_reducible exact rfl) | (simp only [go_sem, seval]; done) | (simp only [go_sem, seval]; exact rfl) | exact rfl), (by first | (with_reducible exact rfl) | (simp only [go_sem, seval]; done) | (simp only [go_sem, seval]; exact rfl) | exact rfl), (by first | (with_reducible exact rfl) | (simp only [go_sem, seval]; done) | (simp only [go_sem, seval]; exact rfl) | exact rfl), (by first | (with_reducible exact rfl) | (simp only [go_sem, seval]; done) | (simp only [go_sem, seval]; exact rfl) | exact rfl), (by first | (with_reducible exact rfl) | (simp only [go_sem, seval]; done) | (simp only [go_sem, seval]; exact rfl) | exact rfl)⟩ ?_
  by_cases hl : b.length ≤ 32
  · rw [if_pos hl, decide_eq_true hl]
    repeat' (first | (with_reducible exact trivial) | simp (maxSteps := 2000000) (disch := omega) only [bys_length, go_sem, seval, mq_zero32, -List.reduceReplicate] | ((with_reducible refine isI ?_ ?_); (kernel_rfl)) | fail)
    refine sh_loopX mixed (fun i : Nat => ([(0, .sl 1 (bys b)), (2, .ptr 0 0), (4, .ptr 1 0), (5, .int .i64 i)], [(0, .box (mq .zero) false), (1, .box (mq (padM (b.take i))) false)])) (fun i => b.length - i) (fun i => i ≤ b.length) 0 (by omega) wkAu ?_
    intro i hi
    by_cases hi2 : i < b.length
    · have hg := bys_at hi2
      have hp := padM_put hi2 hl
      have hi32 : i < 32 := by omega
      repeat' (first | (with_reducible exact trivial) | simp (maxSteps := 2000000) (disch := omega) only [bys_length, hg, Int.toNat_natCast, mq_put hi32, hp, go_sem, seval, -List.reduceReplicate] | ((with_reducible refine isI ?_ ?_); (kernel_rfl)) | fail)
      exact ⟨i + 1, by omega, by omega, wkAu⟩
    · have he : i = b.length := by omega
      subst he
      repeat' (first | (with_reducible exact trivial) | simp (maxSteps := 2000000) (disch := omega) only [bys_length, List.take_length, go_sem, seval, -List.reduceReplicate] | ((with_reducible refine isE ?_); refine eA ?_; (repeat' (first | exact le_rqr rfl | exact le_rq rfl | refine le_rqr ?_ | refine le_rq ?_ | exact le_mq0 rfl | exact le_mq0r rfl | refine le_mqr ?_ | refine le_mq ?_ | exact trivial | refine le_int ?_ | refine le_bool ?_ | refine le_str ?_ | refine le_sl ?_ | refine le_own ?_ | refine le_osl ?_ | refine le_nsl ?_ | exact rfl | refine ⟨?_, ?_⟩ | fail))) | ((with_reducible refine isI ?_ ?_); (kernel_rfl)) | fail)
  · rw [if_neg hl, decide_eq_false hl]
    repeat' (first | (with_reducible exact trivial) | simp (maxSteps := 2000000) (disch := omega) only [bys_length, go_sem, seval, mq_zero32, -List.reduceReplicate] | ((with_reducible refine isE ?_); refine eA ?_; (repeat' (first | exact le_rqr rfl | exact le_rq rfl | refine le_rqr ?_ | refine le_rq ?_ | exact le_mq0 rfl | exact le_mq0r rfl | refine le_mqr ?_ | refine le_mq ?_ | exact trivial | refine le_int ?_ | refine le_bool ?_ | refine le_str ?_ | refine le_sl ?_ | refine le_own ?_ | refine le_osl ?_ | refine le_nsl ?_ | exact rfl | refine ⟨?_, ?_⟩ | fail))) | ((with_reducible refine isI ?_ ?_); (kernel_rfl)) | fail)
end Go.Proofs.YtlijecknkpcgfaaDoor
