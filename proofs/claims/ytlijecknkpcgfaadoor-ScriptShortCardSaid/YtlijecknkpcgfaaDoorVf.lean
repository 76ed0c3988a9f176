/- Layer 22: turns, written and read. Own work. -/
import Derived.Test.YtlijecknkpcgfaaDoorVd
import Derived.Test.YtlijecknkpcgfaaDoorVc
import Derived.Test.YtlijecknkpcgfaaDoorScb
namespace Go.Proofs.YtlijecknkpcgfaaDoor
open Go Go.Shade
variable {Γ : Globs}
def wL (s : Stp) : List Nat := [s.w0, s.w1, s.w2, s.w3]
theorem wl_oct (s : Stp) : wOct (wL s) = wl s := by simp [wOct, wL, wl]
theorem wl_len (s : Stp) : (wl s).length = 32 := by rw [← wl_oct, wOct_len]; rfl
set_option maxHeartbeats 8000000 in
theorem gP7 (q : List UInt8) (s : Stp) (h : q.length ≤ 40000) : Go.Shade.Good Tryd.prog Γ 84 [.ptr 0 0, sV s] (pPre q) (.ret (.tup [])) (pPost (q ++ u8 s.n :: (wl s ++ o8 s.draw))) := by
  have hp := gPenP (Γ := Γ) q [u8 s.n] (by simp; omega)
  have hw := gWLay (Γ := Γ) (wL s) (by simp [wL])
  rw [wl_oct] at hw
  have hp2 := gPenP (Γ := Γ) (q ++ [u8 s.n]) (wl s) (by rw [wl_len]; simp; omega)
  rw [List.append_assoc, List.cons_append, List.nil_append] at hp2
  refine sh_start mixed F84 rfl ⟨(by first | exact rfl | (simp only [go_sem, seval]; done) | (simp only [go_sem, seval]; exact rfl)), (by first | exact rfl | (simp only [go_sem, seval]; done) | (simp only [go_sem, seval]; exact rfl)), (by first | exact rfl | (simp only [go_sem, seval]; done) | (simp only [go_sem, seval]; exact rfl)), (by first | exact rfl | (simp only [go_sem, seval]; done) | (simp only [go_sem, seval]; exact rfl)), (by first | exact rfl | (simp only [go_sem, seval]; done) | (simp only [go_sem, seval]; exact rfl))⟩ ?_
  repeat' (first | (with_reducible exact trivial) | simp (maxSteps := 2000000) (disch := omega) only [wrapU8, by1_nil, go_sem, seval] | ((with_reducible refine isS ?_); first | refine cSA (hp) ?_ | refine cSA (hp2) ?_ | refine cS (hw) ?_ | fail) | ((with_reducible refine isI ?_ ?_); (kernel_rfl)) | fail)
  refine sh_loopX mixed (fun k : Nat => ([(0, .ptr 0 0), (3, .ptr 3 0), (16, .int .i64 k)], [(0, .box [.own 2 1 (bys (q ++ (u8 s.n :: wl s ++ (o8 s.draw).take k)))] false), (1, .dead), (2, .tok), (3, .box (sC s) true)])) (fun k => 8 - k) (fun k => k ≤ 8) 0 (by omega)
    (wkAu (h1 := by (repeat' (first | exact le_mq0 rfl | exact le_mq0r rfl | exact le_jk50 (by simp only [List.length_cons, List.length_append, mq_len, List.length_nil]) | refine le_mqr ?_ | refine le_mq ?_ | exact trivial | exact rfl | refine le_int ?_ | refine le_bool ?_ | refine le_str ?_ | refine le_sl ?_ | refine le_own ?_ | refine le_osl ?_ | refine le_nsl ?_ | refine ⟨_, rfl, ?_⟩ | refine ⟨?_, ?_⟩ | (simp; done) | exact Option.some_ne_none _ | fail)); first | done | fail) (h2 := by (repeat' (first | exact le_mq0 rfl | exact le_mq0r rfl | exact le_jk50 (by simp only [List.length_cons, List.length_append, mq_len, List.length_nil]) | refine le_mqr ?_ | refine le_mq ?_ | exact trivial | exact rfl | refine le_int ?_ | refine le_bool ?_ | refine le_str ?_ | refine le_sl ?_ | refine le_own ?_ | refine le_osl ?_ | refine le_nsl ?_ | refine ⟨_, rfl, ?_⟩ | refine ⟨?_, ?_⟩ | (simp; done) | exact Option.some_ne_none _ | fail)); first | done | fail)) ?_
  intro k hk
  have lk : ((o8 s.draw).take k).length ≤ 8 := by rw [List.length_take]; omega
  by_cases hk8 : k < 8
  · have hsh := shrU ((s.draw : Nat) : Int) hk8
    have ho := oct_at s.draw hk8
    have hp3 := gPenP (Γ := Γ) (q ++ (u8 s.n :: wl s ++ (o8 s.draw).take k)) [(o8 s.draw).getD k 0] (by simp only [List.length_append, List.length_cons, wl_len, List.length_nil]; omega)
    repeat' (first | (with_reducible exact trivial) | simp (maxSteps := 2000000) (disch := omega) only [hsh, wrapU8, ho, by1_nil, go_sem, seval] | ((with_reducible refine isS ?_); first | refine cSA (hp3) ?_ | fail) | ((with_reducible refine isI ?_ ?_); (kernel_rfl)) | fail)
    exact ⟨k + 1, by omega, by omega, (wkAu (h1 := by (repeat' (first | exact le_mq0 rfl | exact le_mq0r rfl | exact le_jk50 (by simp only [List.length_cons, List.length_append, mq_len, List.length_nil]) | refine le_mqr ?_ | refine le_mq ?_ | exact trivial | exact rfl | refine le_int ?_ | refine le_bool ?_ | refine le_str ?_ | refine le_sl ?_ | refine le_own ?_ | refine le_osl ?_ | refine le_nsl ?_ | refine ⟨_, rfl, ?_⟩ | refine ⟨?_, ?_⟩ | (first | (rw [o8_step _ hk8]; done) | (rw [o8_step _ hk8]; simp; done); done) | exact Option.some_ne_none _ | fail)); first | done | fail) (h2 := by (repeat' (first | exact le_mq0 rfl | exact le_mq0r rfl | exact le_jk50 (by simp only [List.length_cons, List.length_append, mq_len, List.length_nil]) | refine le_mqr ?_ | refine le_mq ?_ | exact trivial | exact rfl | refine le_int ?_ | refine le_bool ?_ | refine le_str ?_ | refine le_sl ?_ | refine le_own ?_ | refine le_osl ?_ | refine le_nsl ?_ | refine ⟨_, rfl, ?_⟩ | refine ⟨?_, ?_⟩ | (first | (rw [o8_step _ hk8]; done) | (rw [o8_step _ hk8]; simp; done); done) | exact Option.some_ne_none _ | fail)); first | done | fail))⟩
  · obtain rfl : k = 8 := by omega
    repeat' (first | (with_reducible exact trivial) | simp (maxSteps := 2000000) (disch := omega) only [go_sem, seval] | ((with_reducible refine isI ?_ ?_); (kernel_rfl)) | fail)
    exact eB [] trivial
end Go.Proofs.YtlijecknkpcgfaaDoor
