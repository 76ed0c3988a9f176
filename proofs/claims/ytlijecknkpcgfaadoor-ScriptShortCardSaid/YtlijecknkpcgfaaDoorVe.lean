/- Layer 22: how the kinds' parts are read: asks, masks, triples, texts. Own work. -/
import Derived.Test.YtlijecknkpcgfaaDoorVc
import Derived.Test.YtlijecknkpcgfaaDoorScb
import Derived.Test.YtlijecknkpcgfaaDoorKl
namespace Go.Proofs.YtlijecknkpcgfaaDoor
open Go Go.Shade
variable {Γ : Globs}
theorem mod2 (x : UInt8) (h : x.toNat < 8) : and64 ((x.toNat : Nat) : Int) 1 = ((x.toNat % 2 : Nat) : Int) := by
  rw [and1 (by omega) (by omega)]
  omega
set_option maxHeartbeats 4000000 in
theorem gR2 (r : List UInt8) (hr : r.length ≤ 80000) : Go.Shade.Good Tryd.prog Γ 68 [.ptr 0 0, .ptr 1 0] (rPre r 2) (rdE (rd2 r)) (rdPost (rd2 r)) := by
  match r, hr with
  | [], _ =>
    refine sh_start mixed F68 rfl ⟨(by first | exact rfl | (simp only [go_sem, seval]; done) | (simp only [go_sem, seval]; exact rfl)), (by first | exact rfl | (simp only [go_sem, seval]; done) | (simp only [go_sem, seval]; exact rfl)), (by first | exact rfl | (simp only [go_sem, seval]; done) | (simp only [go_sem, seval]; exact rfl)), (by first | exact rfl | (simp only [go_sem, seval]; done) | (simp only [go_sem, seval]; exact rfl)), (by first | exact rfl | (simp only [go_sem, seval]; done) | (simp only [go_sem, seval]; exact rfl))⟩ ?_
    repeat' (first | (with_reducible exact trivial) | simp (maxSteps := 2000000) (disch := omega) only [go_sem, seval] | ((with_reducible refine isS ?_); first | refine cPn (gOneNo) ?_ | fail) | ((with_reducible refine isX ?_); exact f_panE []) | ((with_reducible refine isI ?_ ?_); (kernel_rfl)) | fail)
  | [x], _ =>
    refine sh_start mixed F68 rfl ⟨(by first | exact rfl | (simp only [go_sem, seval]; done) | (simp only [go_sem, seval]; exact rfl)), (by first | exact rfl | (simp only [go_sem, seval]; done) | (simp only [go_sem, seval]; exact rfl)), (by first | exact rfl | (simp only [go_sem, seval]; done) | (simp only [go_sem, seval]; exact rfl)), (by first | exact rfl | (simp only [go_sem, seval]; done) | (simp only [go_sem, seval]; exact rfl)), (by first | exact rfl | (simp only [go_sem, seval]; done) | (simp only [go_sem, seval]; exact rfl))⟩ ?_
    repeat' (first | (with_reducible exact trivial) | simp (maxSteps := 2000000) (disch := omega) only [go_sem, seval] | ((with_reducible refine isS ?_); first | refine cSA (gOneE x [] (by simp)) ?_ | refine cPn (gOneNo) ?_ | fail) | ((with_reducible refine isX ?_); exact f_panE []) | ((with_reducible refine isI ?_ ?_); (kernel_rfl)) | fail)
  | x :: y :: r, hr =>
    rw [List.length_cons, List.length_cons] at hr
    by_cases hx : x.toNat < 8
    · have h2 := mod2 x hx
      by_cases hy : y.toNat < 4
      · rw [rd2, if_pos ⟨hx, hy⟩]
        refine sh_start mixed F68 rfl ⟨(by first | exact rfl | (simp only [go_sem, seval]; done) | (simp only [go_sem, seval]; exact rfl)), (by first | exact rfl | (simp only [go_sem, seval]; done) | (simp only [go_sem, seval]; exact rfl)), (by first | exact rfl | (simp only [go_sem, seval]; done) | (simp only [go_sem, seval]; exact rfl)), (by first | exact rfl | (simp only [go_sem, seval]; done) | (simp only [go_sem, seval]; exact rfl)), (by first | exact rfl | (simp only [go_sem, seval]; done) | (simp only [go_sem, seval]; exact rfl))⟩ ?_
        repeat' (first | (with_reducible exact trivial) | simp (maxSteps := 2000000) (disch := omega) only [zS, h2, go_sem, seval] | ((with_reducible refine isS ?_); first | refine cSA (gOneE x (y :: r) (by rw [List.length_cons]; omega)) ?_ | refine cSA (gOneE y r (by omega)) ?_ | refine cS (gMustOk) ?_ | refine cS (gBit1 x hx) ?_ | refine cS (gBit2 x hx) ?_ | fail) | ((with_reducible refine isE ?_); refine eA ?_; (repeat' (first | exact le_mq0 rfl | exact le_mq0r rfl | exact le_jk50 (by simp only [List.length_cons, List.length_append, mq_len, List.length_nil]) | refine le_mqr ?_ | refine le_mq ?_ | exact trivial | refine le_int ?_ | refine le_bool ?_ | refine le_str ?_ | refine le_sl ?_ | refine le_own ?_ | refine le_osl ?_ | refine le_nsl ?_ | exact rfl | refine ⟨?_, ?_⟩ | fail))) | ((with_reducible refine isI ?_ ?_); (kernel_rfl)) | fail)
      · rw [rd2, if_neg (fun k => hy k.2)]
        refine sh_start mixed F68 rfl ⟨(by first | exact rfl | (simp only [go_sem, seval]; done) | (simp only [go_sem, seval]; exact rfl)), (by first | exact rfl | (simp only [go_sem, seval]; done) | (simp only [go_sem, seval]; exact rfl)), (by first | exact rfl | (simp only [go_sem, seval]; done) | (simp only [go_sem, seval]; exact rfl)), (by first | exact rfl | (simp only [go_sem, seval]; done) | (simp only [go_sem, seval]; exact rfl)), (by first | exact rfl | (simp only [go_sem, seval]; done) | (simp only [go_sem, seval]; exact rfl))⟩ ?_
        repeat' (first | (with_reducible exact trivial) | simp (maxSteps := 2000000) (disch := omega) only [go_sem, seval] | ((with_reducible refine isS ?_); first | refine cSA (gOneE x (y :: r) (by rw [List.length_cons]; omega)) ?_ | refine cSA (gOneE y r (by omega)) ?_ | refine cPn (gMustNo) ?_ | fail) | ((with_reducible refine isX ?_); exact f_panE []) | ((with_reducible refine isI ?_ ?_); (kernel_rfl)) | fail)
    · rw [rd2, if_neg (fun k => hx k.1)]
      refine sh_start mixed F68 rfl ⟨(by first | exact rfl | (simp only [go_sem, seval]; done) | (simp only [go_sem, seval]; exact rfl)), (by first | exact rfl | (simp only [go_sem, seval]; done) | (simp only [go_sem, seval]; exact rfl)), (by first | exact rfl | (simp only [go_sem, seval]; done) | (simp only [go_sem, seval]; exact rfl)), (by first | exact rfl | (simp only [go_sem, seval]; done) | (simp only [go_sem, seval]; exact rfl)), (by first | exact rfl | (simp only [go_sem, seval]; done) | (simp only [go_sem, seval]; exact rfl))⟩ ?_
      repeat' (first | (with_reducible exact trivial) | simp (maxSteps := 2000000) (disch := omega) only [go_sem, seval] | ((with_reducible refine isS ?_); first | refine cSA (gOneE x (y :: r) (by rw [List.length_cons]; omega)) ?_ | refine cSA (gOneE y r (by omega)) ?_ | refine cPn (gMustNo) ?_ | fail) | ((with_reducible refine isX ?_); exact f_panE []) | ((with_reducible refine isI ?_ ?_); (kernel_rfl)) | fail)
theorem gR6 (r : List UInt8) (hr : r.length ≤ 80000) : Go.Shade.Good Tryd.prog Γ 83 [.ptr 0 0, .ptr 1 0] (rPre r 6) (rdE (rd6 r)) (rdPost (rd6 r)) := by
  match r, hr with
  | [], _ =>
    refine sh_start mixed F83 rfl ⟨(by first | exact rfl | (simp only [go_sem, seval]; done) | (simp only [go_sem, seval]; exact rfl)), (by first | exact rfl | (simp only [go_sem, seval]; done) | (simp only [go_sem, seval]; exact rfl)), (by first | exact rfl | (simp only [go_sem, seval]; done) | (simp only [go_sem, seval]; exact rfl)), (by first | exact rfl | (simp only [go_sem, seval]; done) | (simp only [go_sem, seval]; exact rfl)), (by first | exact rfl | (simp only [go_sem, seval]; done) | (simp only [go_sem, seval]; exact rfl))⟩ ?_
    repeat' (first | (with_reducible exact trivial) | simp (maxSteps := 2000000) (disch := omega) only [go_sem, seval] | ((with_reducible refine isS ?_); first | refine cPn (gOneNo) ?_ | fail) | ((with_reducible refine isX ?_); exact f_panE []) | ((with_reducible refine isI ?_ ?_); (kernel_rfl)) | fail)
  | x :: r, hr =>
    rw [List.length_cons] at hr
    by_cases hx : x.toNat ≤ r.length
    · rw [rd6, if_pos hx]
      refine sh_start mixed F83 rfl ⟨(by first | exact rfl | (simp only [go_sem, seval]; done) | (simp only [go_sem, seval]; exact rfl)), (by first | exact rfl | (simp only [go_sem, seval]; done) | (simp only [go_sem, seval]; exact rfl)), (by first | exact rfl | (simp only [go_sem, seval]; done) | (simp only [go_sem, seval]; exact rfl)), (by first | exact rfl | (simp only [go_sem, seval]; done) | (simp only [go_sem, seval]; exact rfl)), (by first | exact rfl | (simp only [go_sem, seval]; done) | (simp only [go_sem, seval]; exact rfl))⟩ ?_
      repeat' (first | (with_reducible exact trivial) | simp (maxSteps := 2000000) (disch := omega) only [zS, go_sem, seval] | ((with_reducible refine isS ?_); first | refine cSA (gOneE x r (by omega)) ?_ | refine cSA (gEye x.toNat r hx (by omega)) ?_ | fail) | ((with_reducible refine isE ?_); refine eA ?_; (repeat' (first | exact le_mq0 rfl | exact le_mq0r rfl | exact le_jk50 (by simp only [List.length_cons, List.length_append, mq_len, List.length_nil]) | refine le_mqr ?_ | refine le_mq ?_ | exact trivial | refine le_int ?_ | refine le_bool ?_ | refine le_str ?_ | refine le_sl ?_ | refine le_own ?_ | refine le_osl ?_ | refine le_nsl ?_ | exact rfl | refine ⟨?_, ?_⟩ | fail))) | ((with_reducible refine isI ?_ ?_); (kernel_rfl)) | fail)
    · rw [rd6, if_neg hx]
      refine sh_start mixed F83 rfl ⟨(by first | exact rfl | (simp only [go_sem, seval]; done) | (simp only [go_sem, seval]; exact rfl)), (by first | exact rfl | (simp only [go_sem, seval]; done) | (simp only [go_sem, seval]; exact rfl)), (by first | exact rfl | (simp only [go_sem, seval]; done) | (simp only [go_sem, seval]; exact rfl)), (by first | exact rfl | (simp only [go_sem, seval]; done) | (simp only [go_sem, seval]; exact rfl)), (by first | exact rfl | (simp only [go_sem, seval]; done) | (simp only [go_sem, seval]; exact rfl))⟩ ?_
      repeat' (first | (with_reducible exact trivial) | simp (maxSteps := 2000000) (disch := omega) only [go_sem, seval] | ((with_reducible refine isS ?_); first | refine cSA (gOneE x r (by omega)) ?_ | refine cPn (gEyeNo x.toNat r hx (by omega)) ?_ | fail) | ((with_reducible refine isX ?_); exact f_panE []) | ((with_reducible refine isI ?_ ?_); (kernel_rfl)) | fail)
theorem getT_one (a m v : UInt8) : getT [a, m, v] = if m &&& 28 = 0 then some [trip a m v] else none := by
  rw [getT_cons]
  rfl
set_option maxHeartbeats 4000000 in
theorem gR5 (r : List UInt8) (hr : r.length ≤ 80000) : Go.Shade.Good Tryd.prog Γ 80 [.ptr 0 0, .ptr 1 0] (rPre r 5) (rdE (rd5 r)) (rdPost (rd5 r)) := by
  have no : ∀ (w : UInt8) (q : List UInt8), ¬ 3 ≤ q.length → q.length ≤ 80000 → rd5 (w :: q) = none → Go.Shade.Good Tryd.prog Γ 80 [.ptr 0 0, .ptr 1 0] (rPre (w :: q) 5) (rdE (rd5 (w :: q))) (rdPost (rd5 (w :: q))) := fun w q hq hl he => by
    rw [he]
    refine sh_start mixed F80 rfl ⟨(by first | exact rfl | (simp only [go_sem, seval]; done) | (simp only [go_sem, seval]; exact rfl)), (by first | exact rfl | (simp only [go_sem, seval]; done) | (simp only [go_sem, seval]; exact rfl)), (by first | exact rfl | (simp only [go_sem, seval]; done) | (simp only [go_sem, seval]; exact rfl)), (by first | exact rfl | (simp only [go_sem, seval]; done) | (simp only [go_sem, seval]; exact rfl)), (by first | exact rfl | (simp only [go_sem, seval]; done) | (simp only [go_sem, seval]; exact rfl))⟩ ?_
    repeat' (first | (with_reducible exact trivial) | simp (maxSteps := 2000000) (disch := omega) only [go_sem, seval] | ((with_reducible refine isS ?_); first | refine cSA (gOneE w q (by omega)) ?_ | refine cPn (gEyeNo 3 q hq (by omega)) ?_ | fail) | ((with_reducible refine isX ?_); exact f_panE []) | ((with_reducible refine isI ?_ ?_); (kernel_rfl)) | fail)
  match r, hr with
  | [], _ =>
    refine sh_start mixed F80 rfl ⟨(by first | exact rfl | (simp only [go_sem, seval]; done) | (simp only [go_sem, seval]; exact rfl)), (by first | exact rfl | (simp only [go_sem, seval]; done) | (simp only [go_sem, seval]; exact rfl)), (by first | exact rfl | (simp only [go_sem, seval]; done) | (simp only [go_sem, seval]; exact rfl)), (by first | exact rfl | (simp only [go_sem, seval]; done) | (simp only [go_sem, seval]; exact rfl)), (by first | exact rfl | (simp only [go_sem, seval]; done) | (simp only [go_sem, seval]; exact rfl))⟩ ?_
    repeat' (first | (with_reducible exact trivial) | simp (maxSteps := 2000000) (disch := omega) only [go_sem, seval] | ((with_reducible refine isS ?_); first | refine cPn (gOneNo) ?_ | fail) | ((with_reducible refine isX ?_); exact f_panE []) | ((with_reducible refine isI ?_ ?_); (kernel_rfl)) | fail)
  | [w], _ => exact no w [] (by simp) (by simp) rfl
  | [w, a], _ => exact no w [a] (by simp) (by simp) rfl
  | [w, a, m], _ => exact no w [a, m] (by simp) (by simp) rfl
  | w :: a :: m :: v :: r, hr =>
    simp only [List.length_cons] at hr
    have h1 := gOneE (Γ := Γ) w (a :: m :: v :: r) (by simp only [List.length_cons]; omega)
    have h3 := gEye (Γ := Γ) 3 (a :: m :: v :: r) (by simp only [List.length_cons]; omega) (by simp only [List.length_cons]; omega)
    rw [show (a :: m :: v :: r).take 3 = [a, m, v] from rfl, show (a :: m :: v :: r).drop 3 = r from rfl] at h3
    have hg := getT_one a m v
    by_cases hm : m &&& 28 = 0
    · rw [if_pos hm] at hg
      have h4 := gGetOk (Γ := Γ) [a, m, v] [trip a m v] hg (by simp)
      by_cases hw : w.toNat < 2
      · rw [rd5, if_pos ⟨hw, hm⟩]
        refine sh_start mixed F80 rfl ⟨(by first | exact rfl | (simp only [go_sem, seval]; done) | (simp only [go_sem, seval]; exact rfl)), (by first | exact rfl | (simp only [go_sem, seval]; done) | (simp only [go_sem, seval]; exact rfl)), (by first | exact rfl | (simp only [go_sem, seval]; done) | (simp only [go_sem, seval]; exact rfl)), (by first | exact rfl | (simp only [go_sem, seval]; done) | (simp only [go_sem, seval]; exact rfl)), (by first | exact rfl | (simp only [go_sem, seval]; done) | (simp only [go_sem, seval]; exact rfl))⟩ ?_
        repeat' (first | (with_reducible exact trivial) | simp (maxSteps := 2000000) (disch := omega) only [zS, tP, List.getD_cons_zero, go_sem, seval] | ((with_reducible refine isS ?_); first | refine cSA (h1) ?_ | refine cSA (h3) ?_ | refine cS (h4) ?_ | refine cS (gMustOk) ?_ | fail) | ((with_reducible refine isE ?_); refine eA ?_; (repeat' (first | exact le_mq0 rfl | exact le_mq0r rfl | exact le_jk50 (by simp only [List.length_cons, List.length_append, mq_len, List.length_nil]) | refine le_mqr ?_ | refine le_mq ?_ | exact trivial | refine le_int ?_ | refine le_bool ?_ | refine le_str ?_ | refine le_sl ?_ | refine le_own ?_ | refine le_osl ?_ | refine le_nsl ?_ | exact rfl | refine ⟨?_, ?_⟩ | fail))) | ((with_reducible refine isI ?_ ?_); (kernel_rfl)) | fail)
      · rw [rd5, if_neg (fun k => hw k.1)]
        refine sh_start mixed F80 rfl ⟨(by first | exact rfl | (simp only [go_sem, seval]; done) | (simp only [go_sem, seval]; exact rfl)), (by first | exact rfl | (simp only [go_sem, seval]; done) | (simp only [go_sem, seval]; exact rfl)), (by first | exact rfl | (simp only [go_sem, seval]; done) | (simp only [go_sem, seval]; exact rfl)), (by first | exact rfl | (simp only [go_sem, seval]; done) | (simp only [go_sem, seval]; exact rfl)), (by first | exact rfl | (simp only [go_sem, seval]; done) | (simp only [go_sem, seval]; exact rfl))⟩ ?_
        repeat' (first | (with_reducible exact trivial) | simp (maxSteps := 2000000) (disch := omega) only [go_sem, seval] | ((with_reducible refine isS ?_); first | refine cSA (h1) ?_ | refine cSA (h3) ?_ | refine cS (h4) ?_ | refine cPn (gMustNo) ?_ | fail) | ((with_reducible refine isX ?_); exact f_panE []) | ((with_reducible refine isI ?_ ?_); (kernel_rfl)) | fail)
    · rw [if_neg hm] at hg
      have h4 := gGetNo (Γ := Γ) [a, m, v] hg (by simp)
      rw [rd5, if_neg (fun k => hm k.2)]
      by_cases hw : w.toNat < 2
      · refine sh_start mixed F80 rfl ⟨(by first | exact rfl | (simp only [go_sem, seval]; done) | (simp only [go_sem, seval]; exact rfl)), (by first | exact rfl | (simp only [go_sem, seval]; done) | (simp only [go_sem, seval]; exact rfl)), (by first | exact rfl | (simp only [go_sem, seval]; done) | (simp only [go_sem, seval]; exact rfl)), (by first | exact rfl | (simp only [go_sem, seval]; done) | (simp only [go_sem, seval]; exact rfl)), (by first | exact rfl | (simp only [go_sem, seval]; done) | (simp only [go_sem, seval]; exact rfl))⟩ ?_
        repeat' (first | (with_reducible exact trivial) | simp (maxSteps := 2000000) (disch := omega) only [go_sem, seval] | ((with_reducible refine isS ?_); first | refine cSA (h1) ?_ | refine cSA (h3) ?_ | refine cS (h4) ?_ | refine cPn (gMustNo) ?_ | fail) | ((with_reducible refine isX ?_); exact f_panE []) | ((with_reducible refine isI ?_ ?_); (kernel_rfl)) | fail)
      · refine sh_start mixed F80 rfl ⟨(by first | exact rfl | (simp only [go_sem, seval]; done) | (simp only [go_sem, seval]; exact rfl)), (by first | exact rfl | (simp only [go_sem, seval]; done) | (simp only [go_sem, seval]; exact rfl)), (by first | exact rfl | (simp only [go_sem, seval]; done) | (simp only [go_sem, seval]; exact rfl)), (by first | exact rfl | (simp only [go_sem, seval]; done) | (simp only [go_sem, seval]; exact rfl)), (by first | exact rfl | (simp only [go_sem, seval]; done) | (simp only [go_sem, seval]; exact rfl))⟩ ?_
        repeat' (first | (with_reducible exact trivial) | simp (maxSteps := 2000000) (disch := omega) only [go_sem, seval] | ((with_reducible refine isS ?_); first | refine cSA (h1) ?_ | refine cSA (h3) ?_ | refine cS (h4) ?_ | refine cPn (gMustNo) ?_ | fail) | ((with_reducible refine isX ?_); exact f_panE []) | ((with_reducible refine isI ?_ ?_); (kernel_rfl)) | fail)
set_option maxHeartbeats 4000000 in
theorem gR4 (r : List UInt8) (hr : r.length ≤ 80000) : Go.Shade.Good Tryd.prog Γ 75 [.ptr 0 0, .ptr 1 0] (rPre r 4) (rdE (rd4 r)) (rdPost (rd4 r)) := by
  match r, hr with
  | [], _ =>
    refine sh_start mixed F75 rfl ⟨(by first | exact rfl | (simp only [go_sem, seval]; done) | (simp only [go_sem, seval]; exact rfl)), (by first | exact rfl | (simp only [go_sem, seval]; done) | (simp only [go_sem, seval]; exact rfl)), (by first | exact rfl | (simp only [go_sem, seval]; done) | (simp only [go_sem, seval]; exact rfl)), (by first | exact rfl | (simp only [go_sem, seval]; done) | (simp only [go_sem, seval]; exact rfl)), (by first | exact rfl | (simp only [go_sem, seval]; done) | (simp only [go_sem, seval]; exact rfl))⟩ ?_
    repeat' (first | (with_reducible exact trivial) | simp (maxSteps := 2000000) (disch := omega) only [go_sem, seval] | ((with_reducible refine isS ?_); first | refine cPn (gOneNo) ?_ | fail) | ((with_reducible refine isX ?_); exact f_panE []) | ((with_reducible refine isI ?_ ?_); (kernel_rfl)) | fail)
  | x :: r, hr =>
    rw [List.length_cons] at hr
    rw [rd4]
    by_cases h0 : x.toNat = 0
    · rw [if_pos h0]
      have h0' : ((x.toNat : Nat) : Int) = 0 := by omega
      refine sh_start mixed F75 rfl ⟨(by first | exact rfl | (simp only [go_sem, seval]; done) | (simp only [go_sem, seval]; exact rfl)), (by first | exact rfl | (simp only [go_sem, seval]; done) | (simp only [go_sem, seval]; exact rfl)), (by first | exact rfl | (simp only [go_sem, seval]; done) | (simp only [go_sem, seval]; exact rfl)), (by first | exact rfl | (simp only [go_sem, seval]; done) | (simp only [go_sem, seval]; exact rfl)), (by first | exact rfl | (simp only [go_sem, seval]; done) | (simp only [go_sem, seval]; exact rfl))⟩ ?_
      repeat' (first | (with_reducible exact trivial) | simp (maxSteps := 2000000) (disch := omega) only [zS, h0', go_sem, seval] | ((with_reducible refine isS ?_); first | refine cSA (gOneE x r (by omega)) ?_ | refine cS (gMustOk) ?_ | fail) | ((with_reducible refine isE ?_); refine eA ?_; (repeat' (first | exact le_mq0 rfl | exact le_mq0r rfl | exact le_jk50 (by simp only [List.length_cons, List.length_append, mq_len, List.length_nil]) | refine le_mqr ?_ | refine le_mq ?_ | exact trivial | refine le_int ?_ | refine le_bool ?_ | refine le_str ?_ | refine le_sl ?_ | refine le_own ?_ | refine le_osl ?_ | refine le_nsl ?_ | exact rfl | refine ⟨?_, ?_⟩ | fail))) | ((with_reducible refine isI ?_ ?_); (kernel_rfl)) | fail)
    · rw [if_neg h0]
      by_cases h1 : x.toNat = 1
      · rw [if_pos h1]
        have h1' : ((x.toNat : Nat) : Int) = 1 := by omega
        match r, hr with
        | [], _ =>
          refine sh_start mixed F75 rfl ⟨(by first | exact rfl | (simp only [go_sem, seval]; done) | (simp only [go_sem, seval]; exact rfl)), (by first | exact rfl | (simp only [go_sem, seval]; done) | (simp only [go_sem, seval]; exact rfl)), (by first | exact rfl | (simp only [go_sem, seval]; done) | (simp only [go_sem, seval]; exact rfl)), (by first | exact rfl | (simp only [go_sem, seval]; done) | (simp only [go_sem, seval]; exact rfl)), (by first | exact rfl | (simp only [go_sem, seval]; done) | (simp only [go_sem, seval]; exact rfl))⟩ ?_
          repeat' (first | (with_reducible exact trivial) | simp (maxSteps := 2000000) (disch := omega) only [h1', go_sem, seval] | ((with_reducible refine isS ?_); first | refine cSA (gOneE x [] (by simp)) ?_ | refine cS (gMustOk) ?_ | refine cPn (gOneNo) ?_ | fail) | ((with_reducible refine isX ?_); exact f_panE []) | ((with_reducible refine isI ?_ ?_); (kernel_rfl)) | fail)
        | l :: r, hr =>
          rw [List.length_cons] at hr
          rw [rd4b]
          have e1 := gOneE (Γ := Γ) x (l :: r) (by rw [List.length_cons]; omega)
          have e2 := gOneE (Γ := Γ) l r (by omega)
          by_cases hl : l.toNat ≤ r.length
          · have e3 := gEye (Γ := Γ) l.toNat r hl (by omega)
            have hlt : (r.take l.toNat).length = l.toNat := by rw [List.length_take]; omega
            have e4 := gGet (Γ := Γ) (r.take l.toNat) (by omega)
            rw [hlt] at e4
            by_cases h32 : l.toNat ≤ 32
            · rw [if_pos h32, if_pos h32] at e4
              have e5 := gPut (Γ := Γ) (padM (r.take l.toNat))
              rw [trim_pad (b := r.take l.toNat) (by omega)] at e5
              by_cases ht : trimR (· == 0) (r.take l.toNat) = r.take l.toNat
              · rw [if_pos ⟨hl, h32, ht⟩]
                rw [ht] at e5
                refine sh_start mixed F75 rfl ⟨(by first | exact rfl | (simp only [go_sem, seval]; done) | (simp only [go_sem, seval]; exact rfl)), (by first | exact rfl | (simp only [go_sem, seval]; done) | (simp only [go_sem, seval]; exact rfl)), (by first | exact rfl | (simp only [go_sem, seval]; done) | (simp only [go_sem, seval]; exact rfl)), (by first | exact rfl | (simp only [go_sem, seval]; done) | (simp only [go_sem, seval]; exact rfl)), (by first | exact rfl | (simp only [go_sem, seval]; done) | (simp only [go_sem, seval]; exact rfl))⟩ ?_
                repeat' (first | (with_reducible exact trivial) | simp (maxSteps := 2000000) (disch := omega) only [zS, h1', decide_true, eq_self, go_sem, seval] | ((with_reducible refine isS ?_); first | refine cSA (e1) ?_ | refine cS (gMustOk) ?_ | refine cSA (e2) ?_ | refine cSA (e3) ?_ | refine cS (e4) ?_ | refine cS (e5) ?_ | refine cS (gEqual (r.take l.toNat) (r.take l.toNat)) ?_ | fail) | ((with_reducible refine isE ?_); refine eA ?_; (repeat' (first | exact le_mq0 rfl | exact le_mq0r rfl | exact le_jk50 (by simp only [List.length_cons, List.length_append, mq_len, List.length_nil]) | refine le_mqr ?_ | refine le_mq ?_ | exact trivial | refine le_int ?_ | refine le_bool ?_ | refine le_str ?_ | refine le_sl ?_ | refine le_own ?_ | refine le_osl ?_ | refine le_nsl ?_ | exact rfl | refine ⟨?_, ?_⟩ | fail))) | ((with_reducible refine isI ?_ ?_); (kernel_rfl)) | fail)
              · rw [if_neg (fun k => ht k.2.2)]
                refine sh_start mixed F75 rfl ⟨(by first | exact rfl | (simp only [go_sem, seval]; done) | (simp only [go_sem, seval]; exact rfl)), (by first | exact rfl | (simp only [go_sem, seval]; done) | (simp only [go_sem, seval]; exact rfl)), (by first | exact rfl | (simp only [go_sem, seval]; done) | (simp only [go_sem, seval]; exact rfl)), (by first | exact rfl | (simp only [go_sem, seval]; done) | (simp only [go_sem, seval]; exact rfl)), (by first | exact rfl | (simp only [go_sem, seval]; done) | (simp only [go_sem, seval]; exact rfl))⟩ ?_
                repeat' (first | (with_reducible exact trivial) | simp (maxSteps := 2000000) (disch := omega) only [h1', ht, decide_false, go_sem, seval] | ((with_reducible refine isS ?_); first | refine cSA (e1) ?_ | refine cS (gMustOk) ?_ | refine cPn (gMustNo) ?_ | refine cSA (e2) ?_ | refine cSA (e3) ?_ | refine cS (e4) ?_ | refine cS (e5) ?_ | refine cS (gEqual (trimR (· == 0) (r.take l.toNat)) (r.take l.toNat)) ?_ | fail) | ((with_reducible refine isX ?_); exact f_panE []) | ((with_reducible refine isI ?_ ?_); (kernel_rfl)) | fail)
            · rw [if_neg h32, if_neg h32] at e4
              rw [if_neg (fun k => h32 k.2.1)]
              refine sh_start mixed F75 rfl ⟨(by first | exact rfl | (simp only [go_sem, seval]; done) | (simp only [go_sem, seval]; exact rfl)), (by first | exact rfl | (simp only [go_sem, seval]; done) | (simp only [go_sem, seval]; exact rfl)), (by first | exact rfl | (simp only [go_sem, seval]; done) | (simp only [go_sem, seval]; exact rfl)), (by first | exact rfl | (simp only [go_sem, seval]; done) | (simp only [go_sem, seval]; exact rfl)), (by first | exact rfl | (simp only [go_sem, seval]; done) | (simp only [go_sem, seval]; exact rfl))⟩ ?_
              repeat' (first | (with_reducible exact trivial) | simp (maxSteps := 2000000) (disch := omega) only [h1', go_sem, seval] | ((with_reducible refine isS ?_); first | refine cSA (e1) ?_ | refine cS (gMustOk) ?_ | refine cPn (gMustNo) ?_ | refine cSA (e2) ?_ | refine cSA (e3) ?_ | refine cS (e4) ?_ | fail) | ((with_reducible refine isX ?_); exact f_panE []) | ((with_reducible refine isI ?_ ?_); (kernel_rfl)) | fail)
          · rw [if_neg (fun k => hl k.1)]
            have e3 := gEyeNo (Γ := Γ) l.toNat r hl (by omega)
            refine sh_start mixed F75 rfl ⟨(by first | exact rfl | (simp only [go_sem, seval]; done) | (simp only [go_sem, seval]; exact rfl)), (by first | exact rfl | (simp only [go_sem, seval]; done) | (simp only [go_sem, seval]; exact rfl)), (by first | exact rfl | (simp only [go_sem, seval]; done) | (simp only [go_sem, seval]; exact rfl)), (by first | exact rfl | (simp only [go_sem, seval]; done) | (simp only [go_sem, seval]; exact rfl)), (by first | exact rfl | (simp only [go_sem, seval]; done) | (simp only [go_sem, seval]; exact rfl))⟩ ?_
            repeat' (first | (with_reducible exact trivial) | simp (maxSteps := 2000000) (disch := omega) only [h1', go_sem, seval] | ((with_reducible refine isS ?_); first | refine cSA (e1) ?_ | refine cS (gMustOk) ?_ | refine cSA (e2) ?_ | refine cPn (e3) ?_ | fail) | ((with_reducible refine isX ?_); exact f_panE []) | ((with_reducible refine isI ?_ ?_); (kernel_rfl)) | fail)
      · rw [if_neg h1]
        refine sh_start mixed F75 rfl ⟨(by first | exact rfl | (simp only [go_sem, seval]; done) | (simp only [go_sem, seval]; exact rfl)), (by first | exact rfl | (simp only [go_sem, seval]; done) | (simp only [go_sem, seval]; exact rfl)), (by first | exact rfl | (simp only [go_sem, seval]; done) | (simp only [go_sem, seval]; exact rfl)), (by first | exact rfl | (simp only [go_sem, seval]; done) | (simp only [go_sem, seval]; exact rfl)), (by first | exact rfl | (simp only [go_sem, seval]; done) | (simp only [go_sem, seval]; exact rfl))⟩ ?_
        repeat' (first | (with_reducible exact trivial) | simp (maxSteps := 2000000) (disch := omega) only [go_sem, seval] | ((with_reducible refine isS ?_); first | refine cSA (gOneE x r (by omega)) ?_ | refine cPn (gMustNo) ?_ | fail) | ((with_reducible refine isX ?_); exact f_panE []) | ((with_reducible refine isI ?_ ?_); (kernel_rfl)) | fail)
end Go.Proofs.YtlijecknkpcgfaaDoor
