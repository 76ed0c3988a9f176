/- Layer 22: how the kinds' parts are read. Own work. -/
import Derived.Test.YtlijecknkpcgfaaDoorVb
import Derived.Test.YtlijecknkpcgfaaDoorScb
import Derived.Test.YtlijecknkpcgfaaDoorVt
namespace Go.Proofs.YtlijecknkpcgfaaDoor
open Go Go.Shade
variable {Γ : Globs}
def rdPost : Option (Stp × List UInt8) → ML
  | some (t, r) => [(0, .box [.sl 1 (bys r)] false), (1, .box (sC t) false)]
  | none => [(0, .dead), (1, .box jk50 false)]
def rdE : Option (Stp × List UInt8) → AE
  | some _ => .ret (.tup [])
  | none => .pan vBroken
attribute [go_sem] rdPost rdE
/-- A new step's cells, its kind set. -/
def sZ (k : Int) : List AV := .int .i64 k :: .int .i64 0 :: .int .i64 0 :: .int .u8 0 :: .bool false :: .bool false :: (mq .zero ++ [.int .i64 0, .int .i64 0, .bool false, .bool false, .bool false, .int .u8 0, .p (.s (.slice none 0 0)), fA 0, fA 0, fA 0, fA 0, .int .u64 0])
attribute [go_sem] sZ
abbrev rPre (r : List UInt8) (k : Int) : ML := [(0, .box [.sl 1 (bys r)] false), (1, .box (sZ k) false)]
theorem gR0 (r : List UInt8) (hr : r.length ≤ 80000) : Go.Shade.Good Tryd.prog Γ 63 [.ptr 0 0, .ptr 1 0] (rPre r 0) (rdE (rd0 r)) (rdPost (rd0 r)) := by
  match r, hr with
  | [], _ =>
    refine sh_start mixed F63 rfl ⟨(by first | exact rfl | (simp only [go_sem, seval]; done) | (simp only [go_sem, seval]; exact rfl)), (by first | exact rfl | (simp only [go_sem, seval]; done) | (simp only [go_sem, seval]; exact rfl)), (by first | exact rfl | (simp only [go_sem, seval]; done) | (simp only [go_sem, seval]; exact rfl)), (by first | exact rfl | (simp only [go_sem, seval]; done) | (simp only [go_sem, seval]; exact rfl)), (by first | exact rfl | (simp only [go_sem, seval]; done) | (simp only [go_sem, seval]; exact rfl))⟩ ?_
    repeat' (first | (with_reducible exact trivial) | simp (maxSteps := 2000000) (disch := omega) only [go_sem, seval] | ((with_reducible refine isS ?_); first | refine cPn (gOneNo) ?_ | fail) | ((with_reducible refine isX ?_); exact f_panE []) | ((with_reducible refine isI ?_ ?_); (kernel_rfl)) | fail)
  | x :: r, hr =>
    rw [List.length_cons] at hr
    refine sh_start mixed F63 rfl ⟨(by first | exact rfl | (simp only [go_sem, seval]; done) | (simp only [go_sem, seval]; exact rfl)), (by first | exact rfl | (simp only [go_sem, seval]; done) | (simp only [go_sem, seval]; exact rfl)), (by first | exact rfl | (simp only [go_sem, seval]; done) | (simp only [go_sem, seval]; exact rfl)), (by first | exact rfl | (simp only [go_sem, seval]; done) | (simp only [go_sem, seval]; exact rfl)), (by first | exact rfl | (simp only [go_sem, seval]; done) | (simp only [go_sem, seval]; exact rfl))⟩ ?_
    repeat' (first | (with_reducible exact trivial) | simp (maxSteps := 2000000) (disch := omega) only [wrapU8, u8_to, go_sem, seval] | ((with_reducible refine isS ?_); first | refine cSA (gOneE x r (by omega)) ?_ | fail) | ((with_reducible refine isE ?_); refine eA ?_; (repeat' (first | exact le_mq0 rfl | exact le_mq0r rfl | exact le_jk50 (by simp only [List.length_cons, List.length_append, mq_len, List.length_nil]) | refine le_mqr ?_ | refine le_mq ?_ | exact trivial | refine le_int ?_ | refine le_bool ?_ | refine le_str ?_ | refine le_sl ?_ | refine le_own ?_ | refine le_osl ?_ | refine le_nsl ?_ | exact rfl | refine ⟨?_, ?_⟩ | fail))) | ((with_reducible refine isI ?_ ?_); (kernel_rfl)) | fail)
theorem gR3 (r : List UInt8) (hr : r.length ≤ 80000) : Go.Shade.Good Tryd.prog Γ 71 [.ptr 0 0, .ptr 1 0] (rPre r 3) (rdE (rd3 r)) (rdPost (rd3 r)) := by
  match r, hr with
  | [], _ =>
    refine sh_start mixed F71 rfl ⟨(by first | exact rfl | (simp only [go_sem, seval]; done) | (simp only [go_sem, seval]; exact rfl)), (by first | exact rfl | (simp only [go_sem, seval]; done) | (simp only [go_sem, seval]; exact rfl)), (by first | exact rfl | (simp only [go_sem, seval]; done) | (simp only [go_sem, seval]; exact rfl)), (by first | exact rfl | (simp only [go_sem, seval]; done) | (simp only [go_sem, seval]; exact rfl)), (by first | exact rfl | (simp only [go_sem, seval]; done) | (simp only [go_sem, seval]; exact rfl))⟩ ?_
    repeat' (first | (with_reducible exact trivial) | simp (maxSteps := 2000000) (disch := omega) only [go_sem, seval] | ((with_reducible refine isS ?_); first | refine cPn (gOneNo) ?_ | fail) | ((with_reducible refine isX ?_); exact f_panE []) | ((with_reducible refine isI ?_ ?_); (kernel_rfl)) | fail)
  | x :: r, hr =>
    rw [List.length_cons] at hr
    refine sh_start mixed F71 rfl ⟨(by first | exact rfl | (simp only [go_sem, seval]; done) | (simp only [go_sem, seval]; exact rfl)), (by first | exact rfl | (simp only [go_sem, seval]; done) | (simp only [go_sem, seval]; exact rfl)), (by first | exact rfl | (simp only [go_sem, seval]; done) | (simp only [go_sem, seval]; exact rfl)), (by first | exact rfl | (simp only [go_sem, seval]; done) | (simp only [go_sem, seval]; exact rfl)), (by first | exact rfl | (simp only [go_sem, seval]; done) | (simp only [go_sem, seval]; exact rfl))⟩ ?_
    repeat' (first | (with_reducible exact trivial) | simp (maxSteps := 2000000) (disch := omega) only [go_sem, seval] | ((with_reducible refine isS ?_); first | refine cSA (gOneE x r (by omega)) ?_ | fail) | ((with_reducible refine isE ?_); refine eA ?_; (repeat' (first | exact le_mq0 rfl | exact le_mq0r rfl | exact le_jk50 (by simp only [List.length_cons, List.length_append, mq_len, List.length_nil]) | refine le_mqr ?_ | refine le_mq ?_ | exact trivial | refine le_int ?_ | refine le_bool ?_ | refine le_str ?_ | refine le_sl ?_ | refine le_own ?_ | refine le_osl ?_ | refine le_nsl ?_ | exact rfl | refine ⟨?_, ?_⟩ | fail))) | ((with_reducible refine isI ?_ ?_); (kernel_rfl)) | fail)
theorem gR1 (r : List UInt8) (hr : r.length ≤ 80000) : Go.Shade.Good Tryd.prog Γ 65 [.ptr 0 0, .ptr 1 0] (rPre r 1) (rdE (rd1 r)) (rdPost (rd1 r)) := by
  match r, hr with
  | [], _ =>
    refine sh_start mixed F65 rfl ⟨(by first | exact rfl | (simp only [go_sem, seval]; done) | (simp only [go_sem, seval]; exact rfl)), (by first | exact rfl | (simp only [go_sem, seval]; done) | (simp only [go_sem, seval]; exact rfl)), (by first | exact rfl | (simp only [go_sem, seval]; done) | (simp only [go_sem, seval]; exact rfl)), (by first | exact rfl | (simp only [go_sem, seval]; done) | (simp only [go_sem, seval]; exact rfl)), (by first | exact rfl | (simp only [go_sem, seval]; done) | (simp only [go_sem, seval]; exact rfl))⟩ ?_
    repeat' (first | (with_reducible exact trivial) | simp (maxSteps := 2000000) (disch := omega) only [go_sem, seval] | ((with_reducible refine isS ?_); first | refine cPn (gOneNo) ?_ | fail) | ((with_reducible refine isX ?_); exact f_panE []) | ((with_reducible refine isI ?_ ?_); (kernel_rfl)) | fail)
  | [x], _ =>
    refine sh_start mixed F65 rfl ⟨(by first | exact rfl | (simp only [go_sem, seval]; done) | (simp only [go_sem, seval]; exact rfl)), (by first | exact rfl | (simp only [go_sem, seval]; done) | (simp only [go_sem, seval]; exact rfl)), (by first | exact rfl | (simp only [go_sem, seval]; done) | (simp only [go_sem, seval]; exact rfl)), (by first | exact rfl | (simp only [go_sem, seval]; done) | (simp only [go_sem, seval]; exact rfl)), (by first | exact rfl | (simp only [go_sem, seval]; done) | (simp only [go_sem, seval]; exact rfl))⟩ ?_
    repeat' (first | (with_reducible exact trivial) | simp (maxSteps := 2000000) (disch := omega) only [go_sem, seval] | ((with_reducible refine isS ?_); first | refine cSA (gOneE x [] (by simp)) ?_ | refine cPn (gOneNo) ?_ | fail) | ((with_reducible refine isX ?_); exact f_panE []) | ((with_reducible refine isI ?_ ?_); (kernel_rfl)) | fail)
  | x :: y :: r, hr =>
    rw [List.length_cons, List.length_cons] at hr
    by_cases hx : x.toNat < 4
    · rw [rd1, if_pos hx]
      refine sh_start mixed F65 rfl ⟨(by first | exact rfl | (simp only [go_sem, seval]; done) | (simp only [go_sem, seval]; exact rfl)), (by first | exact rfl | (simp only [go_sem, seval]; done) | (simp only [go_sem, seval]; exact rfl)), (by first | exact rfl | (simp only [go_sem, seval]; done) | (simp only [go_sem, seval]; exact rfl)), (by first | exact rfl | (simp only [go_sem, seval]; done) | (simp only [go_sem, seval]; exact rfl)), (by first | exact rfl | (simp only [go_sem, seval]; done) | (simp only [go_sem, seval]; exact rfl))⟩ ?_
      repeat' (first | (with_reducible exact trivial) | simp (maxSteps := 2000000) (disch := omega) only [zS, go_sem, seval] | ((with_reducible refine isS ?_); first | refine cSA (gOneE x (y :: r) (by rw [List.length_cons]; omega)) ?_ | refine cSA (gOneE y r (by omega)) ?_ | refine cS (gMustOk) ?_ | fail) | ((with_reducible refine isE ?_); refine eA ?_; (repeat' (first | exact le_mq0 rfl | exact le_mq0r rfl | exact le_jk50 (by simp only [List.length_cons, List.length_append, mq_len, List.length_nil]) | refine le_mqr ?_ | refine le_mq ?_ | exact trivial | refine le_int ?_ | refine le_bool ?_ | refine le_str ?_ | refine le_sl ?_ | refine le_own ?_ | refine le_osl ?_ | refine le_nsl ?_ | exact rfl | refine ⟨?_, ?_⟩ | fail))) | ((with_reducible refine isI ?_ ?_); (kernel_rfl)) | fail)
    · rw [rd1, if_neg hx]
      refine sh_start mixed F65 rfl ⟨(by first | exact rfl | (simp only [go_sem, seval]; done) | (simp only [go_sem, seval]; exact rfl)), (by first | exact rfl | (simp only [go_sem, seval]; done) | (simp only [go_sem, seval]; exact rfl)), (by first | exact rfl | (simp only [go_sem, seval]; done) | (simp only [go_sem, seval]; exact rfl)), (by first | exact rfl | (simp only [go_sem, seval]; done) | (simp only [go_sem, seval]; exact rfl)), (by first | exact rfl | (simp only [go_sem, seval]; done) | (simp only [go_sem, seval]; exact rfl))⟩ ?_
      repeat' (first | (with_reducible exact trivial) | simp (maxSteps := 2000000) (disch := omega) only [go_sem, seval] | ((with_reducible refine isS ?_); first | refine cSA (gOneE x (y :: r) (by rw [List.length_cons]; omega)) ?_ | refine cSA (gOneE y r (by omega)) ?_ | refine cPn (gMustNo) ?_ | fail) | ((with_reducible refine isX ?_); exact f_panE []) | ((with_reducible refine isI ?_ ?_); (kernel_rfl)) | fail)
end Go.Proofs.YtlijecknkpcgfaaDoor
