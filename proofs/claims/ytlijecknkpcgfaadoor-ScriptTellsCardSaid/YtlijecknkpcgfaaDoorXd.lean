/- Layer 22: which steps may be, as the document says it. Own work. -/
import Derived.Test.YtlijecknkpcgfaaDoorXc
import Derived.Test.YtlijecknkpcgfaaDoorScb
namespace Go.Proofs.YtlijecknkpcgfaaDoor
open Go Go.Shade
variable {Γ : Globs}
def mixR (s : Stp) : Nat → Stp
  | 0 => s
  | 1 => { s with w0 := cn s.w0 }
  | 2 => { s with w0 := cn s.w0, w1 := cn s.w1 }
  | 3 => { s with w0 := cn s.w0, w1 := cn s.w1, w2 := cn s.w2 }
  | _ => { s with w0 := cn s.w0, w1 := cn s.w1, w2 := cn s.w2, w3 := cn s.w3 }
theorem may_dec {s : Stp} {p : Prop} [Decidable p] (h : mayV s ↔ p) : decide (mayV s) = decide p := decide_eq_decide.2 h
theorem may_fit {s : Stp} (h : s = partS s) : mayV s ↔ fitS s := ⟨fun k => k.2, fun k => ⟨h, k⟩⟩
theorem fit_1 {s : Stp} (h : s.kind = 1) : fitS s ↔ (0 ≤ s.who ∧ s.who ≤ 3) ∧ 0 ≤ s.n ∧ s.n ≤ 255 := by simp [fitS, h]
theorem fit_2 {s : Stp} (h : s.kind = 2) : fitS s ↔ (0 ≤ s.who ∧ s.who ≤ 1) ∧ 0 ≤ s.n ∧ s.n ≤ 3 := by simp [fitS, h]
theorem fit_3 {s : Stp} (h : s.kind = 3) : fitS s ↔ 0 ≤ s.n ∧ s.n ≤ 255 := by simp [fitS, h]
theorem fit_5 {s : Stp} (h : s.kind = 5) : fitS s ↔ (0 ≤ s.who ∧ s.who ≤ 1) ∧ mayT s.t := by simp [fitS, h]
theorem fit_6 {s : Stp} (h : s.kind = 6) : fitS s ↔ s.b.length ≤ 255 := by simp [fitS, h]
theorem mix_same (s : Stp) : s = mixR s 4 ↔ cn s.w0 = s.w0 ∧ cn s.w1 = s.w1 ∧ cn s.w2 = s.w2 ∧ cn s.w3 = s.w3 := by
  constructor
  · intro h
    exact ⟨(congrArg Stp.w0 h).symm, (congrArg Stp.w1 h).symm, (congrArg Stp.w2 h).symm, (congrArg Stp.w3 h).symm⟩
  · rintro ⟨a, b, c, d⟩
    show s = { s with w0 := cn s.w0, w1 := cn s.w1, w2 := cn s.w2, w3 := cn s.w3 }
    rw [a, b, c, d]
theorem fit_7 {s : Stp} (h : s.kind = 7) : fitS s ↔ (0 ≤ s.n ∧ s.n ≤ 255) ∧ s = mixR s 4 := by rw [mix_same]; simp [fitS, h]
theorem fit_0 {s : Stp} (h : s.kind = 0) : fitS s := .inl (.inl h)
theorem fit_4 {s : Stp} (h : s.kind = 4) : fitS s := .inl (.inr h)
theorem fit_no {s : Stp} (h0 : s.kind ≠ 0) (h1 : s.kind ≠ 1) (h2 : s.kind ≠ 2) (h3 : s.kind ≠ 3) (h4 : s.kind ≠ 4) (h5 : s.kind ≠ 5) (h6 : s.kind ≠ 6) (h7 : s.kind ≠ 7) : ¬ fitS s := by
  simp [fitS, h0, h1, h2, h3, h4, h5, h6, h7]
set_option maxHeartbeats 16000000 in
theorem gRMayS (s : Stp) (hi : inS s) : Go.Shade.Good Tryd.prog Γ 19 [sV s] [] (.ret (.bool (decide (mayV s)))) [] := by
  have g1 := gPartsV (Γ := Γ) s
  have g2 := gOneS (Γ := Γ) s (partS s)
  by_cases hp : s = partS s
  · rw [decide_eq_true hp] at g2
    rw [← hp] at g1 g2
    by_cases h0 : s.kind = 0
    · rw [decide_eq_true ((may_fit hp).2 (fit_0 h0))]
      simp only [sV, sC, h0] at g1 g2
      refine sh_start mixed F19 rfl ⟨(by first | exact rfl | (simp only [go_sem, seval]; done) | (simp only [go_sem, seval]; exact rfl)), (by first | exact rfl | (simp only [go_sem, seval]; done) | (simp only [go_sem, seval]; exact rfl)), (by first | exact rfl | (simp only [go_sem, seval]; done) | (simp only [go_sem, seval]; exact rfl)), (by first | exact rfl | (simp only [go_sem, seval]; done) | (simp only [go_sem, seval]; exact rfl)), (by first | exact rfl | (simp only [go_sem, seval]; done) | (simp only [go_sem, seval]; exact rfl))⟩ ?_
      repeat' (first | (with_reducible exact trivial) | simp (maxSteps := 2000000) (disch := omega) only [h0, go_sem, seval] | ((with_reducible refine isS ?_); first | refine cS (g1) ?_ | refine cS (g2) ?_ | fail) | ((with_reducible refine isT ?_); first | refine cT (g1) ?_ | refine cT (g2) ?_ | fail) | ((with_reducible refine isE ?_); refine eA ?_; (repeat' (first | exact le_mq0 rfl | exact le_mq0r rfl | exact le_jk50 (by simp only [List.length_cons, List.length_append, mq_len, List.length_nil]) | refine le_mqr ?_ | refine le_mq ?_ | exact trivial | refine le_int ?_ | refine le_bool ?_ | refine le_str ?_ | refine le_sl ?_ | refine le_own ?_ | refine le_osl ?_ | refine le_nsl ?_ | exact rfl | refine ⟨?_, ?_⟩ | fail))) | ((with_reducible refine isI ?_ ?_); (kernel_rfl)) | fail)
    by_cases h4 : s.kind = 4
    · rw [decide_eq_true ((may_fit hp).2 (fit_4 h4))]
      simp only [sV, sC, h4] at g1 g2
      refine sh_start mixed F19 rfl ⟨(by first | exact rfl | (simp only [go_sem, seval]; done) | (simp only [go_sem, seval]; exact rfl)), (by first | exact rfl | (simp only [go_sem, seval]; done) | (simp only [go_sem, seval]; exact rfl)), (by first | exact rfl | (simp only [go_sem, seval]; done) | (simp only [go_sem, seval]; exact rfl)), (by first | exact rfl | (simp only [go_sem, seval]; done) | (simp only [go_sem, seval]; exact rfl)), (by first | exact rfl | (simp only [go_sem, seval]; done) | (simp only [go_sem, seval]; exact rfl))⟩ ?_
      repeat' (first | (with_reducible exact trivial) | simp (maxSteps := 2000000) (disch := omega) only [h4, go_sem, seval] | ((with_reducible refine isS ?_); first | refine cS (g1) ?_ | refine cS (g2) ?_ | fail) | ((with_reducible refine isT ?_); first | refine cT (g1) ?_ | refine cT (g2) ?_ | fail) | ((with_reducible refine isE ?_); refine eA ?_; (repeat' (first | exact le_mq0 rfl | exact le_mq0r rfl | exact le_jk50 (by simp only [List.length_cons, List.length_append, mq_len, List.length_nil]) | refine le_mqr ?_ | refine le_mq ?_ | exact trivial | refine le_int ?_ | refine le_bool ?_ | refine le_str ?_ | refine le_sl ?_ | refine le_own ?_ | refine le_osl ?_ | refine le_nsl ?_ | exact rfl | refine ⟨?_, ?_⟩ | fail))) | ((with_reducible refine isI ?_ ?_); (kernel_rfl)) | fail)
    by_cases h1 : s.kind = 1
    · rw [may_dec ((may_fit hp).trans (fit_1 h1))]
      have a1 := gWithin (Γ := Γ) s.who 3
      have a2 := gWithin (Γ := Γ) s.n 255
      simp only [sV, sC, h1] at g1 g2
      by_cases c1 : 0 ≤ s.who ∧ s.who ≤ 3
      · rw [decide_eq_true c1] at a1
        by_cases c2 : 0 ≤ s.n ∧ s.n ≤ 255
        · rw [decide_eq_true c2] at a2
          rw [decide_eq_true ⟨c1, c2⟩]
          refine sh_start mixed F19 rfl ⟨(by first | exact rfl | (simp only [go_sem, seval]; done) | (simp only [go_sem, seval]; exact rfl)), (by first | exact rfl | (simp only [go_sem, seval]; done) | (simp only [go_sem, seval]; exact rfl)), (by first | exact rfl | (simp only [go_sem, seval]; done) | (simp only [go_sem, seval]; exact rfl)), (by first | exact rfl | (simp only [go_sem, seval]; done) | (simp only [go_sem, seval]; exact rfl)), (by first | exact rfl | (simp only [go_sem, seval]; done) | (simp only [go_sem, seval]; exact rfl))⟩ ?_
          repeat' (first | (with_reducible exact trivial) | simp (maxSteps := 2000000) (disch := omega) only [h1, go_sem, seval] | ((with_reducible refine isS ?_); first | refine cS (g1) ?_ | refine cS (g2) ?_ | refine cS (a1) ?_ | refine cS (a2) ?_ | fail) | ((with_reducible refine isT ?_); first | refine cT (g1) ?_ | refine cT (g2) ?_ | refine cT (a1) ?_ | refine cT (a2) ?_ | fail) | ((with_reducible refine isE ?_); refine eA ?_; (repeat' (first | exact le_mq0 rfl | exact le_mq0r rfl | exact le_jk50 (by simp only [List.length_cons, List.length_append, mq_len, List.length_nil]) | refine le_mqr ?_ | refine le_mq ?_ | exact trivial | refine le_int ?_ | refine le_bool ?_ | refine le_str ?_ | refine le_sl ?_ | refine le_own ?_ | refine le_osl ?_ | refine le_nsl ?_ | exact rfl | refine ⟨?_, ?_⟩ | fail))) | ((with_reducible refine isI ?_ ?_); (kernel_rfl)) | fail)
        · rw [decide_eq_false c2] at a2
          rw [decide_eq_false (fun k => c2 k.2)]
          refine sh_start mixed F19 rfl ⟨(by first | exact rfl | (simp only [go_sem, seval]; done) | (simp only [go_sem, seval]; exact rfl)), (by first | exact rfl | (simp only [go_sem, seval]; done) | (simp only [go_sem, seval]; exact rfl)), (by first | exact rfl | (simp only [go_sem, seval]; done) | (simp only [go_sem, seval]; exact rfl)), (by first | exact rfl | (simp only [go_sem, seval]; done) | (simp only [go_sem, seval]; exact rfl)), (by first | exact rfl | (simp only [go_sem, seval]; done) | (simp only [go_sem, seval]; exact rfl))⟩ ?_
          repeat' (first | (with_reducible exact trivial) | simp (maxSteps := 2000000) (disch := omega) only [h1, go_sem, seval] | ((with_reducible refine isS ?_); first | refine cS (g1) ?_ | refine cS (g2) ?_ | refine cS (a1) ?_ | refine cS (a2) ?_ | fail) | ((with_reducible refine isT ?_); first | refine cT (g1) ?_ | refine cT (g2) ?_ | refine cT (a1) ?_ | refine cT (a2) ?_ | fail) | ((with_reducible refine isE ?_); refine eA ?_; (repeat' (first | exact le_mq0 rfl | exact le_mq0r rfl | exact le_jk50 (by simp only [List.length_cons, List.length_append, mq_len, List.length_nil]) | refine le_mqr ?_ | refine le_mq ?_ | exact trivial | refine le_int ?_ | refine le_bool ?_ | refine le_str ?_ | refine le_sl ?_ | refine le_own ?_ | refine le_osl ?_ | refine le_nsl ?_ | exact rfl | refine ⟨?_, ?_⟩ | fail))) | ((with_reducible refine isI ?_ ?_); (kernel_rfl)) | fail)
      · rw [decide_eq_false c1] at a1
        rw [decide_eq_false (fun k => c1 k.1)]
        refine sh_start mixed F19 rfl ⟨(by first | exact rfl | (simp only [go_sem, seval]; done) | (simp only [go_sem, seval]; exact rfl)), (by first | exact rfl | (simp only [go_sem, seval]; done) | (simp only [go_sem, seval]; exact rfl)), (by first | exact rfl | (simp only [go_sem, seval]; done) | (simp only [go_sem, seval]; exact rfl)), (by first | exact rfl | (simp only [go_sem, seval]; done) | (simp only [go_sem, seval]; exact rfl)), (by first | exact rfl | (simp only [go_sem, seval]; done) | (simp only [go_sem, seval]; exact rfl))⟩ ?_
        repeat' (first | (with_reducible exact trivial) | simp (maxSteps := 2000000) (disch := omega) only [h1, go_sem, seval] | ((with_reducible refine isS ?_); first | refine cS (g1) ?_ | refine cS (g2) ?_ | refine cS (a1) ?_ | fail) | ((with_reducible refine isT ?_); first | refine cT (g1) ?_ | refine cT (g2) ?_ | refine cT (a1) ?_ | fail) | ((with_reducible refine isE ?_); refine eA ?_; (repeat' (first | exact le_mq0 rfl | exact le_mq0r rfl | exact le_jk50 (by simp only [List.length_cons, List.length_append, mq_len, List.length_nil]) | refine le_mqr ?_ | refine le_mq ?_ | exact trivial | refine le_int ?_ | refine le_bool ?_ | refine le_str ?_ | refine le_sl ?_ | refine le_own ?_ | refine le_osl ?_ | refine le_nsl ?_ | exact rfl | refine ⟨?_, ?_⟩ | fail))) | ((with_reducible refine isI ?_ ?_); (kernel_rfl)) | fail)
    by_cases h2 : s.kind = 2
    · rw [may_dec ((may_fit hp).trans (fit_2 h2))]
      have a1 := gWithin (Γ := Γ) s.who 1
      have a2 := gWithin (Γ := Γ) s.n 3
      simp only [sV, sC, h2] at g1 g2
      by_cases c1 : 0 ≤ s.who ∧ s.who ≤ 1
      · rw [decide_eq_true c1] at a1
        by_cases c2 : 0 ≤ s.n ∧ s.n ≤ 3
        · rw [decide_eq_true c2] at a2
          rw [decide_eq_true ⟨c1, c2⟩]
          refine sh_start mixed F19 rfl ⟨(by first | exact rfl | (simp only [go_sem, seval]; done) | (simp only [go_sem, seval]; exact rfl)), (by first | exact rfl | (simp only [go_sem, seval]; done) | (simp only [go_sem, seval]; exact rfl)), (by first | exact rfl | (simp only [go_sem, seval]; done) | (simp only [go_sem, seval]; exact rfl)), (by first | exact rfl | (simp only [go_sem, seval]; done) | (simp only [go_sem, seval]; exact rfl)), (by first | exact rfl | (simp only [go_sem, seval]; done) | (simp only [go_sem, seval]; exact rfl))⟩ ?_
          repeat' (first | (with_reducible exact trivial) | simp (maxSteps := 2000000) (disch := omega) only [h2, go_sem, seval] | ((with_reducible refine isS ?_); first | refine cS (g1) ?_ | refine cS (g2) ?_ | refine cS (a1) ?_ | refine cS (a2) ?_ | fail) | ((with_reducible refine isT ?_); first | refine cT (g1) ?_ | refine cT (g2) ?_ | refine cT (a1) ?_ | refine cT (a2) ?_ | fail) | ((with_reducible refine isE ?_); refine eA ?_; (repeat' (first | exact le_mq0 rfl | exact le_mq0r rfl | exact le_jk50 (by simp only [List.length_cons, List.length_append, mq_len, List.length_nil]) | refine le_mqr ?_ | refine le_mq ?_ | exact trivial | refine le_int ?_ | refine le_bool ?_ | refine le_str ?_ | refine le_sl ?_ | refine le_own ?_ | refine le_osl ?_ | refine le_nsl ?_ | exact rfl | refine ⟨?_, ?_⟩ | fail))) | ((with_reducible refine isI ?_ ?_); (kernel_rfl)) | fail)
        · rw [decide_eq_false c2] at a2
          rw [decide_eq_false (fun k => c2 k.2)]
          refine sh_start mixed F19 rfl ⟨(by first | exact rfl | (simp only [go_sem, seval]; done) | (simp only [go_sem, seval]; exact rfl)), (by first | exact rfl | (simp only [go_sem, seval]; done) | (simp only [go_sem, seval]; exact rfl)), (by first | exact rfl | (simp only [go_sem, seval]; done) | (simp only [go_sem, seval]; exact rfl)), (by first | exact rfl | (simp only [go_sem, seval]; done) | (simp only [go_sem, seval]; exact rfl)), (by first | exact rfl | (simp only [go_sem, seval]; done) | (simp only [go_sem, seval]; exact rfl))⟩ ?_
          repeat' (first | (with_reducible exact trivial) | simp (maxSteps := 2000000) (disch := omega) only [h2, go_sem, seval] | ((with_reducible refine isS ?_); first | refine cS (g1) ?_ | refine cS (g2) ?_ | refine cS (a1) ?_ | refine cS (a2) ?_ | fail) | ((with_reducible refine isT ?_); first | refine cT (g1) ?_ | refine cT (g2) ?_ | refine cT (a1) ?_ | refine cT (a2) ?_ | fail) | ((with_reducible refine isE ?_); refine eA ?_; (repeat' (first | exact le_mq0 rfl | exact le_mq0r rfl | exact le_jk50 (by simp only [List.length_cons, List.length_append, mq_len, List.length_nil]) | refine le_mqr ?_ | refine le_mq ?_ | exact trivial | refine le_int ?_ | refine le_bool ?_ | refine le_str ?_ | refine le_sl ?_ | refine le_own ?_ | refine le_osl ?_ | refine le_nsl ?_ | exact rfl | refine ⟨?_, ?_⟩ | fail))) | ((with_reducible refine isI ?_ ?_); (kernel_rfl)) | fail)
      · rw [decide_eq_false c1] at a1
        rw [decide_eq_false (fun k => c1 k.1)]
        refine sh_start mixed F19 rfl ⟨(by first | exact rfl | (simp only [go_sem, seval]; done) | (simp only [go_sem, seval]; exact rfl)), (by first | exact rfl | (simp only [go_sem, seval]; done) | (simp only [go_sem, seval]; exact rfl)), (by first | exact rfl | (simp only [go_sem, seval]; done) | (simp only [go_sem, seval]; exact rfl)), (by first | exact rfl | (simp only [go_sem, seval]; done) | (simp only [go_sem, seval]; exact rfl)), (by first | exact rfl | (simp only [go_sem, seval]; done) | (simp only [go_sem, seval]; exact rfl))⟩ ?_
        repeat' (first | (with_reducible exact trivial) | simp (maxSteps := 2000000) (disch := omega) only [h2, go_sem, seval] | ((with_reducible refine isS ?_); first | refine cS (g1) ?_ | refine cS (g2) ?_ | refine cS (a1) ?_ | fail) | ((with_reducible refine isT ?_); first | refine cT (g1) ?_ | refine cT (g2) ?_ | refine cT (a1) ?_ | fail) | ((with_reducible refine isE ?_); refine eA ?_; (repeat' (first | exact le_mq0 rfl | exact le_mq0r rfl | exact le_jk50 (by simp only [List.length_cons, List.length_append, mq_len, List.length_nil]) | refine le_mqr ?_ | refine le_mq ?_ | exact trivial | refine le_int ?_ | refine le_bool ?_ | refine le_str ?_ | refine le_sl ?_ | refine le_own ?_ | refine le_osl ?_ | refine le_nsl ?_ | exact rfl | refine ⟨?_, ?_⟩ | fail))) | ((with_reducible refine isI ?_ ?_); (kernel_rfl)) | fail)
    by_cases h3 : s.kind = 3
    · rw [may_dec ((may_fit hp).trans (fit_3 h3))]
      have a2 := gWithin (Γ := Γ) s.n 255
      simp only [sV, sC, h3] at g1 g2
      refine sh_start mixed F19 rfl ⟨(by first | exact rfl | (simp only [go_sem, seval]; done) | (simp only [go_sem, seval]; exact rfl)), (by first | exact rfl | (simp only [go_sem, seval]; done) | (simp only [go_sem, seval]; exact rfl)), (by first | exact rfl | (simp only [go_sem, seval]; done) | (simp only [go_sem, seval]; exact rfl)), (by first | exact rfl | (simp only [go_sem, seval]; done) | (simp only [go_sem, seval]; exact rfl)), (by first | exact rfl | (simp only [go_sem, seval]; done) | (simp only [go_sem, seval]; exact rfl))⟩ ?_
      repeat' (first | (with_reducible exact trivial) | simp (maxSteps := 2000000) (disch := omega) only [h3, go_sem, seval] | ((with_reducible refine isS ?_); first | refine cS (g1) ?_ | refine cS (g2) ?_ | refine cS (a2) ?_ | fail) | ((with_reducible refine isT ?_); first | refine cT (g1) ?_ | refine cT (g2) ?_ | refine cT (a2) ?_ | fail) | ((with_reducible refine isE ?_); refine eA ?_; (repeat' (first | exact le_mq0 rfl | exact le_mq0r rfl | exact le_jk50 (by simp only [List.length_cons, List.length_append, mq_len, List.length_nil]) | refine le_mqr ?_ | refine le_mq ?_ | exact trivial | refine le_int ?_ | refine le_bool ?_ | refine le_str ?_ | refine le_sl ?_ | refine le_own ?_ | refine le_osl ?_ | refine le_nsl ?_ | exact rfl | refine ⟨?_, ?_⟩ | fail))) | ((with_reducible refine isI ?_ ?_); (kernel_rfl)) | fail)
    by_cases h5 : s.kind = 5
    · rw [may_dec ((may_fit hp).trans (fit_5 h5))]
      have a1 := gWithin (Γ := Γ) s.who 1
      have a2 := gMay (Γ := Γ) s.t
      simp only [sV, sC, h5] at g1 g2
      by_cases c1 : 0 ≤ s.who ∧ s.who ≤ 1
      · rw [decide_eq_true c1] at a1
        by_cases c2 : mayT s.t
        · rw [decide_eq_true c2] at a2
          rw [decide_eq_true ⟨c1, c2⟩]
          refine sh_start mixed F19 rfl ⟨(by first | exact rfl | (simp only [go_sem, seval]; done) | (simp only [go_sem, seval]; exact rfl)), (by first | exact rfl | (simp only [go_sem, seval]; done) | (simp only [go_sem, seval]; exact rfl)), (by first | exact rfl | (simp only [go_sem, seval]; done) | (simp only [go_sem, seval]; exact rfl)), (by first | exact rfl | (simp only [go_sem, seval]; done) | (simp only [go_sem, seval]; exact rfl)), (by first | exact rfl | (simp only [go_sem, seval]; done) | (simp only [go_sem, seval]; exact rfl))⟩ ?_
          repeat' (first | (with_reducible exact trivial) | simp (maxSteps := 2000000) (disch := omega) only [h5, go_sem, seval] | ((with_reducible refine isS ?_); first | refine cS (g1) ?_ | refine cS (g2) ?_ | refine cS (a1) ?_ | refine cS (a2) ?_ | fail) | ((with_reducible refine isT ?_); first | refine cT (g1) ?_ | refine cT (g2) ?_ | refine cT (a1) ?_ | refine cT (a2) ?_ | fail) | ((with_reducible refine isE ?_); refine eA ?_; (repeat' (first | exact le_mq0 rfl | exact le_mq0r rfl | exact le_jk50 (by simp only [List.length_cons, List.length_append, mq_len, List.length_nil]) | refine le_mqr ?_ | refine le_mq ?_ | exact trivial | refine le_int ?_ | refine le_bool ?_ | refine le_str ?_ | refine le_sl ?_ | refine le_own ?_ | refine le_osl ?_ | refine le_nsl ?_ | exact rfl | refine ⟨?_, ?_⟩ | fail))) | ((with_reducible refine isI ?_ ?_); (kernel_rfl)) | fail)
        · rw [decide_eq_false c2] at a2
          rw [decide_eq_false (fun k => c2 k.2)]
          refine sh_start mixed F19 rfl ⟨(by first | exact rfl | (simp only [go_sem, seval]; done) | (simp only [go_sem, seval]; exact rfl)), (by first | exact rfl | (simp only [go_sem, seval]; done) | (simp only [go_sem, seval]; exact rfl)), (by first | exact rfl | (simp only [go_sem, seval]; done) | (simp only [go_sem, seval]; exact rfl)), (by first | exact rfl | (simp only [go_sem, seval]; done) | (simp only [go_sem, seval]; exact rfl)), (by first | exact rfl | (simp only [go_sem, seval]; done) | (simp only [go_sem, seval]; exact rfl))⟩ ?_
          repeat' (first | (with_reducible exact trivial) | simp (maxSteps := 2000000) (disch := omega) only [h5, go_sem, seval] | ((with_reducible refine isS ?_); first | refine cS (g1) ?_ | refine cS (g2) ?_ | refine cS (a1) ?_ | refine cS (a2) ?_ | fail) | ((with_reducible refine isT ?_); first | refine cT (g1) ?_ | refine cT (g2) ?_ | refine cT (a1) ?_ | refine cT (a2) ?_ | fail) | ((with_reducible refine isE ?_); refine eA ?_; (repeat' (first | exact le_mq0 rfl | exact le_mq0r rfl | exact le_jk50 (by simp only [List.length_cons, List.length_append, mq_len, List.length_nil]) | refine le_mqr ?_ | refine le_mq ?_ | exact trivial | refine le_int ?_ | refine le_bool ?_ | refine le_str ?_ | refine le_sl ?_ | refine le_own ?_ | refine le_osl ?_ | refine le_nsl ?_ | exact rfl | refine ⟨?_, ?_⟩ | fail))) | ((with_reducible refine isI ?_ ?_); (kernel_rfl)) | fail)
      · rw [decide_eq_false c1] at a1
        rw [decide_eq_false (fun k => c1 k.1)]
        refine sh_start mixed F19 rfl ⟨(by first | exact rfl | (simp only [go_sem, seval]; done) | (simp only [go_sem, seval]; exact rfl)), (by first | exact rfl | (simp only [go_sem, seval]; done) | (simp only [go_sem, seval]; exact rfl)), (by first | exact rfl | (simp only [go_sem, seval]; done) | (simp only [go_sem, seval]; exact rfl)), (by first | exact rfl | (simp only [go_sem, seval]; done) | (simp only [go_sem, seval]; exact rfl)), (by first | exact rfl | (simp only [go_sem, seval]; done) | (simp only [go_sem, seval]; exact rfl))⟩ ?_
        repeat' (first | (with_reducible exact trivial) | simp (maxSteps := 2000000) (disch := omega) only [h5, go_sem, seval] | ((with_reducible refine isS ?_); first | refine cS (g1) ?_ | refine cS (g2) ?_ | refine cS (a1) ?_ | fail) | ((with_reducible refine isT ?_); first | refine cT (g1) ?_ | refine cT (g2) ?_ | refine cT (a1) ?_ | fail) | ((with_reducible refine isE ?_); refine eA ?_; (repeat' (first | exact le_mq0 rfl | exact le_mq0r rfl | exact le_jk50 (by simp only [List.length_cons, List.length_append, mq_len, List.length_nil]) | refine le_mqr ?_ | refine le_mq ?_ | exact trivial | refine le_int ?_ | refine le_bool ?_ | refine le_str ?_ | refine le_sl ?_ | refine le_own ?_ | refine le_osl ?_ | refine le_nsl ?_ | exact rfl | refine ⟨?_, ?_⟩ | fail))) | ((with_reducible refine isI ?_ ?_); (kernel_rfl)) | fail)
    by_cases h6 : s.kind = 6
    · rw [may_dec ((may_fit hp).trans (fit_6 h6))]
      simp only [sV, sC, h6] at g1 g2
      refine sh_start mixed F19 rfl ⟨(by first | exact rfl | (simp only [go_sem, seval]; done) | (simp only [go_sem, seval]; exact rfl)), (by first | exact rfl | (simp only [go_sem, seval]; done) | (simp only [go_sem, seval]; exact rfl)), (by first | exact rfl | (simp only [go_sem, seval]; done) | (simp only [go_sem, seval]; exact rfl)), (by first | exact rfl | (simp only [go_sem, seval]; done) | (simp only [go_sem, seval]; exact rfl)), (by first | exact rfl | (simp only [go_sem, seval]; done) | (simp only [go_sem, seval]; exact rfl))⟩ ?_
      by_cases c : s.b.length ≤ 255
      · rw [decide_eq_true c]
        repeat' (first | (with_reducible exact trivial) | simp (maxSteps := 2000000) (disch := omega) only [h6, bys_length, go_sem, seval] | ((with_reducible refine isS ?_); first | refine cS (g1) ?_ | refine cS (g2) ?_ | fail) | ((with_reducible refine isT ?_); first | refine cT (g1) ?_ | refine cT (g2) ?_ | fail) | ((with_reducible refine isE ?_); refine eA ?_; (repeat' (first | exact le_mq0 rfl | exact le_mq0r rfl | exact le_jk50 (by simp only [List.length_cons, List.length_append, mq_len, List.length_nil]) | refine le_mqr ?_ | refine le_mq ?_ | exact trivial | refine le_int ?_ | refine le_bool ?_ | refine le_str ?_ | refine le_sl ?_ | refine le_own ?_ | refine le_osl ?_ | refine le_nsl ?_ | exact rfl | refine ⟨?_, ?_⟩ | fail))) | ((with_reducible refine isI ?_ ?_); (kernel_rfl)) | fail)
      · rw [decide_eq_false c]
        repeat' (first | (with_reducible exact trivial) | simp (maxSteps := 2000000) (disch := omega) only [h6, bys_length, go_sem, seval] | ((with_reducible refine isS ?_); first | refine cS (g1) ?_ | refine cS (g2) ?_ | fail) | ((with_reducible refine isT ?_); first | refine cT (g1) ?_ | refine cT (g2) ?_ | fail) | ((with_reducible refine isE ?_); refine eA ?_; (repeat' (first | exact le_mq0 rfl | exact le_mq0r rfl | exact le_jk50 (by simp only [List.length_cons, List.length_append, mq_len, List.length_nil]) | refine le_mqr ?_ | refine le_mq ?_ | exact trivial | refine le_int ?_ | refine le_bool ?_ | refine le_str ?_ | refine le_sl ?_ | refine le_own ?_ | refine le_osl ?_ | refine le_nsl ?_ | exact rfl | refine ⟨?_, ?_⟩ | fail))) | ((with_reducible refine isI ?_ ?_); (kernel_rfl)) | fail)
    by_cases h7 : s.kind = 7
    · rw [may_dec ((may_fit hp).trans (fit_7 h7))]
      obtain ⟨b0, b1, b2, b3, _⟩ := id hi
      have r1 := gRLay (Γ := Γ) [s.w0, s.w1, s.w2, s.w3] (by simp) (fun w hw => by
        simp only [List.mem_cons, List.not_mem_nil, or_false] at hw
        rcases hw with rfl | rfl | rfl | rfl <;> assumption)
      have r2 := gRRead (Γ := Γ) (wOct [s.w0, s.w1, s.w2, s.w3]) (by rw [wOct_len]; rfl)
      have e4 : W4 (wOct [s.w0, s.w1, s.w2, s.w3]) = [cn s.w0, cn s.w1, cn s.w2, cn s.w3] := by
        have a0 := wAt_o8 (i := 0) (cn_lt b0) [] (o8 (cn s.w1) ++ (o8 (cn s.w2) ++ (o8 (cn s.w3) ++ []))) rfl
        have a1 := wAt_o8 (i := 8) (cn_lt b1) (o8 (cn s.w0)) (o8 (cn s.w2) ++ (o8 (cn s.w3) ++ [])) rfl
        have a2 := wAt_o8 (i := 16) (cn_lt b2) (o8 (cn s.w0) ++ o8 (cn s.w1)) (o8 (cn s.w3) ++ []) rfl
        have a3 := wAt_o8 (i := 24) (cn_lt b3) (o8 (cn s.w0) ++ (o8 (cn s.w1) ++ o8 (cn s.w2))) [] rfl
        simp only [List.append_assoc, List.nil_append, List.append_nil] at a0 a1 a2 a3
        rw [W4, show wOct [s.w0, s.w1, s.w2, s.w3] = o8 (cn s.w0) ++ (o8 (cn s.w1) ++ (o8 (cn s.w2) ++ o8 (cn s.w3))) by simp [wOct], a0, a1, a2, a3]
      rw [e4] at r2
      generalize wOct [s.w0, s.w1, s.w2, s.w3] = X at r1 r2
      have hu : { s with kind := 7 } = s := by rw [← h7]
      have g7 := gOneS (Γ := Γ) { s with kind := 7 } (mixR { s with kind := 7 } 4)
      have hsu : (s = mixR s 4) ↔ ({ s with kind := 7 } = mixR { s with kind := 7 } 4) := by rw [hu]
      have a2 := gWithin (Γ := Γ) s.n 255
      simp only [sV, sC, h7] at g1 g2
      have f1 : (flt [cn s.w0, cn s.w1, cn s.w2, cn s.w3]).length = 4 := rfl
      have e0 : (flt [cn s.w0, cn s.w1, cn s.w2, cn s.w3]).getD 0 [] = [.s (.float .f64 (cn s.w0))] := rfl
      have e1 : (flt [cn s.w0, cn s.w1, cn s.w2, cn s.w3]).getD 1 [] = [.s (.float .f64 (cn s.w1))] := rfl
      have e2 : (flt [cn s.w0, cn s.w1, cn s.w2, cn s.w3]).getD 2 [] = [.s (.float .f64 (cn s.w2))] := rfl
      have e3 : (flt [cn s.w0, cn s.w1, cn s.w2, cn s.w3]).getD 3 [] = [.s (.float .f64 (cn s.w3))] := rfl
      refine sh_start mixed F19 rfl ⟨(by first | exact rfl | (simp only [go_sem, seval]; done) | (simp only [go_sem, seval]; exact rfl)), (by first | exact rfl | (simp only [go_sem, seval]; done) | (simp only [go_sem, seval]; exact rfl)), (by first | exact rfl | (simp only [go_sem, seval]; done) | (simp only [go_sem, seval]; exact rfl)), (by first | exact rfl | (simp only [go_sem, seval]; done) | (simp only [go_sem, seval]; exact rfl)), (by first | exact rfl | (simp only [go_sem, seval]; done) | (simp only [go_sem, seval]; exact rfl))⟩ ?_
      repeat' (first | (with_reducible exact trivial) | simp (maxSteps := 2000000) (disch := omega) only [h7, go_sem, seval] | ((with_reducible refine isS ?_); first | refine cS (g1) ?_ | refine cS (g2) ?_ | refine cS (r1) ?_ | refine cS (r2) ?_ | fail) | ((with_reducible refine isT ?_); first | refine cT (g1) ?_ | refine cT (g2) ?_ | refine cT (r1) ?_ | refine cT (r2) ?_ | fail) | ((with_reducible refine isI ?_ ?_); (kernel_rfl)) | fail)
      refine sh_loopX mixed (fun i : Nat => ([(1, .ptr 0 0), (3, .sl 1 (flt [cn s.w0, cn s.w1, cn s.w2, cn s.w3])), (5, .ptr 1 0), (6, .int .i64 i)], [(0, .box (sC { s with kind := 7 }) true), (1, .box (sC (mixR { s with kind := 7 } i)) false)])) (fun i => 4 - i) (fun i => i ≤ 4) 0 (by omega)
        wkAu ?_
      intro i hi
      have hk : i = 0 ∨ i = 1 ∨ i = 2 ∨ i = 3 ∨ i = 4 := by omega
      rcases hk with rfl | rfl | rfl | rfl | rfl
      · repeat' (first | (with_reducible exact trivial) | simp (maxSteps := 2000000) (disch := omega) only [mixR, f1, e0, go_sem, seval] | ((with_reducible refine isI ?_ ?_); (kernel_rfl)) | fail)
        exact ⟨1, by omega, by omega, wkAu⟩
      · repeat' (first | (with_reducible exact trivial) | simp (maxSteps := 2000000) (disch := omega) only [mixR, f1, e1, go_sem, seval] | ((with_reducible refine isI ?_ ?_); (kernel_rfl)) | fail)
        exact ⟨2, by omega, by omega, wkAu⟩
      · repeat' (first | (with_reducible exact trivial) | simp (maxSteps := 2000000) (disch := omega) only [mixR, f1, e2, go_sem, seval] | ((with_reducible refine isI ?_ ?_); (kernel_rfl)) | fail)
        exact ⟨3, by omega, by omega, wkAu⟩
      · repeat' (first | (with_reducible exact trivial) | simp (maxSteps := 2000000) (disch := omega) only [mixR, f1, e3, go_sem, seval] | ((with_reducible refine isI ?_ ?_); (kernel_rfl)) | fail)
        exact ⟨4, by omega, by omega, wkAu⟩
      · by_cases c1 : 0 ≤ s.n ∧ s.n ≤ 255
        · rw [decide_eq_true c1] at a2
          by_cases c2 : { s with kind := 7 } = mixR { s with kind := 7 } 4
          · rw [decide_eq_true ⟨c1, hsu.2 c2⟩]
            rw [decide_eq_true c2] at g7
            repeat' (first | (with_reducible exact trivial) | simp (maxSteps := 2000000) (disch := omega) only [mixR, go_sem, seval] | ((with_reducible refine isS ?_); first | refine cS (a2) ?_ | refine cS (g7) ?_ | fail) | ((with_reducible refine isT ?_); first | refine cT (a2) ?_ | refine cT (g7) ?_ | fail) | ((with_reducible refine isE ?_); refine eA ?_; (repeat' (first | exact le_mq0 rfl | exact le_mq0r rfl | exact le_jk50 (by simp only [List.length_cons, List.length_append, mq_len, List.length_nil]) | refine le_mqr ?_ | refine le_mq ?_ | exact trivial | refine le_int ?_ | refine le_bool ?_ | refine le_str ?_ | refine le_sl ?_ | refine le_own ?_ | refine le_osl ?_ | refine le_nsl ?_ | exact rfl | refine ⟨?_, ?_⟩ | fail))) | ((with_reducible refine isI ?_ ?_); (kernel_rfl)) | fail)
          · rw [decide_eq_false (fun k => c2 (hsu.1 k.2))]
            rw [decide_eq_false c2] at g7
            repeat' (first | (with_reducible exact trivial) | simp (maxSteps := 2000000) (disch := omega) only [mixR, go_sem, seval] | ((with_reducible refine isS ?_); first | refine cS (a2) ?_ | refine cS (g7) ?_ | fail) | ((with_reducible refine isT ?_); first | refine cT (a2) ?_ | refine cT (g7) ?_ | fail) | ((with_reducible refine isE ?_); refine eA ?_; (repeat' (first | exact le_mq0 rfl | exact le_mq0r rfl | exact le_jk50 (by simp only [List.length_cons, List.length_append, mq_len, List.length_nil]) | refine le_mqr ?_ | refine le_mq ?_ | exact trivial | refine le_int ?_ | refine le_bool ?_ | refine le_str ?_ | refine le_sl ?_ | refine le_own ?_ | refine le_osl ?_ | refine le_nsl ?_ | exact rfl | refine ⟨?_, ?_⟩ | fail))) | ((with_reducible refine isI ?_ ?_); (kernel_rfl)) | fail)
        · rw [decide_eq_false c1] at a2
          rw [decide_eq_false (fun k => c1 k.1)]
          repeat' (first | (with_reducible exact trivial) | simp (maxSteps := 2000000) (disch := omega) only [mixR, go_sem, seval] | ((with_reducible refine isS ?_); first | refine cS (a2) ?_ | fail) | ((with_reducible refine isT ?_); first | refine cT (a2) ?_ | fail) | ((with_reducible refine isE ?_); refine eA ?_; (repeat' (first | exact le_mq0 rfl | exact le_mq0r rfl | exact le_jk50 (by simp only [List.length_cons, List.length_append, mq_len, List.length_nil]) | refine le_mqr ?_ | refine le_mq ?_ | exact trivial | refine le_int ?_ | refine le_bool ?_ | refine le_str ?_ | refine le_sl ?_ | refine le_own ?_ | refine le_osl ?_ | refine le_nsl ?_ | exact rfl | refine ⟨?_, ?_⟩ | fail))) | ((with_reducible refine isI ?_ ?_); (kernel_rfl)) | fail)
    · rw [decide_eq_false (fun k => fit_no h0 h1 h2 h3 h4 h5 h6 h7 k.2)]
      refine sh_start mixed F19 rfl ⟨(by first | exact rfl | (simp only [go_sem, seval]; done) | (simp only [go_sem, seval]; exact rfl)), (by first | exact rfl | (simp only [go_sem, seval]; done) | (simp only [go_sem, seval]; exact rfl)), (by first | exact rfl | (simp only [go_sem, seval]; done) | (simp only [go_sem, seval]; exact rfl)), (by first | exact rfl | (simp only [go_sem, seval]; done) | (simp only [go_sem, seval]; exact rfl)), (by first | exact rfl | (simp only [go_sem, seval]; done) | (simp only [go_sem, seval]; exact rfl))⟩ ?_
      repeat' (first | (with_reducible exact trivial) | simp (maxSteps := 2000000) (disch := omega) only [h0, h1, h2, h3, h4, h5, h6, h7, go_sem, seval] | ((with_reducible refine isS ?_); first | refine cS (g1) ?_ | refine cS (g2) ?_ | fail) | ((with_reducible refine isT ?_); first | refine cT (g1) ?_ | refine cT (g2) ?_ | fail) | ((with_reducible refine isE ?_); refine eA ?_; (repeat' (first | exact le_mq0 rfl | exact le_mq0r rfl | exact le_jk50 (by simp only [List.length_cons, List.length_append, mq_len, List.length_nil]) | refine le_mqr ?_ | refine le_mq ?_ | exact trivial | refine le_int ?_ | refine le_bool ?_ | refine le_str ?_ | refine le_sl ?_ | refine le_own ?_ | refine le_osl ?_ | refine le_nsl ?_ | exact rfl | refine ⟨?_, ?_⟩ | fail))) | ((with_reducible refine isI ?_ ?_); (kernel_rfl)) | fail)
  · rw [decide_eq_false hp] at g2
    rw [decide_eq_false (fun k => hp k.1)]
    refine sh_start mixed F19 rfl ⟨(by first | exact rfl | (simp only [go_sem, seval]; done) | (simp only [go_sem, seval]; exact rfl)), (by first | exact rfl | (simp only [go_sem, seval]; done) | (simp only [go_sem, seval]; exact rfl)), (by first | exact rfl | (simp only [go_sem, seval]; done) | (simp only [go_sem, seval]; exact rfl)), (by first | exact rfl | (simp only [go_sem, seval]; done) | (simp only [go_sem, seval]; exact rfl)), (by first | exact rfl | (simp only [go_sem, seval]; done) | (simp only [go_sem, seval]; exact rfl))⟩ ?_
    repeat' (first | (with_reducible exact trivial) | simp (maxSteps := 2000000) (disch := omega) only [go_sem, seval] | ((with_reducible refine isS ?_); first | refine cS (g1) ?_ | refine cS (g2) ?_ | fail) | ((with_reducible refine isT ?_); first | refine cT (g1) ?_ | refine cT (g2) ?_ | fail) | ((with_reducible refine isE ?_); refine eA ?_; (repeat' (first | exact le_mq0 rfl | exact le_mq0r rfl | exact le_jk50 (by simp only [List.length_cons, List.length_append, mq_len, List.length_nil]) | refine le_mqr ?_ | refine le_mq ?_ | exact trivial | refine le_int ?_ | refine le_bool ?_ | refine le_str ?_ | refine le_sl ?_ | refine le_own ?_ | refine le_osl ?_ | refine le_nsl ?_ | exact rfl | refine ⟨?_, ?_⟩ | fail))) | ((with_reducible refine isI ?_ ?_); (kernel_rfl)) | fail)
end Go.Proofs.YtlijecknkpcgfaaDoor
