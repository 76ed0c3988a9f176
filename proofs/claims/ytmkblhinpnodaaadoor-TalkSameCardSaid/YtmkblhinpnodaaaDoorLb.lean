/- Layer 12: without blanks at the end. Own work. -/
import Derived.Test.YtmkblhinpnodaaaDoorLa
namespace Go.Proofs.YtmkblhinpnodaaaDoor
open Go Go.Shade
variable {Γ : Globs}
theorem blank_at (c : UInt8) : (setR [32, 9]).at c.toNat = blankB c := setR_at _ c
theorem trim_blank (b : List UInt8) : trimR (fun c => (setR [32, 9]).at c.toNat) b = trimR blankB b := by
  have : (fun c : UInt8 => (setR [32, 9]).at c.toNat) = blankB := funext blank_at
  rw [this]
set_option maxRecDepth 20000 in
theorem gTrimBlank (b : List UInt8) (h : b.length ≤ 140737488355328) : Good Tryd.prog Γ 90 [.sl 1 (bys b), .p (.s (.string { data := #[32, 9] }))] [] (.ret (.sl 1 (bys (trimR blankB b)))) [] := by
  refine sh_start mixed F90 rfl ⟨(by first | (with_reducible exact rfl) | (simp only [go_sem, seval]; done) | (simp only [go_sem, seval]; exact rfl) | exact rfl), (by first | (with_reducible exact rfl) | (simp only [go_sem, seval]; done) | (simp only [go_sem, seval]; exact rfl) | exact rfl), (by first | (with_reducible exact rfl) | (simp only [go_sem, seval]; done) | (simp only [go_sem, seval]; exact rfl) | exact rfl), (by first | (with_reducible exact rfl) | (simp only [go_sem, seval]; done) | (simp only [go_sem, seval]; exact rfl) | exact rfl), (by first | (with_reducible exact rfl) | (simp only [go_sem, seval]; done) | (simp only [go_sem, seval]; exact rfl) | exact rfl)⟩ ?_
  have hm := gMakeSet (Γ := Γ)
  have ht := gTrimSet (Γ := Γ) b (setR [32, 9]) h
  rw [trim_blank] at ht
  generalize setR [32, 9] = r at hm ht
  cases b with
  | nil => repeat' (first | (with_reducible exact trivial) | simp (maxSteps := 2000000) (disch := omega) only [go_sem, seval, -List.reduceReplicate] | ((with_reducible refine isE ?_); refine endA (by first | exact rfl | (simp only [go_sem, seval]; exact rfl) | (simp only [go_sem, seval]; done)) ?_ (by (repeat' (first | exact le_rqr rfl | exact le_rq rfl | refine le_rqr ?_ | refine le_rq ?_ | exact le_mq0 rfl | exact le_mq0r rfl | refine le_mqr ?_ | refine le_mq ?_ | exact trivial | exact rfl | refine ⟨_, rfl, ?_⟩ | refine ⟨?_, ?_⟩ | fail)); first | done | fail) rfl rfl; (repeat' (first | exact le_rqr rfl | exact le_rq rfl | refine le_rqr ?_ | refine le_rq ?_ | exact le_mq0 rfl | exact le_mq0r rfl | refine le_mqr ?_ | refine le_mq ?_ | exact trivial | refine le_int ?_ | refine le_bool ?_ | refine le_str ?_ | refine le_sl ?_ | refine le_own ?_ | refine le_osl ?_ | refine le_nsl ?_ | exact rfl | (rfl; done) | refine ⟨?_, ?_⟩ | fail))) | ((with_reducible refine isI ?_ ?_); (kernel_rfl)) | fail)
  | cons x xs =>
    rw [List.length_cons] at h
    generalize hb : x :: xs = b at ht ⊢
    have hl : b.length ≠ 0 := by rw [← hb]; simp
    repeat' (first | (with_reducible exact trivial) | simp (maxSteps := 2000000) (disch := omega) only [bys_length, go_sem, seval, rq_zero256, -List.reduceReplicate] | ((with_reducible refine isS ?_); first | refine sh_call (hm) [] (by (repeat' (first | exact le_rqr rfl | exact le_rq rfl | refine le_rqr ?_ | refine le_rq ?_ | exact le_mq0 rfl | exact le_mq0r rfl | refine le_mqr ?_ | refine le_mq ?_ | exact rfl | exact trivial | exact le_nbys | refine ⟨?_, ?_⟩ | fail)); first | done | fail) trivial rfl (by (repeat' (first | exact trivial | exact .inr rfl | exact .inl rfl | refine ⟨?_, ?_⟩ | fail)); first | done | fail) ?_ | fail) | ((with_reducible refine isS ?_); refine sh_call ht [(0, 0)] ⟨rfl, rfl, trivial⟩ ⟨olds_rq, trivial⟩ rfl ⟨.inl rfl, trivial⟩ ?_) | ((with_reducible refine isE ?_); refine endA (by first | exact rfl | (simp only [go_sem, seval]; exact rfl) | (simp only [go_sem, seval]; done)) ?_ (by (repeat' (first | exact le_rqr rfl | exact le_rq rfl | refine le_rqr ?_ | refine le_rq ?_ | exact le_mq0 rfl | exact le_mq0r rfl | refine le_mqr ?_ | refine le_mq ?_ | exact trivial | exact rfl | refine ⟨_, rfl, ?_⟩ | refine ⟨?_, ?_⟩ | fail)); first | done | fail) rfl rfl; (repeat' (first | exact le_rqr rfl | exact le_rq rfl | refine le_rqr ?_ | refine le_rq ?_ | exact le_mq0 rfl | exact le_mq0r rfl | refine le_mqr ?_ | refine le_mq ?_ | exact trivial | refine le_int ?_ | refine le_bool ?_ | refine le_str ?_ | refine le_sl ?_ | refine le_own ?_ | refine le_osl ?_ | refine le_nsl ?_ | exact rfl | refine ⟨?_, ?_⟩ | fail))) | ((with_reducible refine isI ?_ ?_); (kernel_rfl)) | fail)
end Go.Proofs.YtmkblhinpnodaaaDoor
