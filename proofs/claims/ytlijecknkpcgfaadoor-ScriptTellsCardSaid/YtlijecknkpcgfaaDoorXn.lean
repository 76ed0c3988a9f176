/- Layer 22: the law ScriptTells. Own work. -/
import Derived.Test.YtlijecknkpcgfaaDoorXm
import Derived.Test.YtlijecknkpcgfaaDoorXh
import Derived.Test.YtlijecknkpcgfaaDoorXg
import Derived.Test.YtlijecknkpcgfaaDoorScb
namespace Go.Proofs.YtlijecknkpcgfaaDoor
open Go Go.Shade
variable {Γ : Globs}
set_option maxHeartbeats 16000000 in
theorem gLTells (l o : List Stp) (b : List UInt8) (hi : ∀ s ∈ l, inS s) (hj : ∀ s ∈ o, inS s) : Go.Shade.Good Tryd.prog Γ 7 [.sl 50 (l.map sR), .sl 50 (o.map sR), .sl 1 (bys b)] [] (.ret (.bool true)) [] := by
  have hr := gRowV (Γ := Γ) l
  have hr' := gRowV (Γ := Γ) o
  have hL := inS_cut hi
  have hL60 := cutS_len l
  have hO60 := cutS_len o
  have hf := gFewV (Γ := Γ) b
  have hB : (b.take 900).length ≤ 900 := by rw [List.length_take]; omega
  have ha := gAwakeV (Γ := Γ)
  generalize cutS l = L at hr hL hL60
  generalize cutS o = O at hr' hO60
  generalize b.take 900 = B at hf hB
  have hp := gPutS (Γ := Γ) L (by omega) hL
  have hq := gRPutS (Γ := Γ) L (by omega) (fun s hs => (hL s hs).1)
  rw [resP] at hp hq
  have ho := gOctets (Γ := Γ) (outP L) (outP L)
  rw [decide_eq_true rfl] at ho
  generalize outP L = X at hp hq ho
  generalize stopP L = e at hp hq
  have hg := gGetS (Γ := Γ) B (by omega)
  have hk := gRGetS (Γ := Γ) B (by omega)
  rw [resG] at hg
  rw [resRG] at hk
  obtain ⟨_, _, hG4⟩ := gtS_is 4096 B
  generalize (B.length : Int) - ((gtS 4096 B).2.1.length : Int) = n at hg hk
  generalize (gtS 4096 B).2.2 = ok at hg hk
  generalize (gtS 4096 B).1 = G at hg hk hG4
  have hs1 := gSameL (Γ := Γ) L O (by omega)
  have hs2 := gRSameL (Γ := Γ) L O (by omega)
  generalize decide (L = O) = d at hs1 hs2
  have hs3 := gRSameL (Γ := Γ) G G (by omega)
  rw [decide_eq_true rfl] at hs3
  have de : decide (e = e) = true := decide_eq_true rfl
  have dn : decide (n = n) = true := decide_eq_true rfl
  refine sh_start mixed F7 rfl ⟨(by first | exact rfl | (simp only [go_sem, seval]; done) | (simp only [go_sem, seval]; exact rfl)), (by first | exact rfl | (simp only [go_sem, seval]; done) | (simp only [go_sem, seval]; exact rfl)), (by first | exact rfl | (simp only [go_sem, seval]; done) | (simp only [go_sem, seval]; exact rfl)), (by first | exact rfl | (simp only [go_sem, seval]; done) | (simp only [go_sem, seval]; exact rfl)), (by first | exact rfl | (simp only [go_sem, seval]; done) | (simp only [go_sem, seval]; exact rfl))⟩ ?_
  repeat' (first | (with_reducible exact trivial) | simp (maxSteps := 2000000) (disch := omega) only [go_sem, seval] | ((with_reducible refine isS ?_); first | refine cS (hr) ?_ | refine cS (hr') ?_ | refine cS (hf) ?_ | fail) | ((with_reducible refine isT ?_); first | refine cT (hr) ?_ | refine cT (hr') ?_ | refine cT (hf) ?_ | fail) | ((with_reducible refine isI ?_ ?_); (kernel_rfl)) | fail)
  refine sh_loopX mixed (fun i : Nat => ([(0, .sl 50 (L.map sR)), (1, .sl 50 (O.map sR)), (2, .sl 1 (bys B)), (7, .int .i64 i)], [])) (fun i => L.length - i) (fun i => i ≤ L.length) 0 (by omega) wkAu ?_
  intro i hi
  by_cases h : i < L.length
  · obtain ⟨s, hs, _, hgt⟩ := selem_at h
    obtain ⟨hin, hsb⟩ := hL s hs
    have hc := gCheckS (Γ := Γ) s hsb
    have hm := gRMayS (Γ := Γ) s hin
    rw [okS_may s hin] at hc
    cases hv : decide (mayV s)
    all_goals
      rw [hv] at hc hm
      simp only [Bool.false_eq_true, if_false, if_true] at hc
      repeat' (first | (with_reducible exact trivial) | simp (maxSteps := 2000000) (disch := omega) only [List.length_map, hgt, sR_map, Int.toNat_natCast, go_sem, seval] | ((with_reducible refine isS ?_); first | refine cS (hc) ?_ | refine cS (hm) ?_ | fail) | ((with_reducible refine isT ?_); first | refine cT (hc) ?_ | refine cT (hm) ?_ | fail) | ((with_reducible refine isI ?_ ?_); (kernel_rfl)) | fail)
      exact ⟨i + 1, by omega, by omega, wkAu⟩
  · cases d <;> cases ok
    all_goals
      simp only [Bool.false_eq_true, if_false, if_true] at hg
      repeat' (first | (with_reducible exact trivial) | simp (maxSteps := 2000000) (disch := omega) only [List.length_map, go_sem, seval] | ((with_reducible refine isS ?_); first | refine cS (hp) ?_ | refine cS (hq) ?_ | refine cS (hg) ?_ | refine cS (hk) ?_ | refine cS (hs1) ?_ | refine cS (hs2) ?_ | refine cS (ho) ?_ | refine cS (hs3) ?_ | refine cS (ha) ?_ | fail) | ((with_reducible refine isT ?_); first | refine cT (hp) ?_ | refine cT (hq) ?_ | refine cT (hg) ?_ | refine cT (hk) ?_ | refine cT (hs1) ?_ | refine cT (hs2) ?_ | refine cT (ho) ?_ | refine cT (hs3) ?_ | refine cT (ha) ?_ | fail) | ((with_reducible refine isE ?_); refine eA ?_; (repeat' (first | exact le_mq0 rfl | exact le_mq0r rfl | exact le_jk50 (by simp only [List.length_cons, List.length_append, mq_len, List.length_nil]) | refine le_mqr ?_ | refine le_mq ?_ | exact trivial | refine le_int ?_ | refine le_bool ?_ | refine le_str ?_ | refine le_sl ?_ | refine le_own ?_ | refine le_osl ?_ | refine le_nsl ?_ | exact rfl | refine ⟨?_, ?_⟩ | fail))) | ((with_reducible refine isI ?_ ?_); (kernel_rfl)) | fail)
end Go.Proofs.YtlijecknkpcgfaaDoor
