/- Layer 14: keys that lead to a state. Own work. -/
import Derived.Test.YtmkblhinpnodaaaDoorFc
import Derived.Test.YtmkblhinpnodaaaDoorZ3
namespace Go.Proofs.YtmkblhinpnodaaaDoor
open Go Go.Shade
variable {Γ : Globs}
theorem mv3 (n : Nat) : [[PV.s (.int .i64 23), PV.s (.int .i64 1)], [PV.s (.int .i64 19), PV.s (.int .i64 (n : Int))], [PV.s (.int .i64 21), PV.s (.int .i64 (n : Int))]] = [((23 : Nat), (1 : Nat)), (19, n), (21, n)].map mvP := rfl
theorem home_len (t : Tbl) (n : Nat) : (homeV t n).length ≤ n + 1 := by
  unfold homeV
  split
  · exact Nat.le_trans (keys_len t _ _) (by omega)
  split
  · exact Nat.le_trans (keys_len t _ _) (by omega)
  · exact Nat.le_trans (keys_len t _ _) (by omega)
set_option maxHeartbeats 4000000 in
theorem gRenew (t : Tbl) (s : Ed) (hs : s.ok) : Good Tryd.prog Γ 50 [.agg (tq t), edA s] [] (.ret (.own 0 1 (bys (renewV t s)))) [(0, .tok)] := by
  obtain ⟨b, n, o, l⟩ := s
  have hc := gECheck (Γ := Γ) _ hs
  obtain ⟨hb, hn⟩ := hs
  simp only at hb hn hc
  obtain ⟨R, hR⟩ : ∃ R, R = renewV t ⟨b, n, o, l⟩ := ⟨_, rfl⟩
  rw [← hR]
  unfold renewV at hR
  simp only at hR
  have hf14 := gFirst (Γ := Γ) t [(14, 1)] (by simp) (by simp)
  have hf26 := gFirst (Γ := Γ) t [(26, 1)] (by simp) (by simp)
  have hfh := gFirst (Γ := Γ) t [(23, 1), (19, b.length - n), (21, b.length - n)] (by simp) (by simp; omega)
  rw [first_one] at hf14 hf26
  rw [first_home] at hfh
  have hk14 := keys_len t 14 1
  have hk26 := keys_len t 26 1
  have hhl := home_len t (b.length - n)
  have hbl : (b.drop n).length = b.length - n := List.length_drop
  have hal : (b.take n).length = n := take_len hn
  have ht1 := (tell_len t (b.drop n)).2
  have ht2 := (tell_len t (b.take n)).2
  rw [hbl] at ht1
  rw [hal] at ht2
  have hN1 := gTellN (Γ := Γ) t (b.drop n)
  have hN2 := gTellN (Γ := Γ) t (b.take n)
  have hO2 := gTellO (Γ := Γ) t (tellV t (b.drop n) ++ homeV t (b.length - n)) (by rw [List.length_append]; omega) (b.take n)
  have hE := gTellN0 (Γ := Γ) t
  have hF := gTellO0 (Γ := Γ) t (tellV t (b.drop n) ++ homeV t (b.length - n))
  have e1 : ((n : Nat) : Int).toNat = n := Int.toNat_natCast n
  have hdt : (b.drop n).take (b.length - n) = b.drop n := List.take_of_length_le (by omega)
  by_cases hd0 : b.drop n = []
  · have hnl : n = b.length := by
      have := congrArg List.length hd0
      rw [List.length_drop, List.length_nil] at this
      omega
    rw [if_neg (by omega), hd0, tellV, List.nil_append, List.nil_append] at hR
    have hz : b.length - n = 0 := by omega
    by_cases ha0 : b.take n = []
    · rw [ha0, tellV, List.nil_append] at hR
      cases o <;> cases l
      · simp only [Bool.false_eq_true, if_false, List.append_nil] at hR
        subst hR
        refine sh_startG mixed F50 rfl ⟨(by first | exact rfl | (simp only [go_sem, seval]; done) | (simp only [go_sem, seval]; exact rfl)), (by first | exact rfl | (simp only [go_sem, seval]; done) | (simp only [go_sem, seval]; exact rfl)), (by first | exact rfl | (simp only [go_sem, seval]; done) | (simp only [go_sem, seval]; exact rfl)), (by first | exact rfl | (simp only [go_sem, seval]; done) | (simp only [go_sem, seval]; exact rfl)), (by first | exact rfl | (simp only [go_sem, seval]; done) | (simp only [go_sem, seval]; exact rfl))⟩ ?_
        repeat' (first | (with_reducible exact trivial) | simp (maxSteps := 2000000) (disch := omega) only [bys_length, bys_take, bys_drop, hd0, ha0, e1, List.take_length, List.length_nil, go_sem, seval] | ((with_reducible refine isS ?_); first | refine cS (hc) ?_ | refine cSA (hE) ?_ | refine cS (hf14) ?_ | refine cS (hf26) ?_ | fail) | ((with_reducible refine isT ?_); first | refine cT (hc) ?_ | refine cTA (hE) ?_ | refine cT (hf14) ?_ | refine cT (hf26) ?_ | fail) | (refine finY_nil 4 9 1 rfl rfl (finY_S ?_)) | ((with_reducible refine isE ?_); refine eA ?_; (repeat' (first | exact le_tq0 rfl | exact le_tq0r rfl | refine le_tqr rfl ?_ | refine le_tq rfl ?_ | exact trivial | refine le_int ?_ | refine le_bool ?_ | refine le_str ?_ | refine le_sl ?_ | refine le_own ?_ | refine le_osl ?_ | refine le_nsl ?_ | exact rfl | (first | rfl | simp; done) | refine ⟨?_, ?_⟩ | fail))) | ((with_reducible refine isI ?_ ?_); (kernel_rfl)) | fail)
      · simp only [if_true, Bool.false_eq_true, if_false, List.nil_append] at hR
        subst hR
        refine sh_startG mixed F50 rfl ⟨(by first | exact rfl | (simp only [go_sem, seval]; done) | (simp only [go_sem, seval]; exact rfl)), (by first | exact rfl | (simp only [go_sem, seval]; done) | (simp only [go_sem, seval]; exact rfl)), (by first | exact rfl | (simp only [go_sem, seval]; done) | (simp only [go_sem, seval]; exact rfl)), (by first | exact rfl | (simp only [go_sem, seval]; done) | (simp only [go_sem, seval]; exact rfl)), (by first | exact rfl | (simp only [go_sem, seval]; done) | (simp only [go_sem, seval]; exact rfl))⟩ ?_
        repeat' (first | (with_reducible exact trivial) | simp (maxSteps := 2000000) (disch := omega) only [bys_length, bys_take, bys_drop, hd0, ha0, e1, List.take_length, List.length_nil, mv14, go_sem, seval] | ((with_reducible refine isS ?_); first | refine cS (hc) ?_ | refine cSA (hE) ?_ | refine cS (hf14) ?_ | refine cS (hf26) ?_ | fail) | ((with_reducible refine isT ?_); first | refine cT (hc) ?_ | refine cTA (hE) ?_ | refine cT (hf14) ?_ | refine cT (hf26) ?_ | fail) | (refine finY_S ?_) | ((with_reducible refine isE ?_); refine eA ?_; (repeat' (first | exact le_tq0 rfl | exact le_tq0r rfl | refine le_tqr rfl ?_ | refine le_tq rfl ?_ | exact trivial | refine le_int ?_ | refine le_bool ?_ | refine le_str ?_ | refine le_sl ?_ | refine le_own ?_ | refine le_osl ?_ | refine le_nsl ?_ | exact rfl | (first | rfl | simp; done) | refine ⟨?_, ?_⟩ | fail))) | ((with_reducible refine isI ?_ ?_); (kernel_rfl)) | fail)
      · simp only [if_true, Bool.false_eq_true, if_false, List.append_nil] at hR
        subst hR
        refine sh_startG mixed F50 rfl ⟨(by first | exact rfl | (simp only [go_sem, seval]; done) | (simp only [go_sem, seval]; exact rfl)), (by first | exact rfl | (simp only [go_sem, seval]; done) | (simp only [go_sem, seval]; exact rfl)), (by first | exact rfl | (simp only [go_sem, seval]; done) | (simp only [go_sem, seval]; exact rfl)), (by first | exact rfl | (simp only [go_sem, seval]; done) | (simp only [go_sem, seval]; exact rfl)), (by first | exact rfl | (simp only [go_sem, seval]; done) | (simp only [go_sem, seval]; exact rfl))⟩ ?_
        repeat' (first | (with_reducible exact trivial) | simp (maxSteps := 2000000) (disch := omega) only [bys_length, bys_take, bys_drop, hd0, ha0, e1, List.take_length, List.length_nil, mv26, go_sem, seval] | ((with_reducible refine isS ?_); first | refine cS (hc) ?_ | refine cSA (hE) ?_ | refine cS (hf14) ?_ | refine cS (hf26) ?_ | fail) | ((with_reducible refine isT ?_); first | refine cT (hc) ?_ | refine cTA (hE) ?_ | refine cT (hf14) ?_ | refine cT (hf26) ?_ | fail) | (refine finY_S ?_) | ((with_reducible refine isE ?_); refine eA ?_; (repeat' (first | exact le_tq0 rfl | exact le_tq0r rfl | refine le_tqr rfl ?_ | refine le_tq rfl ?_ | exact trivial | refine le_int ?_ | refine le_bool ?_ | refine le_str ?_ | refine le_sl ?_ | refine le_own ?_ | refine le_osl ?_ | refine le_nsl ?_ | exact rfl | (first | rfl | simp; done) | refine ⟨?_, ?_⟩ | fail))) | ((with_reducible refine isI ?_ ?_); (kernel_rfl)) | fail)
      · simp only [if_true] at hR
        subst hR
        refine sh_startG mixed F50 rfl ⟨(by first | exact rfl | (simp only [go_sem, seval]; done) | (simp only [go_sem, seval]; exact rfl)), (by first | exact rfl | (simp only [go_sem, seval]; done) | (simp only [go_sem, seval]; exact rfl)), (by first | exact rfl | (simp only [go_sem, seval]; done) | (simp only [go_sem, seval]; exact rfl)), (by first | exact rfl | (simp only [go_sem, seval]; done) | (simp only [go_sem, seval]; exact rfl)), (by first | exact rfl | (simp only [go_sem, seval]; done) | (simp only [go_sem, seval]; exact rfl))⟩ ?_
        repeat' (first | (with_reducible exact trivial) | simp (maxSteps := 2000000) (disch := omega) only [bys_length, bys_take, bys_drop, bys_cat, hd0, ha0, e1, List.take_length, List.length_nil, mv14, mv26, go_sem, seval] | ((with_reducible refine isS ?_); first | refine cS (hc) ?_ | refine cSA (hE) ?_ | refine cS (hf14) ?_ | refine cS (hf26) ?_ | fail) | ((with_reducible refine isT ?_); first | refine cT (hc) ?_ | refine cTA (hE) ?_ | refine cT (hf14) ?_ | refine cT (hf26) ?_ | fail) | (refine finY_S ?_) | ((with_reducible refine isE ?_); refine eA ?_; (repeat' (first | exact le_tq0 rfl | exact le_tq0r rfl | refine le_tqr rfl ?_ | refine le_tq rfl ?_ | exact trivial | refine le_int ?_ | refine le_bool ?_ | refine le_str ?_ | refine le_sl ?_ | refine le_own ?_ | refine le_osl ?_ | refine le_nsl ?_ | exact rfl | (first | rfl | simp; done) | refine ⟨?_, ?_⟩ | fail))) | ((with_reducible refine isI ?_ ?_); (kernel_rfl)) | fail)
    · have hN2 := hN2 ha0 (by omega)
      generalize tellV t (b.take n) = T2 at hN2 ht2 hR
      cases o <;> cases l
      all_goals
        simp only [if_true, Bool.false_eq_true, if_false, List.append_nil, List.nil_append] at hR
        subst hR
        refine sh_startG mixed F50 rfl ⟨(by first | exact rfl | (simp only [go_sem, seval]; done) | (simp only [go_sem, seval]; exact rfl)), (by first | exact rfl | (simp only [go_sem, seval]; done) | (simp only [go_sem, seval]; exact rfl)), (by first | exact rfl | (simp only [go_sem, seval]; done) | (simp only [go_sem, seval]; exact rfl)), (by first | exact rfl | (simp only [go_sem, seval]; done) | (simp only [go_sem, seval]; exact rfl)), (by first | exact rfl | (simp only [go_sem, seval]; done) | (simp only [go_sem, seval]; exact rfl))⟩ ?_
        repeat' (first | (with_reducible exact trivial) | simp (maxSteps := 2000000) (disch := omega) only [bys_length, bys_take, bys_drop, bys_cat, hd0, e1, List.take_length, List.length_nil, List.length_append, mv14, mv26, go_sem, seval] | ((with_reducible refine isS ?_); first | refine cS (hc) ?_ | refine cSA (hE) ?_ | refine cSA (hN2) ?_ | refine cS (hf14) ?_ | refine cS (hf26) ?_ | fail) | ((with_reducible refine isT ?_); first | refine cT (hc) ?_ | refine cTA (hE) ?_ | refine cTA (hN2) ?_ | refine cT (hf14) ?_ | refine cT (hf26) ?_ | fail) | (refine finY_S ?_) | ((with_reducible refine isE ?_); refine eA ?_; (repeat' (first | exact le_tq0 rfl | exact le_tq0r rfl | refine le_tqr rfl ?_ | refine le_tq rfl ?_ | exact trivial | refine le_int ?_ | refine le_bool ?_ | refine le_str ?_ | refine le_sl ?_ | refine le_own ?_ | refine le_osl ?_ | refine le_nsl ?_ | exact rfl | (first | rfl | simp; done) | refine ⟨?_, ?_⟩ | fail))) | ((with_reducible refine isI ?_ ?_); (kernel_rfl)) | fail)
  · have hnl : n < b.length := by
      rcases Nat.lt_or_ge n b.length with h | h
      · exact h
      · exact absurd (List.drop_eq_nil_of_le h) hd0
    rw [if_pos hnl] at hR
    have hN1 := hN1 hd0 (by omega)
    generalize tellV t (b.drop n) = T1 at hN1 hO2 hF ht1 hR
    generalize homeV t (b.length - n) = H at hO2 hF hhl hR hfh
    by_cases ha0 : b.take n = []
    · rw [ha0, tellV, List.nil_append] at hR
      cases o <;> cases l
      all_goals
        simp only [if_true, Bool.false_eq_true, if_false, List.append_nil, List.nil_append] at hR
        subst hR
        refine sh_startG mixed F50 rfl ⟨(by first | exact rfl | (simp only [go_sem, seval]; done) | (simp only [go_sem, seval]; exact rfl)), (by first | exact rfl | (simp only [go_sem, seval]; done) | (simp only [go_sem, seval]; exact rfl)), (by first | exact rfl | (simp only [go_sem, seval]; done) | (simp only [go_sem, seval]; exact rfl)), (by first | exact rfl | (simp only [go_sem, seval]; done) | (simp only [go_sem, seval]; exact rfl)), (by first | exact rfl | (simp only [go_sem, seval]; done) | (simp only [go_sem, seval]; exact rfl))⟩ ?_
        repeat' (first | (with_reducible exact trivial) | simp (maxSteps := 2000000) (disch := omega) only [bys_length, bys_take, bys_drop, bys_cat, hbl, ha0, e1, List.take_length, List.length_nil, List.length_append, mv14, mv26, mv3, go_sem, seval] | ((with_reducible refine isS ?_); first | refine cS (hc) ?_ | refine cSA (hN1) ?_ | refine cSA (hF) ?_ | refine cS (hfh) ?_ | refine cS (hf14) ?_ | refine cS (hf26) ?_ | fail) | ((with_reducible refine isT ?_); first | refine cT (hc) ?_ | refine cTA (hN1) ?_ | refine cTA (hF) ?_ | refine cT (hfh) ?_ | refine cT (hf14) ?_ | refine cT (hf26) ?_ | fail) | (refine finY_S ?_) | ((with_reducible refine isE ?_); refine eA ?_; (repeat' (first | exact le_tq0 rfl | exact le_tq0r rfl | refine le_tqr rfl ?_ | refine le_tq rfl ?_ | exact trivial | refine le_int ?_ | refine le_bool ?_ | refine le_str ?_ | refine le_sl ?_ | refine le_own ?_ | refine le_osl ?_ | refine le_nsl ?_ | exact rfl | (first | rfl | simp; done) | refine ⟨?_, ?_⟩ | fail))) | ((with_reducible refine isI ?_ ?_); (kernel_rfl)) | fail)
    · have hO2 := hO2 ha0 (by omega)
      generalize tellV t (b.take n) = T2 at hO2 ht2 hR
      cases o <;> cases l
      all_goals
        simp only [if_true, Bool.false_eq_true, if_false, List.append_nil, List.nil_append] at hR
        subst hR
        refine sh_startG mixed F50 rfl ⟨(by first | exact rfl | (simp only [go_sem, seval]; done) | (simp only [go_sem, seval]; exact rfl)), (by first | exact rfl | (simp only [go_sem, seval]; done) | (simp only [go_sem, seval]; exact rfl)), (by first | exact rfl | (simp only [go_sem, seval]; done) | (simp only [go_sem, seval]; exact rfl)), (by first | exact rfl | (simp only [go_sem, seval]; done) | (simp only [go_sem, seval]; exact rfl)), (by first | exact rfl | (simp only [go_sem, seval]; done) | (simp only [go_sem, seval]; exact rfl))⟩ ?_
        repeat' (first | (with_reducible exact trivial) | simp (maxSteps := 2000000) (disch := omega) only [bys_length, bys_take, bys_drop, bys_cat, hbl, e1, List.take_length, List.length_nil, List.length_append, mv14, mv26, mv3, go_sem, seval] | ((with_reducible refine isS ?_); first | refine cS (hc) ?_ | refine cSA (hN1) ?_ | refine cSA (hO2) ?_ | refine cS (hfh) ?_ | refine cS (hf14) ?_ | refine cS (hf26) ?_ | fail) | ((with_reducible refine isT ?_); first | refine cT (hc) ?_ | refine cTA (hN1) ?_ | refine cTA (hO2) ?_ | refine cT (hfh) ?_ | refine cT (hf14) ?_ | refine cT (hf26) ?_ | fail) | (refine finY_S ?_) | ((with_reducible refine isE ?_); refine eA ?_; (repeat' (first | exact le_tq0 rfl | exact le_tq0r rfl | refine le_tqr rfl ?_ | refine le_tq rfl ?_ | exact trivial | refine le_int ?_ | refine le_bool ?_ | refine le_str ?_ | refine le_sl ?_ | refine le_own ?_ | refine le_osl ?_ | refine le_nsl ?_ | exact rfl | (first | rfl | simp; done) | refine ⟨?_, ?_⟩ | fail))) | ((with_reducible refine isI ?_ ?_); (kernel_rfl)) | fail)
theorem gRenewNo (t : Tbl) (b : List UInt8) (n : Int) (o l : Bool) (hs : ¬ mayL b n) : Good Tryd.prog Γ 50 [.agg (tq t), edI b n o l] [] (.ret (.sl 1 [])) [] := by
  have hc := gECheckI (Γ := Γ) b n o l
  rw [if_neg hs] at hc
  refine sh_start mixed F50 rfl ⟨(by first | exact rfl | (simp only [go_sem, seval]; done) | (simp only [go_sem, seval]; exact rfl)), (by first | exact rfl | (simp only [go_sem, seval]; done) | (simp only [go_sem, seval]; exact rfl)), (by first | exact rfl | (simp only [go_sem, seval]; done) | (simp only [go_sem, seval]; exact rfl)), (by first | exact rfl | (simp only [go_sem, seval]; done) | (simp only [go_sem, seval]; exact rfl)), (by first | exact rfl | (simp only [go_sem, seval]; done) | (simp only [go_sem, seval]; exact rfl))⟩ ?_
  repeat' (first | (with_reducible exact trivial) | simp (maxSteps := 2000000) (disch := omega) only [go_sem, seval] | ((with_reducible refine isS ?_); first | refine cS (hc) ?_ | fail) | ((with_reducible refine isT ?_); first | refine cT (hc) ?_ | fail) | ((with_reducible refine isE ?_); refine eA ?_; (repeat' (first | exact le_tq0 rfl | exact le_tq0r rfl | refine le_tqr rfl ?_ | refine le_tq rfl ?_ | exact trivial | refine le_int ?_ | refine le_bool ?_ | refine le_str ?_ | refine le_sl ?_ | refine le_own ?_ | refine le_osl ?_ | refine le_nsl ?_ | exact rfl | refine ⟨?_, ?_⟩ | fail))) | ((with_reducible refine isI ?_ ?_); (kernel_rfl)) | fail)
end Go.Proofs.YtmkblhinpnodaaaDoor
