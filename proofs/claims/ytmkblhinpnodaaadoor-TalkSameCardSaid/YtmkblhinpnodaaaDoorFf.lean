/- Layer 14: the document's keys that lead to a state. Own work. -/
import Derived.Test.YtmkblhinpnodaaaDoorFe
import Derived.Test.YtmkblhinpnodaaaDoorZ3
namespace Go.Proofs.YtmkblhinpnodaaaDoor
open Go Go.Shade
variable {Γ : Globs}
theorem home_eq (t : Tbl) {m : Nat} (hm : 0 < m) : homeV t m = if (keysOf t 23 1).length = 0 then (if (keysOf t 19 m).length = 0 then keysOf t 21 m else keysOf t 19 m) else keysOf t 23 1 := by
  unfold homeV keysOf
  cases keyOf t 23 <;> cases keyOf t 19 <;> simp
  omega
set_option maxHeartbeats 8000000 in
theorem gRRenew (t : Tbl) (s : Ed) (hs : s.ok) : Good Tryd.prog Γ 37 [.agg (tq t), edA s] [] (.ret (.own 0 1 (bys (renewV t s)))) [(0, .tok)] := by
  obtain ⟨b, n, o, l⟩ := s
  obtain ⟨hb, hn⟩ := hs
  simp only at hb hn
  have hmy := gERMayI (Γ := Γ) b n o l
  rw [decide_eq_true ⟨hb, by omega, by omega⟩] at hmy
  obtain ⟨R, hR⟩ : ∃ R, R = renewV t ⟨b, n, o, l⟩ := ⟨_, rfl⟩
  rw [← hR]
  unfold renewV at hR
  simp only at hR
  have hf14 := gRkey (Γ := Γ) t 14 1 (by omega) (by omega)
  have hf26 := gRkey (Γ := Γ) t 26 1 (by omega) (by omega)
  have hf23 := gRkey (Γ := Γ) t 23 1 (by omega) (by omega)
  have hf19 := gRkey (Γ := Γ) t 19 (b.length - n) (by omega) (by omega)
  have hf21 := gRkey (Γ := Γ) t 21 (b.length - n) (by omega) (by omega)
  have hk14 := keys_len t 14 1
  have hk26 := keys_len t 26 1
  have hk23 := keys_len t 23 1
  have hk19 := keys_len t 19 (b.length - n)
  have hk21 := keys_len t 21 (b.length - n)
  have hbl : (b.drop n).length = b.length - n := List.length_drop
  have hal : (b.take n).length = n := take_len hn
  have ht1 := (tell_len t (b.drop n)).2
  have ht2 := (tell_len t (b.take n)).2
  rw [hbl] at ht1
  rw [hal] at ht2
  have g1 := gRTold (Γ := Γ) t (b.drop n) (by omega)
  have g2 := gRTold (Γ := Γ) t (b.take n) (by omega)
  have e1 : ((n : Nat) : Int).toNat = n := Int.toNat_natCast n
  have hdt : (b.drop n).take (b.length - n) = b.drop n := List.take_of_length_le (by omega)
  have hh := home_eq t (m := b.length - n)
  generalize tellV t (b.drop n) = T1 at g1 ht1 hR
  generalize tellV t (b.take n) = T2 at g2 ht2 hR
  generalize keysOf t 23 1 = H1 at hf23 hk23 hh
  generalize keysOf t 19 (b.length - n) = H2 at hf19 hk19 hh
  generalize keysOf t 21 (b.length - n) = H3 at hf21 hk21 hh
  by_cases hnl : n < b.length
  · rw [if_pos hnl, hh (by omega)] at hR
    by_cases l1 : H1.length = 0
    · rw [if_pos l1] at hR
      by_cases l2 : H2.length = 0
      · rw [if_pos l2] at hR
        cases o <;> cases l
        all_goals
          simp only [if_true, Bool.false_eq_true, if_false, List.append_nil, List.nil_append] at hR
          subst hR
          refine sh_start mixed F37 rfl ⟨(by first | exact rfl | (simp only [go_sem, seval]; done) | (simp only [go_sem, seval]; exact rfl)), (by first | exact rfl | (simp only [go_sem, seval]; done) | (simp only [go_sem, seval]; exact rfl)), (by first | exact rfl | (simp only [go_sem, seval]; done) | (simp only [go_sem, seval]; exact rfl)), (by first | exact rfl | (simp only [go_sem, seval]; done) | (simp only [go_sem, seval]; exact rfl)), (by first | exact rfl | (simp only [go_sem, seval]; done) | (simp only [go_sem, seval]; exact rfl))⟩ ?_
          repeat' (first | (with_reducible exact trivial) | simp (maxSteps := 2000000) (disch := omega) only [bys_length, bys_take, bys_drop, bys_cat, hbl, e1, l1, l2, List.take_length, List.length_append, go_sem, seval] | ((with_reducible refine isS ?_); first | refine cS (hmy) ?_ | refine cS (g1) ?_ | refine cS (g2) ?_ | refine cS (hf14) ?_ | refine cS (hf26) ?_ | refine cS (hf23) ?_ | refine cS (hf19) ?_ | refine cS (hf21) ?_ | fail) | ((with_reducible refine isT ?_); first | refine cT (hmy) ?_ | refine cT (g1) ?_ | refine cT (g2) ?_ | refine cT (hf14) ?_ | refine cT (hf26) ?_ | refine cT (hf23) ?_ | refine cT (hf19) ?_ | refine cT (hf21) ?_ | fail) | ((with_reducible refine isE ?_); refine eA ?_; (repeat' (first | exact le_tq0 rfl | exact le_tq0r rfl | refine le_tqr rfl ?_ | refine le_tq rfl ?_ | exact trivial | refine le_int ?_ | refine le_bool ?_ | refine le_str ?_ | refine le_sl ?_ | refine le_own ?_ | refine le_osl ?_ | refine le_nsl ?_ | exact rfl | (first | rfl | simp; done) | refine ⟨?_, ?_⟩ | fail))) | ((with_reducible refine isI ?_ ?_); (kernel_rfl)) | fail)
      · rw [if_neg l2] at hR
        cases o <;> cases l
        all_goals
          simp only [if_true, Bool.false_eq_true, if_false, List.append_nil, List.nil_append] at hR
          subst hR
          refine sh_start mixed F37 rfl ⟨(by first | exact rfl | (simp only [go_sem, seval]; done) | (simp only [go_sem, seval]; exact rfl)), (by first | exact rfl | (simp only [go_sem, seval]; done) | (simp only [go_sem, seval]; exact rfl)), (by first | exact rfl | (simp only [go_sem, seval]; done) | (simp only [go_sem, seval]; exact rfl)), (by first | exact rfl | (simp only [go_sem, seval]; done) | (simp only [go_sem, seval]; exact rfl)), (by first | exact rfl | (simp only [go_sem, seval]; done) | (simp only [go_sem, seval]; exact rfl))⟩ ?_
          repeat' (first | (with_reducible exact trivial) | simp (maxSteps := 2000000) (disch := omega) only [bys_length, bys_take, bys_drop, bys_cat, hbl, e1, l1, List.take_length, List.length_append, go_sem, seval] | ((with_reducible refine isS ?_); first | refine cS (hmy) ?_ | refine cS (g1) ?_ | refine cS (g2) ?_ | refine cS (hf14) ?_ | refine cS (hf26) ?_ | refine cS (hf23) ?_ | refine cS (hf19) ?_ | fail) | ((with_reducible refine isT ?_); first | refine cT (hmy) ?_ | refine cT (g1) ?_ | refine cT (g2) ?_ | refine cT (hf14) ?_ | refine cT (hf26) ?_ | refine cT (hf23) ?_ | refine cT (hf19) ?_ | fail) | ((with_reducible refine isE ?_); refine eA ?_; (repeat' (first | exact le_tq0 rfl | exact le_tq0r rfl | refine le_tqr rfl ?_ | refine le_tq rfl ?_ | exact trivial | refine le_int ?_ | refine le_bool ?_ | refine le_str ?_ | refine le_sl ?_ | refine le_own ?_ | refine le_osl ?_ | refine le_nsl ?_ | exact rfl | (first | rfl | simp; done) | refine ⟨?_, ?_⟩ | fail))) | ((with_reducible refine isI ?_ ?_); (kernel_rfl)) | fail)
    · rw [if_neg l1] at hR
      cases o <;> cases l
      all_goals
        simp only [if_true, Bool.false_eq_true, if_false, List.append_nil, List.nil_append] at hR
        subst hR
        refine sh_start mixed F37 rfl ⟨(by first | exact rfl | (simp only [go_sem, seval]; done) | (simp only [go_sem, seval]; exact rfl)), (by first | exact rfl | (simp only [go_sem, seval]; done) | (simp only [go_sem, seval]; exact rfl)), (by first | exact rfl | (simp only [go_sem, seval]; done) | (simp only [go_sem, seval]; exact rfl)), (by first | exact rfl | (simp only [go_sem, seval]; done) | (simp only [go_sem, seval]; exact rfl)), (by first | exact rfl | (simp only [go_sem, seval]; done) | (simp only [go_sem, seval]; exact rfl))⟩ ?_
        repeat' (first | (with_reducible exact trivial) | simp (maxSteps := 2000000) (disch := omega) only [bys_length, bys_take, bys_drop, bys_cat, hbl, e1, List.take_length, List.length_append, go_sem, seval] | ((with_reducible refine isS ?_); first | refine cS (hmy) ?_ | refine cS (g1) ?_ | refine cS (g2) ?_ | refine cS (hf14) ?_ | refine cS (hf26) ?_ | refine cS (hf23) ?_ | fail) | ((with_reducible refine isT ?_); first | refine cT (hmy) ?_ | refine cT (g1) ?_ | refine cT (g2) ?_ | refine cT (hf14) ?_ | refine cT (hf26) ?_ | refine cT (hf23) ?_ | fail) | ((with_reducible refine isE ?_); refine eA ?_; (repeat' (first | exact le_tq0 rfl | exact le_tq0r rfl | refine le_tqr rfl ?_ | refine le_tq rfl ?_ | exact trivial | refine le_int ?_ | refine le_bool ?_ | refine le_str ?_ | refine le_sl ?_ | refine le_own ?_ | refine le_osl ?_ | refine le_nsl ?_ | exact rfl | (first | rfl | simp; done) | refine ⟨?_, ?_⟩ | fail))) | ((with_reducible refine isI ?_ ?_); (kernel_rfl)) | fail)
  · rw [if_neg hnl, List.nil_append] at hR
    have hz : b.length - n = 0 := by omega
    rw [hz] at hf19 hf21
    by_cases l1 : H1.length = 0
    · by_cases l2 : H2.length = 0
      · cases o <;> cases l
        all_goals
          simp only [if_true, Bool.false_eq_true, if_false, List.append_nil, List.nil_append] at hR
          subst hR
          refine sh_start mixed F37 rfl ⟨(by first | exact rfl | (simp only [go_sem, seval]; done) | (simp only [go_sem, seval]; exact rfl)), (by first | exact rfl | (simp only [go_sem, seval]; done) | (simp only [go_sem, seval]; exact rfl)), (by first | exact rfl | (simp only [go_sem, seval]; done) | (simp only [go_sem, seval]; exact rfl)), (by first | exact rfl | (simp only [go_sem, seval]; done) | (simp only [go_sem, seval]; exact rfl)), (by first | exact rfl | (simp only [go_sem, seval]; done) | (simp only [go_sem, seval]; exact rfl))⟩ ?_
          repeat' (first | (with_reducible exact trivial) | simp (maxSteps := 2000000) (disch := omega) only [bys_length, bys_take, bys_drop, bys_cat, hbl, hz, e1, l1, l2, List.take_length, List.length_append, go_sem, seval] | ((with_reducible refine isS ?_); first | refine cS (hmy) ?_ | refine cS (g1) ?_ | refine cS (g2) ?_ | refine cS (hf14) ?_ | refine cS (hf26) ?_ | refine cS (hf23) ?_ | refine cS (hf19) ?_ | refine cS (hf21) ?_ | fail) | ((with_reducible refine isT ?_); first | refine cT (hmy) ?_ | refine cT (g1) ?_ | refine cT (g2) ?_ | refine cT (hf14) ?_ | refine cT (hf26) ?_ | refine cT (hf23) ?_ | refine cT (hf19) ?_ | refine cT (hf21) ?_ | fail) | ((with_reducible refine isE ?_); refine eA ?_; (repeat' (first | exact le_tq0 rfl | exact le_tq0r rfl | refine le_tqr rfl ?_ | refine le_tq rfl ?_ | exact trivial | refine le_int ?_ | refine le_bool ?_ | refine le_str ?_ | refine le_sl ?_ | refine le_own ?_ | refine le_osl ?_ | refine le_nsl ?_ | exact rfl | (first | rfl | simp; done) | refine ⟨?_, ?_⟩ | fail))) | ((with_reducible refine isI ?_ ?_); (kernel_rfl)) | fail)
      · omega
    · cases o <;> cases l
      all_goals
        simp only [if_true, Bool.false_eq_true, if_false, List.append_nil, List.nil_append] at hR
        subst hR
        refine sh_start mixed F37 rfl ⟨(by first | exact rfl | (simp only [go_sem, seval]; done) | (simp only [go_sem, seval]; exact rfl)), (by first | exact rfl | (simp only [go_sem, seval]; done) | (simp only [go_sem, seval]; exact rfl)), (by first | exact rfl | (simp only [go_sem, seval]; done) | (simp only [go_sem, seval]; exact rfl)), (by first | exact rfl | (simp only [go_sem, seval]; done) | (simp only [go_sem, seval]; exact rfl)), (by first | exact rfl | (simp only [go_sem, seval]; done) | (simp only [go_sem, seval]; exact rfl))⟩ ?_
        repeat' (first | (with_reducible exact trivial) | simp (maxSteps := 2000000) (disch := omega) only [bys_length, bys_take, bys_drop, bys_cat, hbl, hz, e1, List.take_length, List.length_append, go_sem, seval] | ((with_reducible refine isS ?_); first | refine cS (hmy) ?_ | refine cS (g1) ?_ | refine cS (g2) ?_ | refine cS (hf14) ?_ | refine cS (hf26) ?_ | refine cS (hf23) ?_ | fail) | ((with_reducible refine isT ?_); first | refine cT (hmy) ?_ | refine cT (g1) ?_ | refine cT (g2) ?_ | refine cT (hf14) ?_ | refine cT (hf26) ?_ | refine cT (hf23) ?_ | fail) | ((with_reducible refine isE ?_); refine eA ?_; (repeat' (first | exact le_tq0 rfl | exact le_tq0r rfl | refine le_tqr rfl ?_ | refine le_tq rfl ?_ | exact trivial | refine le_int ?_ | refine le_bool ?_ | refine le_str ?_ | refine le_sl ?_ | refine le_own ?_ | refine le_osl ?_ | refine le_nsl ?_ | exact rfl | (first | rfl | simp; done) | refine ⟨?_, ?_⟩ | fail))) | ((with_reducible refine isI ?_ ?_); (kernel_rfl)) | fail)
theorem gRRenewNo (t : Tbl) (b : List UInt8) (n : Int) (o l : Bool) (hs : ¬ mayL b n) : Good Tryd.prog Γ 37 [.agg (tq t), edI b n o l] [] (.ret (.sl 1 [])) [] := by
  have hmy := gERMayI (Γ := Γ) b n o l
  rw [decide_eq_false hs] at hmy
  refine sh_start mixed F37 rfl ⟨(by first | exact rfl | (simp only [go_sem, seval]; done) | (simp only [go_sem, seval]; exact rfl)), (by first | exact rfl | (simp only [go_sem, seval]; done) | (simp only [go_sem, seval]; exact rfl)), (by first | exact rfl | (simp only [go_sem, seval]; done) | (simp only [go_sem, seval]; exact rfl)), (by first | exact rfl | (simp only [go_sem, seval]; done) | (simp only [go_sem, seval]; exact rfl)), (by first | exact rfl | (simp only [go_sem, seval]; done) | (simp only [go_sem, seval]; exact rfl))⟩ ?_
  repeat' (first | (with_reducible exact trivial) | simp (maxSteps := 2000000) (disch := omega) only [go_sem, seval] | ((with_reducible refine isS ?_); first | refine cS (hmy) ?_ | fail) | ((with_reducible refine isT ?_); first | refine cT (hmy) ?_ | fail) | ((with_reducible refine isE ?_); refine eA ?_; (repeat' (first | exact le_tq0 rfl | exact le_tq0r rfl | refine le_tqr rfl ?_ | refine le_tq rfl ?_ | exact trivial | refine le_int ?_ | refine le_bool ?_ | refine le_str ?_ | refine le_sl ?_ | refine le_own ?_ | refine le_osl ?_ | refine le_nsl ?_ | exact rfl | refine ⟨?_, ?_⟩ | fail))) | ((with_reducible refine isI ?_ ?_); (kernel_rfl)) | fail)
end Go.Proofs.YtmkblhinpnodaaaDoor
