/- Layer 22: the laws ScriptBack, ScriptJoins, ScriptShort. Own work. -/
import Derived.Test.YtlijecknkpcgfaaDoorVp
import Derived.Test.YtlijecknkpcgfaaDoorScb
import Derived.Test.YtlijecknkpcgfaaDoorCodl
namespace Go.Proofs.YtlijecknkpcgfaaDoor
open Go Go.Shade
variable {Γ : Globs}
set_option maxHeartbeats 8000000 in
theorem gLShort (l : List Stp) (hi : ∀ s ∈ l, inS s) : Go.Shade.Good Tryd.prog Γ 4 [.sl 50 (l.map sR)] [] (.ret (.bool true)) [] := by
  have hr := gRowV (Γ := Γ) l
  have hL := inS_cut hi
  have hL60 := cutS_len l
  have ha := gAwakeV (Γ := Γ)
  generalize cutS l = L at hr hL hL60
  have hp := gPutS (Γ := Γ) L (by omega) hL
  have hg0 := gGetS (Γ := Γ) [] (by simp)
  rw [show resG [] = .tup [.sl 50 [], .int .i64 0, .int .i64 0] from rfl] at hg0
  refine sh_start mixed F4 rfl ⟨(by first | exact rfl | (simp only [go_sem, seval]; done) | (simp only [go_sem, seval]; exact rfl)), (by first | exact rfl | (simp only [go_sem, seval]; done) | (simp only [go_sem, seval]; exact rfl)), (by first | exact rfl | (simp only [go_sem, seval]; done) | (simp only [go_sem, seval]; exact rfl)), (by first | exact rfl | (simp only [go_sem, seval]; done) | (simp only [go_sem, seval]; exact rfl)), (by first | exact rfl | (simp only [go_sem, seval]; done) | (simp only [go_sem, seval]; exact rfl))⟩ ?_
  rcases Classical.em (∀ s ∈ L, mayV s) with hm | hm
  · rw [resP_ok hm (by omega)] at hp
    rcases List.eq_nil_or_concat L with rfl | ⟨K, s, rfl⟩
    · repeat' (first | (with_reducible exact trivial) | simp (maxSteps := 2000000) (disch := omega) only [List.length_nil, go_sem, seval] | ((with_reducible refine isS ?_); first | refine cS (hr) ?_ | refine cS (hp) ?_ | refine cS (hg0) ?_ | refine cS (ha) ?_ | fail) | ((with_reducible refine isE ?_); refine eA ?_; (repeat' (first | exact le_mq0 rfl | exact le_mq0r rfl | exact le_jk50 (by simp only [List.length_cons, List.length_append, mq_len, List.length_nil]) | refine le_mqr ?_ | refine le_mq ?_ | exact trivial | refine le_int ?_ | refine le_bool ?_ | refine le_str ?_ | refine le_sl ?_ | refine le_own ?_ | refine le_osl ?_ | refine le_nsl ?_ | exact rfl | refine ⟨?_, ?_⟩ | fail))) | ((with_reducible refine isI ?_ ?_); (kernel_rfl)) | fail)
    · rw [List.concat_eq_append] at *
      have hs1 := hm s (by simp)
      have hs2 := (hL s (by simp)).1
      have hK : ∀ t ∈ K, mayV t ∧ inS t := fun t ht => ⟨hm t (by simp [ht]), (hL t (by simp [ht])).1⟩
      rw [List.length_append, List.length_singleton] at hL60
      have hlen := putS_len fun t ht => (hK t ht).1
      have hl1 := layS_len hs1
      have htwo := layS_two (s := s)
      have hpK := gPutS (Γ := Γ) K (by omega) (fun t ht => hL t (by simp [ht]))
      rw [resP_ok (fun t ht => (hK t ht).1) (by omega)] at hpK
      rw [putS_snoc] at hp
      have hcut : (putS K ++ layS s).take ((putS K ++ layS s).length - 1) = putS K ++ (layS s).dropLast := by
        rw [List.length_append, List.take_append, List.take_of_length_le (by omega), show (putS K).length + (layS s).length - 1 - (putS K).length = (layS s).length - 1 by omega, ← List.dropLast_eq_take]
      have hg := gGetS (Γ := Γ) (putS K ++ (layS s).dropLast) (by rw [List.length_append, List.length_dropLast]; omega)
      have eg : gtS 4096 (putS K ++ (layS s).dropLast) = (K, (layS s).dropLast, false) := by
        have := gtS_app K hK (4095 - K.length + 1) (layS s).dropLast
        rw [show K.length + (4095 - K.length + 1) = 4096 by omega] at this
        rw [this]
        match hd : (layS s).dropLast, rd_short hs1 hs2 with
        | [], _ =>
          have := congrArg List.length hd
          rw [List.length_dropLast, List.length_nil] at this
          omega
        | c :: r, h => rw [gtS, h, List.append_nil]
      rw [resG_is, eg] at hg
      simp only [Bool.false_eq_true, if_false] at hg
      have hs := gSameL (Γ := Γ) K K (by omega)
      rw [decide_eq_true rfl] at hs
      have hll : (putS K ++ layS s).length = (putS K).length + (layS s).length := List.length_append
      generalize hX : putS K ++ layS s = X at hp hcut hll
      have hXn : ((X.length : Int) - 1).toNat = X.length - 1 := by omega
      have hKn : (((K.length + 1 : Nat) : Int) - 1).toNat = K.length := by omega
      have hKt : (K.map sR ++ [sR s]).take K.length = K.map sR := by rw [show K.length = (K.map sR).length by simp, List.take_left]
      have hKl : (K.map sR ++ [sR s]).length = K.length + 1 := by simp
      simp only [List.map_append, List.map_cons, List.map_nil] at hr hp
      repeat' (first | (with_reducible exact trivial) | simp (maxSteps := 2000000) (disch := omega) only [bys_length, hKl, bys_take, hXn, hKn, hKt, hcut, go_sem, seval] | ((with_reducible refine isS ?_); first | refine cS (hr) ?_ | refine cS (hp) ?_ | refine cS (hg0) ?_ | refine cS (hg) ?_ | refine cS (hpK) ?_ | refine cS (hs) ?_ | refine cS (ha) ?_ | fail) | ((with_reducible refine isE ?_); refine eA ?_; (repeat' (first | exact le_mq0 rfl | exact le_mq0r rfl | exact le_jk50 (by simp only [List.length_cons, List.length_append, mq_len, List.length_nil]) | refine le_mqr ?_ | refine le_mq ?_ | exact trivial | refine le_int ?_ | refine le_bool ?_ | refine le_str ?_ | refine le_sl ?_ | refine le_own ?_ | refine le_osl ?_ | refine le_nsl ?_ | exact rfl | refine ⟨?_, ?_⟩ | fail))) | ((with_reducible refine isI ?_ ?_); (kernel_rfl)) | fail)
  · rw [resP_no hm] at hp
    repeat' (first | (with_reducible exact trivial) | simp (maxSteps := 2000000) (disch := omega) only [List.length_nil, go_sem, seval] | ((with_reducible refine isS ?_); first | refine cS (hr) ?_ | refine cS (hp) ?_ | refine cS (hg0) ?_ | refine cS (ha) ?_ | fail) | ((with_reducible refine isE ?_); refine eA ?_; (repeat' (first | exact le_mq0 rfl | exact le_mq0r rfl | exact le_jk50 (by simp only [List.length_cons, List.length_append, mq_len, List.length_nil]) | refine le_mqr ?_ | refine le_mq ?_ | exact trivial | refine le_int ?_ | refine le_bool ?_ | refine le_str ?_ | refine le_sl ?_ | refine le_own ?_ | refine le_osl ?_ | refine le_nsl ?_ | exact rfl | refine ⟨?_, ?_⟩ | fail))) | ((with_reducible refine isI ?_ ?_); (kernel_rfl)) | fail)
end Go.Proofs.YtlijecknkpcgfaaDoor
