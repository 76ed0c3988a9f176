/- Layer 22: the laws ScriptBack, ScriptJoins, ScriptShort. Own work. -/
import Derived.Test.YtlijecknkpcgfaaDoorVp
import Derived.Test.YtlijecknkpcgfaaDoorScb
namespace Go.Proofs.YtlijecknkpcgfaaDoor
open Go Go.Shade
variable {Γ : Globs}
theorem take_900 (b : List UInt8) : (b.take 900).length ≤ 900 := by rw [List.length_take]; omega
set_option maxHeartbeats 8000000 in
theorem gLBack (l : List Stp) (b : List UInt8) (hi : ∀ s ∈ l, inS s) : Go.Shade.Good Tryd.prog Γ 8 [.sl 50 (l.map sR), .sl 1 (bys b)] [] (.ret (.bool true)) [] := by
  have hr := gRowV (Γ := Γ) l
  have hL := inS_cut hi
  have hL60 := cutS_len l
  have hf := gFewV (Γ := Γ) b
  have hB := take_900 b
  have ha := gAwakeV (Γ := Γ)
  generalize cutS l = L at hr hL hL60
  generalize b.take 900 = B at hf hB
  have hgB := gGetS (Γ := Γ) B (by omega)
  rw [resG_is] at hgB
  obtain ⟨e, hG, hG4⟩ := gtS_is 4096 B
  generalize (gtS 4096 B).2.2 = ok at hgB
  generalize (gtS 4096 B).2.1 = rest at e
  generalize (gtS 4096 B).1 = G at hgB e hG hG4
  have hpG := gPutS (Γ := Γ) G (by omega) (fun s hs => ⟨(hG s hs).2, by have := mayV_b (hG s hs).1; omega⟩)
  rw [resP_ok (fun s hs => (hG s hs).1) hG4] at hpG
  have htk : B.take (putS G).length = putS G := by rw [e, List.take_left]
  have htwo := putS_two G
  have hle : (putS G).length ≤ B.length := by rw [e, List.length_append]; omega
  have ho := gOctets (Γ := Γ) (putS G) (putS G)
  rw [decide_eq_true rfl] at ho
  have hp := gPutS (Γ := Γ) L (by omega) hL
  refine sh_start mixed F8 rfl ⟨(by first | exact rfl | (simp only [go_sem, seval]; done) | (simp only [go_sem, seval]; exact rfl)), (by first | exact rfl | (simp only [go_sem, seval]; done) | (simp only [go_sem, seval]; exact rfl)), (by first | exact rfl | (simp only [go_sem, seval]; done) | (simp only [go_sem, seval]; exact rfl)), (by first | exact rfl | (simp only [go_sem, seval]; done) | (simp only [go_sem, seval]; exact rfl)), (by first | exact rfl | (simp only [go_sem, seval]; done) | (simp only [go_sem, seval]; exact rfl))⟩ ?_
  rcases Classical.em (∀ s ∈ L, mayV s) with hm | hm
  · have hlen := putS_len hm
    have hg := gGetS (Γ := Γ) (putS L) (by omega)
    rw [resG_put (fun s hs => ⟨hm s hs, (hL s hs).1⟩) (by omega)] at hg
    rw [resP_ok hm (by omega)] at hp
    have hs := gSameL (Γ := Γ) L L (by omega)
    rw [decide_eq_true rfl] at hs
    repeat' (first | (with_reducible exact trivial) | simp (maxSteps := 2000000) (disch := omega) only [bys_length, List.length_map, go_sem, seval] | ((with_reducible refine isS ?_); first | refine cS (hr) ?_ | refine cS (hf) ?_ | refine cS (hp) ?_ | refine cS (hg) ?_ | refine cS (hs) ?_ | refine cS (hgB) ?_ | refine cS (hpG) ?_ | fail) | ((with_reducible refine isI ?_ ?_); (kernel_rfl)) | fail)
    refine sh_loopX mixed (fun i : Nat => ([(1, .sl 1 (bys B)), (10, .sl 50 (G.map sR)), (11, .int .i64 ((putS G).length : Nat)), (13, .sl 1 (bys (putS G))), (14, .int .i64 0), (15, .int .i64 i)], [])) (fun i => G.length - i) (fun i => i ≤ G.length) 0 (by omega) wkAu ?_
    intro i hi
    by_cases h : i < G.length
    · obtain ⟨s, hs, _, hg⟩ := selem_at h
      have hc := gCheckS (Γ := Γ) s (by have := mayV_b (hG s hs).1; omega)
      rw [okS_may s (hG s hs).2, decide_eq_true (hG s hs).1] at hc
      repeat' (first | (with_reducible exact trivial) | simp (maxSteps := 2000000) (disch := omega) only [List.length_map, hg, sR_map, Int.toNat_natCast, go_sem, seval] | ((with_reducible refine isS ?_); first | refine cS (hc) ?_ | fail) | ((with_reducible refine isI ?_ ?_); (kernel_rfl)) | fail)
      exact ⟨i + 1, by omega, by omega, wkAu⟩
    · repeat' (first | (with_reducible exact trivial) | simp (maxSteps := 2000000) (disch := omega) only [List.length_map, bys_length, Int.toNat_natCast, bys_take, htk, go_sem, seval] | ((with_reducible refine isS ?_); first | refine cS (ho) ?_ | refine cS (ha) ?_ | fail) | ((with_reducible refine isE ?_); refine eA ?_; (repeat' (first | exact le_mq0 rfl | exact le_mq0r rfl | exact le_jk50 (by simp only [List.length_cons, List.length_append, mq_len, List.length_nil]) | refine le_mqr ?_ | refine le_mq ?_ | exact trivial | refine le_int ?_ | refine le_bool ?_ | refine le_str ?_ | refine le_sl ?_ | refine le_own ?_ | refine le_osl ?_ | refine le_nsl ?_ | exact rfl | refine ⟨?_, ?_⟩ | fail))) | ((with_reducible refine isI ?_ ?_); (kernel_rfl)) | fail)
  · rw [resP_no hm] at hp
    repeat' (first | (with_reducible exact trivial) | simp (maxSteps := 2000000) (disch := omega) only [bys_length, List.length_map, go_sem, seval] | ((with_reducible refine isS ?_); first | refine cS (hr) ?_ | refine cS (hf) ?_ | refine cS (hp) ?_ | refine cS (hgB) ?_ | refine cS (hpG) ?_ | fail) | ((with_reducible refine isI ?_ ?_); (kernel_rfl)) | fail)
    refine sh_loopX mixed (fun i : Nat => ([(1, .sl 1 (bys B)), (10, .sl 50 (G.map sR)), (11, .int .i64 ((putS G).length : Nat)), (13, .sl 1 (bys (putS G))), (14, .int .i64 0), (15, .int .i64 i)], [])) (fun i => G.length - i) (fun i => i ≤ G.length) 0 (by omega) wkAu ?_
    intro i hi
    by_cases h : i < G.length
    · obtain ⟨s, hs, _, hg⟩ := selem_at h
      have hc := gCheckS (Γ := Γ) s (by have := mayV_b (hG s hs).1; omega)
      rw [okS_may s (hG s hs).2, decide_eq_true (hG s hs).1] at hc
      repeat' (first | (with_reducible exact trivial) | simp (maxSteps := 2000000) (disch := omega) only [List.length_map, hg, sR_map, Int.toNat_natCast, go_sem, seval] | ((with_reducible refine isS ?_); first | refine cS (hc) ?_ | fail) | ((with_reducible refine isI ?_ ?_); (kernel_rfl)) | fail)
      exact ⟨i + 1, by omega, by omega, wkAu⟩
    · repeat' (first | (with_reducible exact trivial) | simp (maxSteps := 2000000) (disch := omega) only [List.length_map, bys_length, Int.toNat_natCast, bys_take, htk, go_sem, seval] | ((with_reducible refine isS ?_); first | refine cS (ho) ?_ | refine cS (ha) ?_ | fail) | ((with_reducible refine isE ?_); refine eA ?_; (repeat' (first | exact le_mq0 rfl | exact le_mq0r rfl | exact le_jk50 (by simp only [List.length_cons, List.length_append, mq_len, List.length_nil]) | refine le_mqr ?_ | refine le_mq ?_ | exact trivial | refine le_int ?_ | refine le_bool ?_ | refine le_str ?_ | refine le_sl ?_ | refine le_own ?_ | refine le_osl ?_ | refine le_nsl ?_ | exact rfl | refine ⟨?_, ?_⟩ | fail))) | ((with_reducible refine isI ?_ ?_); (kernel_rfl)) | fail)
set_option maxHeartbeats 8000000 in
theorem gLJoins (l : List Stp) (b : List UInt8) (hi : ∀ s ∈ l, inS s) : Go.Shade.Good Tryd.prog Γ 3 [.sl 50 (l.map sR), .sl 1 (bys b)] [] (.ret (.bool true)) [] := by
  have hr := gRowV (Γ := Γ) l
  have hL := inS_cut hi
  have hL60 := cutS_len l
  have hf := gFewV (Γ := Γ) b
  have hB := take_900 b
  have ha := gAwakeV (Γ := Γ)
  generalize cutS l = L at hr hL hL60
  generalize b.take 900 = B at hf hB
  have hp := gPutS (Γ := Γ) L (by omega) hL
  refine sh_start mixed F3 rfl ⟨(by first | exact rfl | (simp only [go_sem, seval]; done) | (simp only [go_sem, seval]; exact rfl)), (by first | exact rfl | (simp only [go_sem, seval]; done) | (simp only [go_sem, seval]; exact rfl)), (by first | exact rfl | (simp only [go_sem, seval]; done) | (simp only [go_sem, seval]; exact rfl)), (by first | exact rfl | (simp only [go_sem, seval]; done) | (simp only [go_sem, seval]; exact rfl)), (by first | exact rfl | (simp only [go_sem, seval]; done) | (simp only [go_sem, seval]; exact rfl))⟩ ?_
  rcases Classical.em (∀ s ∈ L, mayV s) with hm | hm
  · have hlen := putS_len hm
    rw [resP_ok hm (by omega)] at hp
    have hgB := gGetS (Γ := Γ) B (by omega)
    have hgA := gGetS (Γ := Γ) (putS L ++ B) (by rw [List.length_append]; omega)
    have eA : gtS 4096 (putS L ++ B) = (L ++ (gtS 4096 B).1, (gtS 4096 B).2) := by
      have := gtS_app L (fun s hs => ⟨hm s hs, (hL s hs).1⟩) (4096 - L.length) B
      rw [show L.length + (4096 - L.length) = 4096 by omega] at this
      rw [this, gtS_room (4096 - L.length) 4096 B (by omega) (by omega)]
    rw [resG_is] at hgB hgA
    rw [eA] at hgA
    obtain ⟨e, hG, _⟩ := gtS_is 4096 B
    simp only at hgA
    generalize (gtS 4096 B).2.2 = ok at hgB hgA
    generalize (gtS 4096 B).2.1 = rest at e
    generalize (gtS 4096 B).1 = G at hgB hgA e hG
    have htwo := putS_two G
    have hle : (putS G).length ≤ B.length := by rw [e, List.length_append]; omega
    rw [show putS (L ++ G) = putS L ++ putS G by simp [putS], List.length_append] at hgA
    have hs := gSameL (Γ := Γ) (L ++ G) (L ++ G) (by rw [List.length_append]; omega)
    rw [decide_eq_true rfl] at hs
    simp only [List.map_append] at hgA hs
    repeat' (first | (with_reducible exact trivial) | simp (maxSteps := 2000000) (disch := omega) only [bys_length, List.length_map, bys_cat, go_sem, seval] | ((with_reducible refine isS ?_); first | refine cS (hr) ?_ | refine cS (hf) ?_ | refine cS (hp) ?_ | refine cS (hgB) ?_ | refine cS (hgA) ?_ | refine cS (hs) ?_ | refine cS (ha) ?_ | fail) | ((with_reducible refine isE ?_); refine eA ?_; (repeat' (first | exact le_mq0 rfl | exact le_mq0r rfl | exact le_jk50 (by simp only [List.length_cons, List.length_append, mq_len, List.length_nil]) | refine le_mqr ?_ | refine le_mq ?_ | exact trivial | refine le_int ?_ | refine le_bool ?_ | refine le_str ?_ | refine le_sl ?_ | refine le_own ?_ | refine le_osl ?_ | refine le_nsl ?_ | exact rfl | refine ⟨?_, ?_⟩ | fail))) | ((with_reducible refine isI ?_ ?_); (kernel_rfl)) | fail)
    exact eB [] rfl
  · rw [resP_no hm] at hp
    repeat' (first | (with_reducible exact trivial) | simp (maxSteps := 2000000) (disch := omega) only [go_sem, seval] | ((with_reducible refine isS ?_); first | refine cS (hr) ?_ | refine cS (hf) ?_ | refine cS (hp) ?_ | refine cS (ha) ?_ | fail) | ((with_reducible refine isE ?_); refine eA ?_; (repeat' (first | exact le_mq0 rfl | exact le_mq0r rfl | exact le_jk50 (by simp only [List.length_cons, List.length_append, mq_len, List.length_nil]) | refine le_mqr ?_ | refine le_mq ?_ | exact trivial | refine le_int ?_ | refine le_bool ?_ | refine le_str ?_ | refine le_sl ?_ | refine le_own ?_ | refine le_osl ?_ | refine le_nsl ?_ | exact rfl | refine ⟨?_, ?_⟩ | fail))) | ((with_reducible refine isI ?_ ?_); (kernel_rfl)) | fail)
set_option maxHeartbeats 8000000 in
theorem gLShort (l : List Stp) (hi : ∀ s ∈ l, inS s) : Go.Shade.Good Tryd.prog Γ 4 [.sl 50 (l.map sR)] [] (.ret (.bool true)) [] := by
  have hr := gRowV (Γ := Γ) l
  have hL := inS_cut hi
  have hL60 := cutS_len l
  have ha := gAwakeV (Γ := Γ)
  generalize cutS l = L at hr hL hL60
  have hp := gPutS (Γ := Γ) L (by omega) hL
  have hg0 := gGetS (Γ := Γ) [] (by simp)
  rw [show resG [] = .tup [.sl 50 [], .int .i64 0, .int .i64 0] from rfl] at hg0
  refine sh_start mixed F4 rfl ⟨(by first | exact rfl | (simp only [go_sem, seval]; done) | (simp only [go_sem, seval]; exact rfl)), (by first | exact rfl | (simp only [go_sem, seval]; done) | (simp only [go_sem, seval]; exact rfl)), (by first | exact rfl | (simp only [go_sem, seval]; done) | (simp only [go_sem, seval]; exact rfl)), (by first | exact rfl | (simp only [go_sem, seval]; done) | (simp only [go_sem, seval]; exact rfl)), (by first | exact rfl | (simp only [go_sem, seval]; done) | (simp only [go_sem, seval]; exact rfl))⟩ ?_
  rcases Classical.em (∀ s ∈ L, mayV s) with hm | hm
  · rw [resP_ok hm (by omega)] at hp
    rcases List.eq_nil_or_concat L with rfl | ⟨K, s, rfl⟩
    · repeat' (first | (with_reducible exact trivial) | simp (maxSteps := 2000000) (disch := omega) only [List.length_nil, go_sem, seval] | ((with_reducible refine isS ?_); first | refine cS (hr) ?_ | refine cS (hp) ?_ | refine cS (hg0) ?_ | refine cS (ha) ?_ | fail) | ((with_reducible refine isE ?_); refine eA ?_; (repeat' (first | exact le_mq0 rfl | exact le_mq0r rfl | exact le_jk50 (by simp only [List.length_cons, List.length_append, mq_len, List.length_nil]) | refine le_mqr ?_ | refine le_mq ?_ | exact trivial | refine le_int ?_ | refine le_bool ?_ | refine le_str ?_ | refine le_sl ?_ | refine le_own ?_ | refine le_osl ?_ | refine le_nsl ?_ | exact rfl | refine ⟨?_, ?_⟩ | fail))) | ((with_reducible refine isI ?_ ?_); (kernel_rfl)) | fail)
    · rw [List.concat_eq_append] at *
      have hs1 := hm s (by simp)
      have hs2 := (hL s (by simp)).1
      have hK : ∀ t ∈ K, mayV t ∧ inS t := fun t ht => ⟨hm t (by simp [ht]), (hL t (by simp [ht])).1⟩
      rw [List.length_append, List.length_singleton] at hL60
      have hlen := putS_len fun t ht => (hK t ht).1
      have hl1 := layS_len hs1
      have htwo := layS_two (s := s)
      have hpK := gPutS (Γ := Γ) K (by omega) (fun t ht => hL t (by simp [ht]))
      rw [resP_ok (fun t ht => (hK t ht).1) (by omega)] at hpK
      rw [putS_snoc] at hp
      have hcut : (putS K ++ layS s).take ((putS K ++ layS s).length - 1) = putS K ++ (layS s).dropLast := by
        rw [List.length_append, List.take_append, List.take_of_length_le (by omega), show (putS K).length + (layS s).length - 1 - (putS K).length = (layS s).length - 1 by omega, ← List.dropLast_eq_take]
      have hg := gGetS (Γ := Γ) (putS K ++ (layS s).dropLast) (by rw [List.length_append, List.length_dropLast]; omega)
      have eg : gtS 4096 (putS K ++ (layS s).dropLast) = (K, (layS s).dropLast, false) := by
        have := gtS_app K hK (4095 - K.length + 1) (layS s).dropLast
        rw [show K.length + (4095 - K.length + 1) = 4096 by omega] at this
        rw [this]
        match hd : (layS s).dropLast, rd_short hs1 hs2 with
        | [], _ =>
          have := congrArg List.length hd
          rw [List.length_dropLast, List.length_nil] at this
          omega
        | c :: r, h => rw [gtS, h, List.append_nil]
      rw [resG_is, eg] at hg
      simp only [Bool.false_eq_true, if_false] at hg
      have hs := gSameL (Γ := Γ) K K (by omega)
      rw [decide_eq_true rfl] at hs
      have hll : (putS K ++ layS s).length = (putS K).length + (layS s).length := List.length_append
      generalize hX : putS K ++ layS s = X at hp hcut hll
      have hXn : ((X.length : Int) - 1).toNat = X.length - 1 := by omega
      have hKn : (((K.length + 1 : Nat) : Int) - 1).toNat = K.length := by omega
      have hKt : (K.map sR ++ [sR s]).take K.length = K.map sR := by rw [show K.length = (K.map sR).length by simp, List.take_left]
      have hKl : (K.map sR ++ [sR s]).length = K.length + 1 := by simp
      simp only [List.map_append, List.map_cons, List.map_nil] at hr hp
      repeat' (first | (with_reducible exact trivial) | simp (maxSteps := 2000000) (disch := omega) only [bys_length, hKl, bys_take, hXn, hKn, hKt, hcut, go_sem, seval] | ((with_reducible refine isS ?_); first | refine cS (hr) ?_ | refine cS (hp) ?_ | refine cS (hg0) ?_ | refine cS (hg) ?_ | refine cS (hpK) ?_ | refine cS (hs) ?_ | refine cS (ha) ?_ | fail) | ((with_reducible refine isE ?_); refine eA ?_; (repeat' (first | exact le_mq0 rfl | exact le_mq0r rfl | exact le_jk50 (by simp only [List.length_cons, List.length_append, mq_len, List.length_nil]) | refine le_mqr ?_ | refine le_mq ?_ | exact trivial | refine le_int ?_ | refine le_bool ?_ | refine le_str ?_ | refine le_sl ?_ | refine le_own ?_ | refine le_osl ?_ | refine le_nsl ?_ | exact rfl | refine ⟨?_, ?_⟩ | fail))) | ((with_reducible refine isI ?_ ?_); (kernel_rfl)) | fail)
  · rw [resP_no hm] at hp
    repeat' (first | (with_reducible exact trivial) | simp (maxSteps := 2000000) (disch := omega) only [List.length_nil, go_sem, seval] | ((with_reducible refine isS ?_); first | refine cS (hr) ?_ | refine cS (hp) ?_ | refine cS (hg0) ?_ | refine cS (ha) ?_ | fail) | ((with_reducible refine isE ?_); refine eA ?_; (repeat' (first | exact le_mq0 rfl | exact le_mq0r rfl | exact le_jk50 (by simp only [List.length_cons, List.length_append, mq_len, List.length_nil]) | refine le_mqr ?_ | refine le_mq ?_ | exact trivial | refine le_int ?_ | refine le_bool ?_ | refine le_str ?_ | refine le_sl ?_ | refine le_own ?_ | refine le_osl ?_ | refine le_nsl ?_ | exact rfl | refine ⟨?_, ?_⟩ | fail))) | ((with_reducible refine isI ?_ ?_); (kernel_rfl)) | fail)
end Go.Proofs.YtlijecknkpcgfaaDoor
