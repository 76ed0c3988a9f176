/- Layer 22: a script got, as the document says it. Own work. -/
import Derived.Test.YtlijecknkpcgfaaDoorXl
import Derived.Test.YtlijecknkpcgfaaDoorXd
import Derived.Test.YtlijecknkpcgfaaDoorXe
import Derived.Test.YtlijecknkpcgfaaDoorScb
namespace Go.Proofs.YtlijecknkpcgfaaDoor
open Go Go.Shade
variable {Γ : Globs}
theorem long_two {b : List UInt8} (h : longV b ≠ 0) : 2 ≤ longV b := by
  match b with
  | [] => exact absurd rfl h
  | c :: r =>
    rw [longV] at h ⊢
    split at h
    · exact absurd rfl h
    rename_i h7
    rw [if_neg h7]
    split at h
    · rename_i h1
      rw [if_pos h1]
      omega
    rename_i h1
    rw [if_neg h1]
    split at h
    · rename_i h2
      rw [if_pos h2]
      omega
    rename_i h2
    rw [if_neg h2]
    split at h
    · rename_i h3
      rw [if_pos h3]
      omega
    rename_i h3
    rw [if_neg h3]
    have hk : c.toNat = 0 ∨ c.toNat = 1 ∨ c.toNat = 2 ∨ c.toNat = 3 ∨ c.toNat = 4 ∨ c.toNat = 5 ∨ c.toNat = 6 ∨ c.toNat = 7 := by omega
    rcases hk with hk | hk | hk | hk | hk | hk | hk | hk <;> rw [hk] at h ⊢ <;> first | exact absurd rfl h | decide
theorem long_le (b : List UInt8) : longV b ≤ 300 := by
  match b with
  | [] => exact Nat.zero_le _
  | c :: r =>
    rw [longV]
    split
    · omega
    split
    · omega
    split
    · have := (r.getD 1 0).toNat_lt
      omega
    split
    · have := (r.getD 0 0).toNat_lt
      omega
    rename_i h7 _ _ _
    have hk : c.toNat = 0 ∨ c.toNat = 1 ∨ c.toNat = 2 ∨ c.toNat = 3 ∨ c.toNat = 4 ∨ c.toNat = 5 ∨ c.toNat = 6 ∨ c.toNat = 7 := by omega
    rcases hk with hk | hk | hk | hk | hk | hk | hk | hk <;> rw [hk] <;> decide
theorem longV2 (c x : UInt8) (q : List UInt8) : longV (c :: x :: q) = if 7 < c.toNat then 0 else if c.toNat = 4 ∧ x.toNat = 0 then 2 else if c.toNat = 4 ∧ 0 < q.length ∧ x.toNat = 1 then 3 + (q.getD 0 0).toNat
    else if c.toNat = 6 then 2 + x.toNat else tabL.getD c.toNat 0 := by
  rw [longV]
  simp only [List.length_cons, List.getD_cons_zero, List.getD_cons_succ, Nat.zero_lt_succ, true_and, and_true, Nat.succ_lt_succ_iff]
/-- A step's octets alone are as long as they say. -/
theorem long_take {b : List UInt8} (h : longV b ≠ 0) (hl : longV b ≤ b.length) : longV (b.take (longV b)) = longV b := by
  have h2 := long_two h
  match b with
  | [] => exact absurd rfl h
  | [c] => simp only [List.length_cons, List.length_nil] at hl; omega
  | c :: x :: q =>
    generalize hn : longV (c :: x :: q) = n at h hl h2
    obtain ⟨k, rfl⟩ : ∃ k, n = k + 1 + 1 := ⟨n - 2, by omega⟩
    rw [List.take_succ_cons, List.take_succ_cons, ← hn]
    rw [longV2] at hn
    rw [longV2, longV2]
    by_cases h7 : 7 < c.toNat
    · rw [if_pos h7] at hn
      omega
    rw [if_neg h7] at hn
    by_cases h1 : c.toNat = 4 ∧ x.toNat = 0
    · rw [if_neg h7, if_neg h7, if_pos h1, if_pos h1]
    rw [if_neg h1] at hn
    by_cases h3 : c.toNat = 4 ∧ 0 < q.length ∧ x.toNat = 1
    · rw [if_pos h3] at hn
      match q, h3, hn with
      | y :: q, h3, hn =>
        obtain ⟨j, rfl⟩ : ∃ j, k = j + 1 := ⟨k - 1, by omega⟩
        have h3' : c.toNat = 4 ∧ 0 < (y :: q.take j).length ∧ x.toNat = 1 := ⟨h3.1, by simp, h3.2.2⟩
        rw [List.take_succ_cons, if_pos h3, if_pos h3']
        rfl
    · have h3' : ¬ (c.toNat = 4 ∧ 0 < (q.take k).length ∧ x.toNat = 1) := fun z => h3 ⟨z.1, by have := z.2.1; rw [List.length_take] at this; omega, z.2.2⟩
      rw [if_neg h3, if_neg h3']
theorem inS_ofV (b : List UInt8) : inS (ofV b) := by
  have z : (0 : Nat) < 18446744073709551616 := by omega
  match b with
  | [] => exact ⟨z, z, z, z, z⟩
  | c :: r =>
    rw [ofV, ofR]
    repeat' split
    all_goals first | exact ⟨z, z, z, z, z⟩ | exact ⟨wAt_lt _ _, wAt_lt _ _, wAt_lt _ _, wAt_lt _ _, wAt_lt _ _⟩
theorem gtS_of {n : Nat} {b : List UInt8} (hb : b ≠ []) (h0 : longV b ≠ 0) (hl : longV b ≤ b.length) (hm : mayV (ofV (b.take (longV b)))) (hs : layS (ofV (b.take (longV b))) = b.take (longV b)) :
    gtS (n + 1) b = (ofV (b.take (longV b)) :: (gtS n (b.drop (longV b))).1, (gtS n (b.drop (longV b))).2) := by
  have := rd_of (b := b)
  rw [if_pos ⟨h0, hl, hm, hs, inS_ofV _⟩] at this
  match b, hb with
  | c :: r, _ => rw [gtS, this]
theorem gtS_not {n : Nat} {b : List UInt8} (hb : b ≠ []) (h : ¬ (longV b ≠ 0 ∧ longV b ≤ b.length ∧ mayV (ofV (b.take (longV b))) ∧ layS (ofV (b.take (longV b))) = b.take (longV b))) : gtS (n + 1) b = ([], b, false) := by
  have := rd_of (b := b)
  rw [if_neg (fun k => h ⟨k.1, k.2.1, k.2.2.1, k.2.2.2.1⟩)] at this
  match b, hb with
  | c :: r, _ => rw [gtS, this]
def resRG (b : List UInt8) : AV := .tup [.sl 50 ((gtS 4096 b).1.map sR), .int .i64 ((b.length : Int) - ((gtS 4096 b).2.1.length : Int)), .bool (gtS 4096 b).2.2]
set_option maxHeartbeats 16000000 in
theorem gRGetS (b : List UInt8) (hb : b.length ≤ 80000) : Go.Shade.Good Tryd.prog Γ 21 [.sl 1 (bys b)] [] (.ret (resRG b)) [] := by
  refine sh_start mixed F21 rfl ⟨(by first | exact rfl | (simp only [go_sem, seval]; done) | (simp only [go_sem, seval]; exact rfl)), (by first | exact rfl | (simp only [go_sem, seval]; done) | (simp only [go_sem, seval]; exact rfl)), (by first | exact rfl | (simp only [go_sem, seval]; done) | (simp only [go_sem, seval]; exact rfl)), (by first | exact rfl | (simp only [go_sem, seval]; done) | (simp only [go_sem, seval]; exact rfl)), (by first | exact rfl | (simp only [go_sem, seval]; done) | (simp only [go_sem, seval]; exact rfl))⟩ ?_
  repeat' (first | (with_reducible exact trivial) | simp (maxSteps := 2000000) (disch := omega) only [go_sem, seval] | ((with_reducible refine isI ?_ ?_); (kernel_rfl)) | fail)
  refine sh_loopX mixed (fun x : List Stp × Nat => ([(0, .sl 1 (bys b)), (5, .own 0 50 (x.1.map sR)), (6, .int .i64 (x.2 : Nat))], [(0, .tok)])) (fun x => b.length - x.2)
    (fun x => (gtS 4096 b).1 = x.1 ++ (gtS (4096 - x.1.length) (b.drop x.2)).1 ∧ (gtS 4096 b).2 = (gtS (4096 - x.1.length) (b.drop x.2)).2 ∧ x.1.length ≤ 4096 ∧ x.2 ≤ b.length) ([], 0) ⟨rfl, rfl, by simp, by simp⟩
    (weakG_nil 5 9 50 rfl rfl wkAu) ?_
  rintro ⟨acc, at'⟩ ⟨h1, h2, h3, h4⟩
  simp only at h1 h2 h3 h4
  by_cases hlt : at' < b.length
  · by_cases hn : acc.length < 4096
    · obtain ⟨m, hm⟩ : ∃ m, 4096 - acc.length = m + 1 := ⟨4095 - acc.length, by omega⟩
      rw [hm] at h1 h2
      have hne : b.drop at' ≠ [] := fun e => by have := List.length_drop (l := b) (i := at'); rw [e] at this; simp at this; omega
      have hlen : (b.drop at').length = b.length - at' := List.length_drop
      have hlong := gRLong (Γ := Γ) (b.drop at') (by omega)
      have hstop : gtS (m + 1) (b.drop at') = ([], b.drop at', false) → resRG b = .tup [.sl 50 (acc.map sR), .int .i64 (at' : Nat), .bool false] := by
        intro e
        rw [e] at h1 h2
        rw [resRG, h1, h2, List.append_nil]
        simp only [hlen]
        rw [show ((b.length : Int) - ((b.length - at' : Nat) : Int)) = (at' : Int) by omega]
      have hnot := gtS_not (n := m) hne
      have hof := gtS_of (n := m) hne
      have hRof := gROf (Γ := Γ) ((b.drop at').take (longV (b.drop at')))
      have htk := fun h0 hl => long_take (b := b.drop at') h0 hl
      have h2l := fun h0 => long_two (b := b.drop at') h0
      have hdd : (b.drop at').drop (longV (b.drop at')) = b.drop (at' + longV (b.drop at')) := List.drop_drop
      have hin := inS_ofV ((b.drop at').take (longV (b.drop at')))
      have hsl : (b.take (at' + longV (b.drop at'))).drop at' = (b.drop at').take (longV (b.drop at')) := by rw [List.drop_take, show at' + longV (b.drop at') - at' = longV (b.drop at') by omega]
      rw [hdd] at hof
      generalize hN : longV (b.drop at') = N at hlong hnot hof hRof htk h2l hin hsl
      by_cases h0 : N = 0
      · rw [hstop (hnot (fun k => k.1 h0))]
        have h0' : ((N : Nat) : Int) = 0 := by omega
        repeat' (first | (with_reducible exact trivial) | simp (maxSteps := 2000000) (disch := omega) only [bys_length, List.length_map, List.take_length, bys_take, bys_drop, h0', go_sem, seval] | ((with_reducible refine isS ?_); first | refine cS (hlong) ?_ | fail) | ((with_reducible refine isT ?_); first | refine cT (hlong) ?_ | fail) | ((with_reducible refine isE ?_); refine eA ?_; (repeat' (first | exact le_mq0 rfl | exact le_mq0r rfl | exact le_jk50 (by simp only [List.length_cons, List.length_append, mq_len, List.length_nil]) | refine le_mqr ?_ | refine le_mq ?_ | exact trivial | refine le_int ?_ | refine le_bool ?_ | refine le_str ?_ | refine le_sl ?_ | refine le_own ?_ | refine le_osl ?_ | refine le_nsl ?_ | exact rfl | refine ⟨?_, ?_⟩ | fail))) | ((with_reducible refine isI ?_ ?_); (kernel_rfl)) | fail)
      · have h0' : ¬ ((N : Nat) : Int) = 0 := by omega
        by_cases hl : N ≤ (b.drop at').length
        · have hl' : ¬ ((b.length : Int) < (at' : Int) + (N : Int)) := by omega
          have hwr : IntKind.wrap .i64 ((at' : Int) + (N : Int)) = (at' : Int) + (N : Int) := wrap64 (by omega) (by omega)
          have htn : ((at' : Int) + (N : Int)).toNat = at' + N := by omega
          have h22 := h2l h0
          have ho := hRof (by rw [htk h0 hl]; omega) (by rw [htk h0 hl, List.length_take]; omega)
          have hMay := gRMayS (Γ := Γ) _ hin
          generalize hS : ofV ((b.drop at').take N) = S at ho hof hnot hin hMay
          generalize hT : (b.drop at').take N = T at ho hof hnot hsl
          by_cases hv : mayV S
          · rw [decide_eq_true hv] at hMay
            have hLay := gRLays (Γ := Γ) S hv hin
            by_cases he : layS S = T
            · have hg := hof h0 hl hv he
              have hd : decide (layS S = T) = true := decide_eq_true he
              rw [hg] at h1 h2
              have hm' : 4096 - (acc ++ [S]).length = m := by simp only [List.length_append, List.length_cons, List.length_nil]; omega
              repeat' (first | (with_reducible exact trivial) | simp (maxSteps := 2000000) (disch := omega) only [bys_length, List.length_map, List.take_length, bys_take, bys_drop, Int.toNat_natCast, hsl, hwr, htn, hl', h0', hd, go_sem, seval] | ((with_reducible refine isS ?_); first | refine cS (hlong) ?_ | refine cS (ho) ?_ | refine cS (hMay) ?_ | refine cS (hLay) ?_ | fail) | ((with_reducible refine isT ?_); first | refine cT (hlong) ?_ | refine cT (ho) ?_ | refine cT (hMay) ?_ | refine cT (hLay) ?_ | fail) | ((with_reducible refine isI ?_ ?_); (kernel_rfl)) | fail)
              exact ⟨(acc ++ [S], at' + N), by simp only; omega, ⟨by simp only [hm']; rw [h1, List.append_assoc]; rfl, by simp only [hm']; exact h2, by simp only [List.length_append, List.length_cons, List.length_nil]; omega, by simp only; omega⟩, (wkAu (h1 := by (repeat' (first | exact le_mq0 rfl | exact le_mq0r rfl | exact le_jk50 (by simp only [List.length_cons, List.length_append, mq_len, List.length_nil]) | refine le_mqr ?_ | refine le_mq ?_ | exact trivial | exact rfl | refine le_int ?_ | refine le_bool ?_ | refine le_str ?_ | refine le_sl ?_ | refine le_own ?_ | refine le_osl ?_ | refine le_nsl ?_ | refine ⟨_, rfl, ?_⟩ | refine ⟨?_, ?_⟩ | ((simp [sR]); done) | exact Option.some_ne_none _ | fail)); first | done | fail) (h2 := by (repeat' (first | exact le_mq0 rfl | exact le_mq0r rfl | exact le_jk50 (by simp only [List.length_cons, List.length_append, mq_len, List.length_nil]) | refine le_mqr ?_ | refine le_mq ?_ | exact trivial | exact rfl | refine le_int ?_ | refine le_bool ?_ | refine le_str ?_ | refine le_sl ?_ | refine le_own ?_ | refine le_osl ?_ | refine le_nsl ?_ | refine ⟨_, rfl, ?_⟩ | refine ⟨?_, ?_⟩ | ((simp [sR]); done) | exact Option.some_ne_none _ | fail)); first | done | fail))⟩
            · have hd : decide (layS S = T) = false := decide_eq_false he
              rw [hstop (hnot (fun k => he k.2.2.2))]
              repeat' (first | (with_reducible exact trivial) | simp (maxSteps := 2000000) (disch := omega) only [bys_length, List.length_map, List.take_length, bys_take, bys_drop, Int.toNat_natCast, hsl, hwr, htn, hl', h0', hd, go_sem, seval] | ((with_reducible refine isS ?_); first | refine cS (hlong) ?_ | refine cS (ho) ?_ | refine cS (hMay) ?_ | refine cS (hLay) ?_ | fail) | ((with_reducible refine isT ?_); first | refine cT (hlong) ?_ | refine cT (ho) ?_ | refine cT (hMay) ?_ | refine cT (hLay) ?_ | fail) | ((with_reducible refine isE ?_); refine eA ?_; (repeat' (first | exact le_mq0 rfl | exact le_mq0r rfl | exact le_jk50 (by simp only [List.length_cons, List.length_append, mq_len, List.length_nil]) | refine le_mqr ?_ | refine le_mq ?_ | exact trivial | refine le_int ?_ | refine le_bool ?_ | refine le_str ?_ | refine le_sl ?_ | refine le_own ?_ | refine le_osl ?_ | refine le_nsl ?_ | exact rfl | refine ⟨?_, ?_⟩ | fail))) | ((with_reducible refine isI ?_ ?_); (kernel_rfl)) | fail)
          · rw [decide_eq_false hv] at hMay
            rw [hstop (hnot (fun k => hv k.2.2.1))]
            repeat' (first | (with_reducible exact trivial) | simp (maxSteps := 2000000) (disch := omega) only [bys_length, List.length_map, List.take_length, bys_take, bys_drop, Int.toNat_natCast, hsl, hwr, htn, hl', h0', go_sem, seval] | ((with_reducible refine isS ?_); first | refine cS (hlong) ?_ | refine cS (ho) ?_ | refine cS (hMay) ?_ | fail) | ((with_reducible refine isT ?_); first | refine cT (hlong) ?_ | refine cT (ho) ?_ | refine cT (hMay) ?_ | fail) | ((with_reducible refine isE ?_); refine eA ?_; (repeat' (first | exact le_mq0 rfl | exact le_mq0r rfl | exact le_jk50 (by simp only [List.length_cons, List.length_append, mq_len, List.length_nil]) | refine le_mqr ?_ | refine le_mq ?_ | exact trivial | refine le_int ?_ | refine le_bool ?_ | refine le_str ?_ | refine le_sl ?_ | refine le_own ?_ | refine le_osl ?_ | refine le_nsl ?_ | exact rfl | refine ⟨?_, ?_⟩ | fail))) | ((with_reducible refine isI ?_ ?_); (kernel_rfl)) | fail)
        · rw [hstop (hnot (fun k => hl k.2.1))]
          have hl' : ((b.length : Int) < (at' : Int) + (N : Int)) := by omega
          have hNb : N ≤ 80000 := by
            rw [← hN]
            have := long_le (b.drop at')
            omega
          have hwr : IntKind.wrap .i64 ((at' : Int) + (N : Int)) = (at' : Int) + (N : Int) := wrap64 (by omega) (by omega)
          repeat' (first | (with_reducible exact trivial) | simp (maxSteps := 2000000) (disch := omega) only [bys_length, List.length_map, List.take_length, bys_take, bys_drop, hwr, hl', h0', go_sem, seval] | ((with_reducible refine isS ?_); first | refine cS (hlong) ?_ | fail) | ((with_reducible refine isT ?_); first | refine cT (hlong) ?_ | fail) | ((with_reducible refine isE ?_); refine eA ?_; (repeat' (first | exact le_mq0 rfl | exact le_mq0r rfl | exact le_jk50 (by simp only [List.length_cons, List.length_append, mq_len, List.length_nil]) | refine le_mqr ?_ | refine le_mq ?_ | exact trivial | refine le_int ?_ | refine le_bool ?_ | refine le_str ?_ | refine le_sl ?_ | refine le_own ?_ | refine le_osl ?_ | refine le_nsl ?_ | exact rfl | refine ⟨?_, ?_⟩ | fail))) | ((with_reducible refine isI ?_ ?_); (kernel_rfl)) | fail)
    · have hz : 4096 - acc.length = 0 := by omega
      rw [hz] at h1 h2
      rw [show resRG b = .tup [.sl 50 (acc.map sR), .int .i64 (at' : Nat), .bool true] by
        rw [resRG, h1, h2, gtS, List.append_nil]
        simp only [List.length_drop]
        rw [show ((b.length : Int) - ((b.length - at' : Nat) : Int)) = (at' : Int) by omega]]
      repeat' (first | (with_reducible exact trivial) | simp (maxSteps := 2000000) (disch := omega) only [bys_length, List.length_map, go_sem, seval] | ((with_reducible refine isE ?_); refine eA ?_; (repeat' (first | exact le_mq0 rfl | exact le_mq0r rfl | exact le_jk50 (by simp only [List.length_cons, List.length_append, mq_len, List.length_nil]) | refine le_mqr ?_ | refine le_mq ?_ | exact trivial | refine le_int ?_ | refine le_bool ?_ | refine le_str ?_ | refine le_sl ?_ | refine le_own ?_ | refine le_osl ?_ | refine le_nsl ?_ | exact rfl | refine ⟨?_, ?_⟩ | fail))) | ((with_reducible refine isI ?_ ?_); (kernel_rfl)) | fail)
  · have e : b.drop at' = [] := List.drop_eq_nil_of_le (by omega)
    rw [e, gtS_nil] at h1 h2
    rw [show resRG b = .tup [.sl 50 (acc.map sR), .int .i64 (at' : Nat), .bool true] by
      rw [resRG, h1, h2, List.append_nil]
      rw [show ((b.length : Int) - (([] : List UInt8).length : Int)) = (at' : Int) by simp only [List.length_nil]; omega]]
    repeat' (first | (with_reducible exact trivial) | simp (maxSteps := 2000000) (disch := omega) only [bys_length, go_sem, seval] | ((with_reducible refine isE ?_); refine eA ?_; (repeat' (first | exact le_mq0 rfl | exact le_mq0r rfl | exact le_jk50 (by simp only [List.length_cons, List.length_append, mq_len, List.length_nil]) | refine le_mqr ?_ | refine le_mq ?_ | exact trivial | refine le_int ?_ | refine le_bool ?_ | refine le_str ?_ | refine le_sl ?_ | refine le_own ?_ | refine le_osl ?_ | refine le_nsl ?_ | exact rfl | refine ⟨?_, ?_⟩ | fail))) | ((with_reducible refine isI ?_ ?_); (kernel_rfl)) | fail)
end Go.Proofs.YtlijecknkpcgfaaDoor
