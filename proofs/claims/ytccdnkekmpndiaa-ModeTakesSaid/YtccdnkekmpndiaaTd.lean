/- Layer 7: the document's own put and get, whether two rows are the same, signals. Own work. -/
import Derived.Test.YtccdnkekmpndiaaTc
namespace Go.Proofs.Ytccdnkekmpndiaa
open Go Go.Shade
variable {Γ : Globs}
theorem all8 {p : UInt8 → Prop} (h : ∀ n, n < 256 → p (UInt8.ofNat n)) (m : UInt8) : p m := by
  have := h m.toNat m.toNat_lt
  rwa [UInt8.ofNat_toNat] at this
theorem bits (m : UInt8) : ((((m.toNat : Nat) : Int) / 4 % 8 = 0) = (m &&& 28 = 0)) ∧ ((m.toNat : Int) % 4 = ((m &&& 3).toNat : Nat)) ∧ (((m.toNat : Int) / 128 = 1) = ¬ (m &&& 128 = 0)) ∧ (((m.toNat : Int) / 64 % 2 = 1) = ¬ (m &&& 64 = 0)) ∧ (((m.toNat : Int) / 32 % 2 = 1) = ¬ (m &&& 32 = 0)) := by
  have : ∀ n, n < 256 → (((((UInt8.ofNat n).toNat : Nat) : Int) / 4 % 8 = 0 ↔ (UInt8.ofNat n) &&& 28 = 0)) ∧ (((UInt8.ofNat n).toNat : Int) % 4 = (((UInt8.ofNat n) &&& 3).toNat : Nat)) ∧ ((((UInt8.ofNat n).toNat : Int) / 128 = 1 ↔ ¬ ((UInt8.ofNat n) &&& 128 = 0))) ∧ (((((UInt8.ofNat n).toNat : Int) / 64 % 2 = 1) ↔ ¬ ((UInt8.ofNat n) &&& 64 = 0))) ∧ ((((UInt8.ofNat n).toNat : Int) / 32 % 2 = 1) ↔ ¬ ((UInt8.ofNat n) &&& 32 = 0)) := by decide +kernel
  obtain ⟨h1, h2, h3, h4, h5⟩ := all8 (p := fun m => ((((m.toNat : Nat) : Int) / 4 % 8 = 0 ↔ m &&& 28 = 0)) ∧ ((m.toNat : Int) % 4 = ((m &&& 3).toNat : Nat)) ∧ (((m.toNat : Int) / 128 = 1 ↔ ¬ (m &&& 128 = 0))) ∧ ((((m.toNat : Int) / 64 % 2 = 1) ↔ ¬ (m &&& 64 = 0))) ∧ (((m.toNat : Int) / 32 % 2 = 1) ↔ ¬ (m &&& 32 = 0))) this m
  exact ⟨propext h1, h2, propext h3, propext h4, propext h5⟩
theorem mk_sum (t : T3) (h : mayT t) : u8 (t.level + (if t.ack = true then 128 else 0) + (if t.inn = true then 64 else 0) + (if t.out = true then 32 else 0)) = mk t := by
  obtain ⟨f, l, a, i, o, v⟩ := t
  obtain ⟨_, _, h1, h2⟩ := h
  simp only at h1 h2
  have : l = 0 ∨ l = 1 ∨ l = 2 ∨ l = 3 := by omega
  rcases this with rfl | rfl | rfl | rfl <;> cases a <;> cases i <;> cases o <;> simp only [mk, if_true, Bool.false_eq_true, if_false] <;> decide
set_option maxHeartbeats 4000000 in
theorem gRPutOk (l : List T3) (h : ∀ t ∈ l, mayT t) (hl : l.length ≤ 100000) : Good Try.prog Γ 31 [.sl 6 (l.map tP)] [] (.ret (.tup [.sl 1 (bys (putT l)), .bool true])) [] := by
  refine sh_start mixed F31 rfl ⟨rfl, rfl, rfl, rfl, rfl⟩ ?_
  repeat' (first | (with_reducible exact trivial) | simp (maxSteps := 2000000) (disch := omega) only [go_sem, seval] | ((with_reducible refine isI ?_ ?_); (kernel_rfl)) | fail)
  refine sh_loopX mixed (fun i : Nat => ([(0, .sl 6 (l.map tP)), (4, .own 0 1 (bys (putT (l.take i)))), (5, .int .i64 i)], [(0, .tok)])) (fun i => l.length - i) (fun i => i ≤ l.length) 0 (by omega)
    (weakG_nil 4 0 1 rfl rfl (sh_weakA (by first | exact rfl | (simp only [go_sem, seval]; exact rfl) | (simp only [go_sem, seval]; done)) (by (repeat' (first | exact trivial | exact rfl | refine le_int ?_ | refine le_bool ?_ | refine le_str ?_ | refine le_sl ?_ | refine le_own ?_ | refine le_osl ?_ | refine le_nsl ?_ | refine ⟨_, rfl, ?_⟩ | refine ⟨?_, ?_⟩ | fail)); first | done | fail) (by (repeat' (first | exact trivial | exact rfl | refine le_int ?_ | refine le_bool ?_ | refine le_str ?_ | refine le_sl ?_ | refine le_own ?_ | refine le_osl ?_ | refine le_nsl ?_ | refine ⟨_, rfl, ?_⟩ | refine ⟨?_, ?_⟩ | fail)); first | done | fail) rfl rfl rfl rfl rfl)) ?_
  intro i hi
  have lp : (putT (l.take i)).length ≤ 300000 := by rw [putT_len, List.length_take]; omega
  by_cases hlt : i < l.length
  · obtain ⟨t, ht, hs, hg⟩ := elem_at hlt
    have ht := h t ht
    obtain ⟨_, _, t3, t4⟩ := id ht
    have hmk := mk_sum t ht
    rcases t with ⟨f, lv, _ | _, _ | _, _ | _, v⟩
    all_goals
      simp only [Bool.false_eq_true, if_false, if_true, Int.add_zero] at hmk t3 t4
      repeat' (first | (with_reducible exact trivial) | simp (maxSteps := 2000000) (disch := omega) only [List.length_map, hg, tP, ht, wrapU8, wrap64_u, bin_and8, bin_or8, bin_xor8, bin_andNot8, u8_to, by1_nil, by1_cons, by2_nil, by2_cons, set_by1, set_by2, bys_length, bys_cat, bys_get0, bys_gets, Int.toNat_natCast, go_sem, seval] | ((with_reducible refine isS ?_); first | refine sh_call (gMay ⟨f, lv, _, _, _, v⟩) [] (by (repeat' (first | exact rfl | exact trivial | exact le_nbys | refine ⟨?_, ?_⟩ | fail)); first | done | fail) trivial rfl (by (repeat' (first | exact trivial | exact .inr rfl | refine ⟨?_, ?_⟩ | fail)); first | done | fail) ?_ | fail) | ((with_reducible refine isT ?_); first | refine sh_callT (gMay ⟨f, lv, _, _, _, v⟩) [] (by (repeat' (first | exact rfl | exact trivial | exact le_nbys | refine ⟨?_, ?_⟩ | fail)); first | done | fail) trivial rfl (by (repeat' (first | exact trivial | exact .inr rfl | refine ⟨?_, ?_⟩ | fail)); first | done | fail) ?_ | fail) | ((with_reducible refine isI ?_ ?_); (kernel_rfl)) | fail)
      exact ⟨i + 1, by omega, by omega, (sh_weakA (by first | exact rfl | (simp only [go_sem, seval]; exact rfl) | (simp only [go_sem, seval]; done)) (by (repeat' (first | exact trivial | exact rfl | refine le_int ?_ | refine le_bool ?_ | refine le_str ?_ | refine le_sl ?_ | refine le_own ?_ | refine le_osl ?_ | refine le_nsl ?_ | refine ⟨_, rfl, ?_⟩ | refine ⟨?_, ?_⟩ | ((rw [hs, putT_snoc, ← hmk]); done) | fail)); first | done | fail) (by (repeat' (first | exact trivial | exact rfl | refine le_int ?_ | refine le_bool ?_ | refine le_str ?_ | refine le_sl ?_ | refine le_own ?_ | refine le_osl ?_ | refine le_nsl ?_ | refine ⟨_, rfl, ?_⟩ | refine ⟨?_, ?_⟩ | ((rw [hs, putT_snoc, ← hmk]); done) | fail)); first | done | fail) rfl rfl rfl rfl rfl)⟩
  · repeat' (first | (with_reducible exact trivial) | simp (maxSteps := 2000000) (disch := omega) only [List.length_map, go_sem, seval] | ((with_reducible refine isE ?_); refine endA (by first | exact rfl | (simp only [go_sem, seval]; exact rfl) | (simp only [go_sem, seval]; done)) ?_ (by (repeat' (first | exact trivial | exact rfl | refine ⟨_, rfl, ?_⟩ | refine ⟨?_, ?_⟩ | fail)); first | done | fail) rfl rfl; (repeat' (first | exact trivial | refine le_int ?_ | refine le_bool ?_ | refine le_str ?_ | refine le_sl ?_ | refine le_own ?_ | refine le_osl ?_ | refine le_nsl ?_ | exact rfl | (rw [List.take_of_length_le (by omega)]; done) | refine ⟨?_, ?_⟩ | fail))) | ((with_reducible refine isI ?_ ?_); (kernel_rfl)) | fail)
set_option maxHeartbeats 4000000 in
theorem gRPutNo (l : List T3) (h : ¬ ∀ t ∈ l, mayT t) (hl : l.length ≤ 100000) : Good Try.prog Γ 31 [.sl 6 (l.map tP)] [] (.ret (.tup [.sl 1 [], .bool false])) [] := by
  refine sh_start mixed F31 rfl ⟨rfl, rfl, rfl, rfl, rfl⟩ ?_
  repeat' (first | (with_reducible exact trivial) | simp (maxSteps := 2000000) (disch := omega) only [go_sem, seval] | ((with_reducible refine isI ?_ ?_); (kernel_rfl)) | fail)
  refine sh_loopX mixed (fun i : Nat => ([(0, .sl 6 (l.map tP)), (4, .own 0 1 (bys (putT (l.take i)))), (5, .int .i64 i)], [(0, .tok)])) (fun i => l.length - i) (fun i => i ≤ l.length ∧ ∀ t ∈ l.take i, mayT t) 0 (by simp)
    (weakG_nil 4 0 1 rfl rfl (sh_weakA (by first | exact rfl | (simp only [go_sem, seval]; exact rfl) | (simp only [go_sem, seval]; done)) (by (repeat' (first | exact trivial | exact rfl | refine le_int ?_ | refine le_bool ?_ | refine le_str ?_ | refine le_sl ?_ | refine le_own ?_ | refine le_osl ?_ | refine le_nsl ?_ | refine ⟨_, rfl, ?_⟩ | refine ⟨?_, ?_⟩ | fail)); first | done | fail) (by (repeat' (first | exact trivial | exact rfl | refine le_int ?_ | refine le_bool ?_ | refine le_str ?_ | refine le_sl ?_ | refine le_own ?_ | refine le_osl ?_ | refine le_nsl ?_ | refine ⟨_, rfl, ?_⟩ | refine ⟨?_, ?_⟩ | fail)); first | done | fail) rfl rfl rfl rfl rfl)) ?_
  rintro i ⟨hi, hm⟩
  have lp : (putT (l.take i)).length ≤ 300000 := by rw [putT_len, List.length_take]; omega
  by_cases hlt : i < l.length
  · obtain ⟨t, _, hs, hg⟩ := elem_at hlt
    by_cases ht : mayT t
    · obtain ⟨_, _, t3, t4⟩ := id ht
      have hmk := mk_sum t ht
      rcases t with ⟨f, lv, _ | _, _ | _, _ | _, v⟩
      all_goals
        simp only [Bool.false_eq_true, if_false, if_true, Int.add_zero] at hmk t3 t4
        repeat' (first | (with_reducible exact trivial) | simp (maxSteps := 2000000) (disch := omega) only [List.length_map, hg, tP, ht, wrapU8, wrap64_u, bin_and8, bin_or8, bin_xor8, bin_andNot8, u8_to, by1_nil, by1_cons, by2_nil, by2_cons, set_by1, set_by2, bys_length, bys_cat, bys_get0, bys_gets, Int.toNat_natCast, go_sem, seval] | ((with_reducible refine isS ?_); first | refine sh_call (gMay ⟨f, lv, _, _, _, v⟩) [] (by (repeat' (first | exact rfl | exact trivial | exact le_nbys | refine ⟨?_, ?_⟩ | fail)); first | done | fail) trivial rfl (by (repeat' (first | exact trivial | exact .inr rfl | refine ⟨?_, ?_⟩ | fail)); first | done | fail) ?_ | fail) | ((with_reducible refine isT ?_); first | refine sh_callT (gMay ⟨f, lv, _, _, _, v⟩) [] (by (repeat' (first | exact rfl | exact trivial | exact le_nbys | refine ⟨?_, ?_⟩ | fail)); first | done | fail) trivial rfl (by (repeat' (first | exact trivial | exact .inr rfl | refine ⟨?_, ?_⟩ | fail)); first | done | fail) ?_ | fail) | ((with_reducible refine isI ?_ ?_); (kernel_rfl)) | fail)
        exact ⟨i + 1, by omega, ⟨by omega, by rw [hs]; simp only [List.mem_append, List.mem_singleton]; exact fun x hx => hx.elim (hm x) (fun e => e ▸ ht)⟩, (sh_weakA (by first | exact rfl | (simp only [go_sem, seval]; exact rfl) | (simp only [go_sem, seval]; done)) (by (repeat' (first | exact trivial | exact rfl | refine le_int ?_ | refine le_bool ?_ | refine le_str ?_ | refine le_sl ?_ | refine le_own ?_ | refine le_osl ?_ | refine le_nsl ?_ | refine ⟨_, rfl, ?_⟩ | refine ⟨?_, ?_⟩ | ((rw [hs, putT_snoc, ← hmk]); done) | fail)); first | done | fail) (by (repeat' (first | exact trivial | exact rfl | refine le_int ?_ | refine le_bool ?_ | refine le_str ?_ | refine le_sl ?_ | refine le_own ?_ | refine le_osl ?_ | refine le_nsl ?_ | refine ⟨_, rfl, ?_⟩ | refine ⟨?_, ?_⟩ | ((rw [hs, putT_snoc, ← hmk]); done) | fail)); first | done | fail) rfl rfl rfl rfl rfl)⟩
    · repeat' (first | (with_reducible exact trivial) | simp (maxSteps := 2000000) (disch := omega) only [List.length_map, wrapU8, wrap64_u, bin_and8, bin_or8, bin_xor8, bin_andNot8, u8_to, by1_nil, by1_cons, by2_nil, by2_cons, set_by1, set_by2, bys_length, bys_cat, bys_get0, bys_gets, Int.toNat_natCast, hg, tP, ht, go_sem, seval] | ((with_reducible refine isS ?_); first | refine sh_call (gMay t) [] (by (repeat' (first | exact rfl | exact trivial | exact le_nbys | refine ⟨?_, ?_⟩ | fail)); first | done | fail) trivial rfl (by (repeat' (first | exact trivial | exact .inr rfl | refine ⟨?_, ?_⟩ | fail)); first | done | fail) ?_ | fail) | ((with_reducible refine isT ?_); first | refine sh_callT (gMay t) [] (by (repeat' (first | exact rfl | exact trivial | exact le_nbys | refine ⟨?_, ?_⟩ | fail)); first | done | fail) trivial rfl (by (repeat' (first | exact trivial | exact .inr rfl | refine ⟨?_, ?_⟩ | fail)); first | done | fail) ?_ | fail) | ((with_reducible refine isE ?_); refine endA (by first | exact rfl | (simp only [go_sem, seval]; exact rfl) | (simp only [go_sem, seval]; done)) ?_ (by (repeat' (first | exact trivial | exact rfl | refine ⟨_, rfl, ?_⟩ | refine ⟨?_, ?_⟩ | fail)); first | done | fail) rfl rfl; (repeat' (first | exact trivial | refine le_int ?_ | refine le_bool ?_ | refine le_str ?_ | refine le_sl ?_ | refine le_own ?_ | refine le_osl ?_ | refine le_nsl ?_ | exact rfl | refine ⟨?_, ?_⟩ | fail))) | ((with_reducible refine isI ?_ ?_); (kernel_rfl)) | fail)
  · exact absurd (by rw [List.take_of_length_le (by omega)] at hm; exact hm) h
end Go.Proofs.Ytccdnkekmpndiaa
