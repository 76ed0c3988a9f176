/- Layer 20: the document's weights, laid and read. Own work. -/
import Derived.Test.YtlijecknkpcgfaaDoorXa
import Derived.Test.YtlijecknkpcgfaaDoorScb
namespace Go.Proofs.YtlijecknkpcgfaaDoor
open Go Go.Shade
variable {Γ : Globs}
theorem nan_ne (w : Nat) : (!(Op.floatEq .f64 w w)) = nanB w := rfl
set_option maxHeartbeats 8000000 in
theorem gRLay (l : List Nat) (hl : l.length ≤ 100) (hb : ∀ w ∈ l, w < 18446744073709551616) : Go.Shade.Good Tryd.prog Γ 37 [.sl 1 (flt l)] [] (.ret (.sl 1 (bys (wOct l)))) [] := by
  refine sh_start mixed F37 rfl ⟨(by first | exact rfl | (simp only [go_sem, seval]; done) | (simp only [go_sem, seval]; exact rfl)), (by first | exact rfl | (simp only [go_sem, seval]; done) | (simp only [go_sem, seval]; exact rfl)), (by first | exact rfl | (simp only [go_sem, seval]; done) | (simp only [go_sem, seval]; exact rfl)), (by first | exact rfl | (simp only [go_sem, seval]; done) | (simp only [go_sem, seval]; exact rfl)), (by first | exact rfl | (simp only [go_sem, seval]; done) | (simp only [go_sem, seval]; exact rfl))⟩ ?_
  repeat' (first | (with_reducible exact trivial) | simp (maxSteps := 2000000) (disch := omega) only [go_sem, seval] | ((with_reducible refine isI ?_ ?_); (kernel_rfl)) | fail)
  refine sh_loopX mixed (fun i : Nat => ([(0, .sl 1 (flt l)), (3, .own 0 1 (bys (wOct (l.take i)))), (4, .int .i64 i)], [(0, .tok)])) (fun i => l.length - i) (fun i => i ≤ l.length) 0 (Nat.zero_le _)
    (weakG_nil 3 9 1 rfl rfl wkAu) ?_
  intro i hi
  have lp : (wOct (l.take i)).length ≤ 800 := by rw [wOct_len, List.length_take]; omega
  by_cases h : i < l.length
  · obtain ⟨w, hg, hs⟩ := flt_at h
    have hw : w < 18446744073709551616 := hb w (List.mem_of_mem_take (i := i + 1) (by rw [hs]; simp))
    have hcl := cn_lt hw
    by_cases hnan : nanB w = true
    · have hc : cn w = 9221120237041090561 := if_pos hnan
      repeat' (first | (with_reducible exact trivial) | simp (maxSteps := 2000000) (disch := omega) only [flt_len, hg, nan_ne, hnan, Int.toNat_natCast, go_sem, seval] | ((with_reducible refine isI ?_ ?_); (kernel_rfl)) | fail)
      refine sh_loopX mixed (fun k : Nat => ([(0, .sl 1 (flt l)), (3, .own 0 1 (bys (wOct (l.take i) ++ (o8 (cn w)).take k))), (4, .int .i64 i), (5, .int .u64 ((cn w / 256 ^ k : Nat) : Int)), (6, .int .i64 k)], [(0, .tok)])) (fun k => 8 - k) (fun k => k ≤ 8) 0 (Nat.zero_le _)
        (wkAu (h1 := by (repeat' (first | exact le_mq0 rfl | exact le_mq0r rfl | exact le_jk50 (by simp only [List.length_cons, List.length_append, mq_len, List.length_nil]) | refine le_mqr ?_ | refine le_mq ?_ | exact trivial | exact rfl | refine le_int ?_ | refine le_bool ?_ | refine le_str ?_ | refine le_sl ?_ | refine le_own ?_ | refine le_osl ?_ | refine le_nsl ?_ | refine ⟨_, rfl, ?_⟩ | refine ⟨?_, ?_⟩ | (simp [hc]; done) | exact Option.some_ne_none _ | fail)); first | done | fail) (h2 := by (repeat' (first | exact le_mq0 rfl | exact le_mq0r rfl | exact le_jk50 (by simp only [List.length_cons, List.length_append, mq_len, List.length_nil]) | refine le_mqr ?_ | refine le_mq ?_ | exact trivial | exact rfl | refine le_int ?_ | refine le_bool ?_ | refine le_str ?_ | refine le_sl ?_ | refine le_own ?_ | refine le_osl ?_ | refine le_nsl ?_ | refine ⟨_, rfl, ?_⟩ | refine ⟨?_, ?_⟩ | (simp [hc]; done) | exact Option.some_ne_none _ | fail)); first | done | fail)) ?_
      intro k hk
      by_cases h8 : k < 8
      · have hl8 : ((o8 (cn w)).take k).length ≤ 8 := by rw [List.length_take]; omega
        have hq : (0 : Int) ≤ ((cn w / 256 ^ k : Nat) : Int) := Int.natCast_nonneg _
        have h1 : (((cn w / 256 ^ k : Nat) : Int)) < 18446744073709551616 := by have := Nat.div_le_self (cn w) (256 ^ k); omega
        have h2 : IntKind.u64.wrap (((cn w / 256 ^ k : Nat) : Int) % 256) = ((cn w / 256 ^ k : Nat) : Int) % 256 := Go.Proofs.u64_in (by omega) (by omega)
        have h3 : IntKind.u64.wrap (((cn w / 256 ^ k : Nat) : Int) / 256) = ((cn w / 256 ^ k : Nat) : Int) / 256 := Go.Proofs.u64_in (by omega) (by omega)
        have h4 : u8 (((cn w / 256 ^ k : Nat) : Int) % 256) = (o8 (cn w)).getD k 0 := by
          rw [← oct_div (cn w) h8]
          apply UInt8.toNat_inj.1
          have := u8_val (((cn w / 256 ^ k : Nat) : Int) % 256)
          rw [UInt8.toNat_ofNat']
          omega
        have h5 : ((cn w / 256 ^ k : Nat) : Int) / 256 = ((cn w / 256 ^ (k + 1) : Nat) : Int) := by rw [div_step]; omega
        generalize ((cn w / 256 ^ k : Nat) : Int) = q at *
        repeat' (first | (with_reducible exact trivial) | simp (maxSteps := 2000000) (disch := omega) only [bin_rem, bin_quo, tmod_pos, tdiv_pos, h3, wrapU8, h4, by1_nil, bys_cat, bys_length, go_sem, seval] | ((with_reducible refine isI ?_ ?_); (kernel_rfl)) | fail)
        exact ⟨k + 1, by omega, by omega, (wkAu (h1 := by (repeat' (first | exact le_mq0 rfl | exact le_mq0r rfl | exact le_jk50 (by simp only [List.length_cons, List.length_append, mq_len, List.length_nil]) | refine le_mqr ?_ | refine le_mq ?_ | exact trivial | exact rfl | refine le_int ?_ | refine le_bool ?_ | refine le_str ?_ | refine le_sl ?_ | refine le_own ?_ | refine le_osl ?_ | refine le_nsl ?_ | refine ⟨_, rfl, ?_⟩ | refine ⟨?_, ?_⟩ | (first | exact h5 | (rw [o8_step _ h8, ← List.append_assoc]); done) | exact Option.some_ne_none _ | fail)); first | done | fail) (h2 := by (repeat' (first | exact le_mq0 rfl | exact le_mq0r rfl | exact le_jk50 (by simp only [List.length_cons, List.length_append, mq_len, List.length_nil]) | refine le_mqr ?_ | refine le_mq ?_ | exact trivial | exact rfl | refine le_int ?_ | refine le_bool ?_ | refine le_str ?_ | refine le_sl ?_ | refine le_own ?_ | refine le_osl ?_ | refine le_nsl ?_ | refine ⟨_, rfl, ?_⟩ | refine ⟨?_, ?_⟩ | (first | exact h5 | (rw [o8_step _ h8, ← List.append_assoc]); done) | exact Option.some_ne_none _ | fail)); first | done | fail))⟩
      · obtain rfl : k = 8 := by omega
        repeat' (first | (with_reducible exact trivial) | simp (maxSteps := 2000000) (disch := omega) only [go_sem, seval] | ((with_reducible refine isI ?_ ?_); (kernel_rfl)) | fail)
        exact ⟨i + 1, by omega, by omega, (wkAu (h1 := by (repeat' (first | exact le_mq0 rfl | exact le_mq0r rfl | exact le_jk50 (by simp only [List.length_cons, List.length_append, mq_len, List.length_nil]) | refine le_mqr ?_ | refine le_mq ?_ | exact trivial | exact rfl | refine le_int ?_ | refine le_bool ?_ | refine le_str ?_ | refine le_sl ?_ | refine le_own ?_ | refine le_osl ?_ | refine le_nsl ?_ | refine ⟨_, rfl, ?_⟩ | refine ⟨?_, ?_⟩ | ((rw [hs, wOct_snoc, show (o8 (cn w)).take 8 = o8 (cn w) from rfl]); done) | exact Option.some_ne_none _ | fail)); first | done | fail) (h2 := by (repeat' (first | exact le_mq0 rfl | exact le_mq0r rfl | exact le_jk50 (by simp only [List.length_cons, List.length_append, mq_len, List.length_nil]) | refine le_mqr ?_ | refine le_mq ?_ | exact trivial | exact rfl | refine le_int ?_ | refine le_bool ?_ | refine le_str ?_ | refine le_sl ?_ | refine le_own ?_ | refine le_osl ?_ | refine le_nsl ?_ | refine ⟨_, rfl, ?_⟩ | refine ⟨?_, ?_⟩ | ((rw [hs, wOct_snoc, show (o8 (cn w)).take 8 = o8 (cn w) from rfl]); done) | exact Option.some_ne_none _ | fail)); first | done | fail))⟩
    · have hc : cn w = w := if_neg hnan
      repeat' (first | (with_reducible exact trivial) | simp (maxSteps := 2000000) (disch := omega) only [flt_len, hg, nan_ne, hnan, Int.toNat_natCast, go_sem, seval] | ((with_reducible refine isI ?_ ?_); (kernel_rfl)) | fail)
      refine sh_loopX mixed (fun k : Nat => ([(0, .sl 1 (flt l)), (3, .own 0 1 (bys (wOct (l.take i) ++ (o8 (cn w)).take k))), (4, .int .i64 i), (5, .int .u64 ((cn w / 256 ^ k : Nat) : Int)), (6, .int .i64 k)], [(0, .tok)])) (fun k => 8 - k) (fun k => k ≤ 8) 0 (Nat.zero_le _)
        (wkAu (h1 := by (repeat' (first | exact le_mq0 rfl | exact le_mq0r rfl | exact le_jk50 (by simp only [List.length_cons, List.length_append, mq_len, List.length_nil]) | refine le_mqr ?_ | refine le_mq ?_ | exact trivial | exact rfl | refine le_int ?_ | refine le_bool ?_ | refine le_str ?_ | refine le_sl ?_ | refine le_own ?_ | refine le_osl ?_ | refine le_nsl ?_ | refine ⟨_, rfl, ?_⟩ | refine ⟨?_, ?_⟩ | (simp [hc]; done) | exact Option.some_ne_none _ | fail)); first | done | fail) (h2 := by (repeat' (first | exact le_mq0 rfl | exact le_mq0r rfl | exact le_jk50 (by simp only [List.length_cons, List.length_append, mq_len, List.length_nil]) | refine le_mqr ?_ | refine le_mq ?_ | exact trivial | exact rfl | refine le_int ?_ | refine le_bool ?_ | refine le_str ?_ | refine le_sl ?_ | refine le_own ?_ | refine le_osl ?_ | refine le_nsl ?_ | refine ⟨_, rfl, ?_⟩ | refine ⟨?_, ?_⟩ | (simp [hc]; done) | exact Option.some_ne_none _ | fail)); first | done | fail)) ?_
      intro k hk
      by_cases h8 : k < 8
      · have hl8 : ((o8 (cn w)).take k).length ≤ 8 := by rw [List.length_take]; omega
        have hq : (0 : Int) ≤ ((cn w / 256 ^ k : Nat) : Int) := Int.natCast_nonneg _
        have h1 : (((cn w / 256 ^ k : Nat) : Int)) < 18446744073709551616 := by have := Nat.div_le_self (cn w) (256 ^ k); omega
        have h2 : IntKind.u64.wrap (((cn w / 256 ^ k : Nat) : Int) % 256) = ((cn w / 256 ^ k : Nat) : Int) % 256 := Go.Proofs.u64_in (by omega) (by omega)
        have h3 : IntKind.u64.wrap (((cn w / 256 ^ k : Nat) : Int) / 256) = ((cn w / 256 ^ k : Nat) : Int) / 256 := Go.Proofs.u64_in (by omega) (by omega)
        have h4 : u8 (((cn w / 256 ^ k : Nat) : Int) % 256) = (o8 (cn w)).getD k 0 := by
          rw [← oct_div (cn w) h8]
          apply UInt8.toNat_inj.1
          have := u8_val (((cn w / 256 ^ k : Nat) : Int) % 256)
          rw [UInt8.toNat_ofNat']
          omega
        have h5 : ((cn w / 256 ^ k : Nat) : Int) / 256 = ((cn w / 256 ^ (k + 1) : Nat) : Int) := by rw [div_step]; omega
        generalize ((cn w / 256 ^ k : Nat) : Int) = q at *
        repeat' (first | (with_reducible exact trivial) | simp (maxSteps := 2000000) (disch := omega) only [bin_rem, bin_quo, tmod_pos, tdiv_pos, h3, wrapU8, h4, by1_nil, bys_cat, bys_length, go_sem, seval] | ((with_reducible refine isI ?_ ?_); (kernel_rfl)) | fail)
        exact ⟨k + 1, by omega, by omega, (wkAu (h1 := by (repeat' (first | exact le_mq0 rfl | exact le_mq0r rfl | exact le_jk50 (by simp only [List.length_cons, List.length_append, mq_len, List.length_nil]) | refine le_mqr ?_ | refine le_mq ?_ | exact trivial | exact rfl | refine le_int ?_ | refine le_bool ?_ | refine le_str ?_ | refine le_sl ?_ | refine le_own ?_ | refine le_osl ?_ | refine le_nsl ?_ | refine ⟨_, rfl, ?_⟩ | refine ⟨?_, ?_⟩ | (first | exact h5 | (rw [o8_step _ h8, ← List.append_assoc]); done) | exact Option.some_ne_none _ | fail)); first | done | fail) (h2 := by (repeat' (first | exact le_mq0 rfl | exact le_mq0r rfl | exact le_jk50 (by simp only [List.length_cons, List.length_append, mq_len, List.length_nil]) | refine le_mqr ?_ | refine le_mq ?_ | exact trivial | exact rfl | refine le_int ?_ | refine le_bool ?_ | refine le_str ?_ | refine le_sl ?_ | refine le_own ?_ | refine le_osl ?_ | refine le_nsl ?_ | refine ⟨_, rfl, ?_⟩ | refine ⟨?_, ?_⟩ | (first | exact h5 | (rw [o8_step _ h8, ← List.append_assoc]); done) | exact Option.some_ne_none _ | fail)); first | done | fail))⟩
      · obtain rfl : k = 8 := by omega
        repeat' (first | (with_reducible exact trivial) | simp (maxSteps := 2000000) (disch := omega) only [go_sem, seval] | ((with_reducible refine isI ?_ ?_); (kernel_rfl)) | fail)
        exact ⟨i + 1, by omega, by omega, (wkAu (h1 := by (repeat' (first | exact le_mq0 rfl | exact le_mq0r rfl | exact le_jk50 (by simp only [List.length_cons, List.length_append, mq_len, List.length_nil]) | refine le_mqr ?_ | refine le_mq ?_ | exact trivial | exact rfl | refine le_int ?_ | refine le_bool ?_ | refine le_str ?_ | refine le_sl ?_ | refine le_own ?_ | refine le_osl ?_ | refine le_nsl ?_ | refine ⟨_, rfl, ?_⟩ | refine ⟨?_, ?_⟩ | ((rw [hs, wOct_snoc, show (o8 (cn w)).take 8 = o8 (cn w) from rfl]); done) | exact Option.some_ne_none _ | fail)); first | done | fail) (h2 := by (repeat' (first | exact le_mq0 rfl | exact le_mq0r rfl | exact le_jk50 (by simp only [List.length_cons, List.length_append, mq_len, List.length_nil]) | refine le_mqr ?_ | refine le_mq ?_ | exact trivial | exact rfl | refine le_int ?_ | refine le_bool ?_ | refine le_str ?_ | refine le_sl ?_ | refine le_own ?_ | refine le_osl ?_ | refine le_nsl ?_ | refine ⟨_, rfl, ?_⟩ | refine ⟨?_, ?_⟩ | ((rw [hs, wOct_snoc, show (o8 (cn w)).take 8 = o8 (cn w) from rfl]); done) | exact Option.some_ne_none _ | fail)); first | done | fail))⟩
  · repeat' (first | (with_reducible exact trivial) | simp (maxSteps := 2000000) (disch := omega) only [flt_len, go_sem, seval] | ((with_reducible refine isE ?_); refine eA ?_; (repeat' (first | exact le_mq0 rfl | exact le_mq0r rfl | exact le_jk50 (by simp only [List.length_cons, List.length_append, mq_len, List.length_nil]) | refine le_mqr ?_ | refine le_mq ?_ | exact trivial | refine le_int ?_ | refine le_bool ?_ | refine le_str ?_ | refine le_sl ?_ | refine le_own ?_ | refine le_osl ?_ | refine le_nsl ?_ | exact rfl | (rw [List.take_of_length_le (by omega)]; done) | refine ⟨?_, ?_⟩ | fail))) | ((with_reducible refine isI ?_ ?_); (kernel_rfl)) | fail)
end Go.Proofs.YtlijecknkpcgfaaDoor
