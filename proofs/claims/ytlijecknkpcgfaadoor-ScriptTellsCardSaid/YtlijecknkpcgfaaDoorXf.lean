/- Layer 20: the document's weights, laid out of a step that still stands in its box. Own work. -/
import Derived.Test.YtlijecknkpcgfaaDoorXb
import Derived.Test.YtlijecknkpcgfaaDoorScb
namespace Go.Proofs.YtlijecknkpcgfaaDoor
open Go Go.Shade
variable {Γ : Globs}
theorem wL_step (s : Stp) {i : Nat} (h : i < 4) : (wL s).take (i + 1) = (wL s).take i ++ [(wL s).getD i 0] := by
  match i, h with
  | 0, _ => rfl
  | 1, _ => rfl
  | 2, _ => rfl
  | 3, _ => rfl
theorem wL_in {s : Stp} (hi : inS s) {i : Nat} (h : i < 4) : (wL s).getD i 0 < 18446744073709551616 := by
  obtain ⟨b0, b1, b2, b3, _⟩ := hi
  match i, h with
  | 0, _ => exact b0
  | 1, _ => exact b1
  | 2, _ => exact b2
  | 3, _ => exact b3
set_option maxHeartbeats 16000000 in
theorem gRLayB (s : Stp) (hi : inS s) : Go.Shade.Good Tryd.prog Γ 37 [.bsl 0 45 1 4] [(0, .box (sC s) false)] (.ret (.sl 1 (bys (wOct (wL s))))) [(0, .box (sC s) false)] := by
  refine sh_start mixed F37 rfl ⟨(by first | exact rfl | (simp only [go_sem, seval]; done) | (simp only [go_sem, seval]; exact rfl)), (by first | exact rfl | (simp only [go_sem, seval]; done) | (simp only [go_sem, seval]; exact rfl)), (by first | exact rfl | (simp only [go_sem, seval]; done) | (simp only [go_sem, seval]; exact rfl)), (by first | exact rfl | (simp only [go_sem, seval]; done) | (simp only [go_sem, seval]; exact rfl)), (by first | exact rfl | (simp only [go_sem, seval]; done) | (simp only [go_sem, seval]; exact rfl))⟩ ?_
  repeat' (first | (with_reducible exact trivial) | simp (maxSteps := 2000000) (disch := omega) only [go_sem, seval] | ((with_reducible refine isI ?_ ?_); (kernel_rfl)) | fail)
  refine sh_loopX mixed (fun i : Nat => ([(0, .bsl 0 45 1 4), (3, .own 1 1 (bys (wOct ((wL s).take i)))), (4, .int .i64 i)], [(0, .box (sC s) false), (1, .tok)])) (fun i => 4 - i) (fun i => i ≤ 4) 0 (Nat.zero_le _)
    (weakG_nil 3 9 1 rfl rfl wkAu) ?_
  intro i hi4
  have lp : (wOct ((wL s).take i)).length ≤ 800 := by rw [wOct_len, List.length_take]; omega
  have hk : i = 0 ∨ i = 1 ∨ i = 2 ∨ i = 3 ∨ i = 4 := by omega
  rcases hk with rfl | rfl | rfl | rfl | rfl
  · have hw := wL_in hi (i := 0) (by omega)
    have hs := wL_step s (i := 0) (by omega)
    rw [show (wL s).getD 0 0 = s.w0 from rfl] at hw hs
    have hcl := cn_lt hw
    have lp0 : (wOct []).length = 0 := rfl
    have hcn : cn s.w0 = if nanB s.w0 = true then 9221120237041090561 else s.w0 := rfl
    cases hn : nanB s.w0
    all_goals
      rw [hn] at hcn
      simp only [Bool.false_eq_true, if_false, if_true] at hcn
      repeat' (first | (with_reducible exact trivial) | simp (maxSteps := 2000000) (disch := omega) only [nan_ne, hn, go_sem, seval] | ((with_reducible refine isI ?_ ?_); (kernel_rfl)) | fail)
      refine sh_loopX mixed (fun k : Nat => ([(0, .bsl 0 45 1 4), (3, .own 1 1 (bys (wOct ((wL s).take 0) ++ (o8 (cn s.w0)).take k))), (4, .int .i64 0), (5, .int .u64 ((cn s.w0 / 256 ^ k : Nat) : Int)), (6, .int .i64 k)], [(0, .box (sC s) false), (1, .tok)])) (fun k => 8 - k) (fun k => k ≤ 8) 0 (Nat.zero_le _)
        (wkAu (h1 := by (repeat' (first | exact le_mq0 rfl | exact le_mq0r rfl | exact le_jk50 (by simp only [List.length_cons, List.length_append, mq_len, List.length_nil]) | refine le_mqr ?_ | refine le_mq ?_ | exact trivial | exact rfl | refine le_int ?_ | refine le_bool ?_ | refine le_str ?_ | refine le_sl ?_ | refine le_own ?_ | refine le_osl ?_ | refine le_nsl ?_ | refine ⟨_, rfl, ?_⟩ | refine ⟨?_, ?_⟩ | (simp [hcn]; done) | exact Option.some_ne_none _ | fail)); first | done | fail) (h2 := by (repeat' (first | exact le_mq0 rfl | exact le_mq0r rfl | exact le_jk50 (by simp only [List.length_cons, List.length_append, mq_len, List.length_nil]) | refine le_mqr ?_ | refine le_mq ?_ | exact trivial | exact rfl | refine le_int ?_ | refine le_bool ?_ | refine le_str ?_ | refine le_sl ?_ | refine le_own ?_ | refine le_osl ?_ | refine le_nsl ?_ | refine ⟨_, rfl, ?_⟩ | refine ⟨?_, ?_⟩ | (simp [hcn]; done) | exact Option.some_ne_none _ | fail)); first | done | fail)) ?_
      intro k hk
      by_cases h8 : k < 8
      · have hl8 : ((o8 (cn s.w0)).take k).length ≤ 8 := by rw [List.length_take]; omega
        have hq : (0 : Int) ≤ ((cn s.w0 / 256 ^ k : Nat) : Int) := Int.natCast_nonneg _
        have h1 : (((cn s.w0 / 256 ^ k : Nat) : Int)) < 18446744073709551616 := by have := Nat.div_le_self (cn s.w0) (256 ^ k); omega
        have h2 : IntKind.u64.wrap (((cn s.w0 / 256 ^ k : Nat) : Int) % 256) = ((cn s.w0 / 256 ^ k : Nat) : Int) % 256 := Go.Proofs.u64_in (by omega) (by omega)
        have h3 : IntKind.u64.wrap (((cn s.w0 / 256 ^ k : Nat) : Int) / 256) = ((cn s.w0 / 256 ^ k : Nat) : Int) / 256 := Go.Proofs.u64_in (by omega) (by omega)
        have h4 : u8 (((cn s.w0 / 256 ^ k : Nat) : Int) % 256) = (o8 (cn s.w0)).getD k 0 := by
          rw [← oct_div (cn s.w0) h8]
          apply UInt8.toNat_inj.1
          have := u8_val (((cn s.w0 / 256 ^ k : Nat) : Int) % 256)
          rw [UInt8.toNat_ofNat']
          omega
        have h5 : ((cn s.w0 / 256 ^ k : Nat) : Int) / 256 = ((cn s.w0 / 256 ^ (k + 1) : Nat) : Int) := by rw [div_step]; omega
        generalize ((cn s.w0 / 256 ^ k : Nat) : Int) = q at *
        repeat' (first | (with_reducible exact trivial) | simp (maxSteps := 2000000) (disch := omega) only [bin_rem, bin_quo, tmod_pos, tdiv_pos, h3, wrapU8, h4, by1_nil, bys_cat, bys_length, go_sem, seval] | ((with_reducible refine isI ?_ ?_); (kernel_rfl)) | fail)
        exact ⟨k + 1, by omega, by omega, (wkAu (h1 := by (repeat' (first | exact le_mq0 rfl | exact le_mq0r rfl | exact le_jk50 (by simp only [List.length_cons, List.length_append, mq_len, List.length_nil]) | refine le_mqr ?_ | refine le_mq ?_ | exact trivial | exact rfl | refine le_int ?_ | refine le_bool ?_ | refine le_str ?_ | refine le_sl ?_ | refine le_own ?_ | refine le_osl ?_ | refine le_nsl ?_ | refine ⟨_, rfl, ?_⟩ | refine ⟨?_, ?_⟩ | (first | exact h5 | (rw [o8_step _ h8, ← List.append_assoc]); done) | exact Option.some_ne_none _ | fail)); first | done | fail) (h2 := by (repeat' (first | exact le_mq0 rfl | exact le_mq0r rfl | exact le_jk50 (by simp only [List.length_cons, List.length_append, mq_len, List.length_nil]) | refine le_mqr ?_ | refine le_mq ?_ | exact trivial | exact rfl | refine le_int ?_ | refine le_bool ?_ | refine le_str ?_ | refine le_sl ?_ | refine le_own ?_ | refine le_osl ?_ | refine le_nsl ?_ | refine ⟨_, rfl, ?_⟩ | refine ⟨?_, ?_⟩ | (first | exact h5 | (rw [o8_step _ h8, ← List.append_assoc]); done) | exact Option.some_ne_none _ | fail)); first | done | fail))⟩
      · obtain rfl : k = 8 := by omega
        repeat' (first | (with_reducible exact trivial) | simp (maxSteps := 2000000) (disch := omega) only [go_sem, seval] | ((with_reducible refine isI ?_ ?_); (kernel_rfl)) | fail)
        exact ⟨1, by omega, by omega, (wkAu (h1 := by (repeat' (first | exact le_mq0 rfl | exact le_mq0r rfl | exact le_jk50 (by simp only [List.length_cons, List.length_append, mq_len, List.length_nil]) | refine le_mqr ?_ | refine le_mq ?_ | exact trivial | exact rfl | refine le_int ?_ | refine le_bool ?_ | refine le_str ?_ | refine le_sl ?_ | refine le_own ?_ | refine le_osl ?_ | refine le_nsl ?_ | refine ⟨_, rfl, ?_⟩ | refine ⟨?_, ?_⟩ | ((rw [hs, wOct_snoc, show (o8 (cn s.w0)).take 8 = o8 (cn s.w0) from rfl]); done) | exact Option.some_ne_none _ | fail)); first | done | fail) (h2 := by (repeat' (first | exact le_mq0 rfl | exact le_mq0r rfl | exact le_jk50 (by simp only [List.length_cons, List.length_append, mq_len, List.length_nil]) | refine le_mqr ?_ | refine le_mq ?_ | exact trivial | exact rfl | refine le_int ?_ | refine le_bool ?_ | refine le_str ?_ | refine le_sl ?_ | refine le_own ?_ | refine le_osl ?_ | refine le_nsl ?_ | refine ⟨_, rfl, ?_⟩ | refine ⟨?_, ?_⟩ | ((rw [hs, wOct_snoc, show (o8 (cn s.w0)).take 8 = o8 (cn s.w0) from rfl]); done) | exact Option.some_ne_none _ | fail)); first | done | fail))⟩
  · have hw := wL_in hi (i := 1) (by omega)
    have hs := wL_step s (i := 1) (by omega)
    rw [show (wL s).getD 1 0 = s.w1 from rfl] at hw hs
    have hcl := cn_lt hw
    have lp0 : (wOct []).length = 0 := rfl
    have hcn : cn s.w1 = if nanB s.w1 = true then 9221120237041090561 else s.w1 := rfl
    cases hn : nanB s.w1
    all_goals
      rw [hn] at hcn
      simp only [Bool.false_eq_true, if_false, if_true] at hcn
      repeat' (first | (with_reducible exact trivial) | simp (maxSteps := 2000000) (disch := omega) only [nan_ne, hn, go_sem, seval] | ((with_reducible refine isI ?_ ?_); (kernel_rfl)) | fail)
      refine sh_loopX mixed (fun k : Nat => ([(0, .bsl 0 45 1 4), (3, .own 1 1 (bys (wOct ((wL s).take 1) ++ (o8 (cn s.w1)).take k))), (4, .int .i64 1), (5, .int .u64 ((cn s.w1 / 256 ^ k : Nat) : Int)), (6, .int .i64 k)], [(0, .box (sC s) false), (1, .tok)])) (fun k => 8 - k) (fun k => k ≤ 8) 0 (Nat.zero_le _)
        (wkAu (h1 := by (repeat' (first | exact le_mq0 rfl | exact le_mq0r rfl | exact le_jk50 (by simp only [List.length_cons, List.length_append, mq_len, List.length_nil]) | refine le_mqr ?_ | refine le_mq ?_ | exact trivial | exact rfl | refine le_int ?_ | refine le_bool ?_ | refine le_str ?_ | refine le_sl ?_ | refine le_own ?_ | refine le_osl ?_ | refine le_nsl ?_ | refine ⟨_, rfl, ?_⟩ | refine ⟨?_, ?_⟩ | (simp [hcn]; done) | exact Option.some_ne_none _ | fail)); first | done | fail) (h2 := by (repeat' (first | exact le_mq0 rfl | exact le_mq0r rfl | exact le_jk50 (by simp only [List.length_cons, List.length_append, mq_len, List.length_nil]) | refine le_mqr ?_ | refine le_mq ?_ | exact trivial | exact rfl | refine le_int ?_ | refine le_bool ?_ | refine le_str ?_ | refine le_sl ?_ | refine le_own ?_ | refine le_osl ?_ | refine le_nsl ?_ | refine ⟨_, rfl, ?_⟩ | refine ⟨?_, ?_⟩ | (simp [hcn]; done) | exact Option.some_ne_none _ | fail)); first | done | fail)) ?_
      intro k hk
      by_cases h8 : k < 8
      · have hl8 : ((o8 (cn s.w1)).take k).length ≤ 8 := by rw [List.length_take]; omega
        have hq : (0 : Int) ≤ ((cn s.w1 / 256 ^ k : Nat) : Int) := Int.natCast_nonneg _
        have h1 : (((cn s.w1 / 256 ^ k : Nat) : Int)) < 18446744073709551616 := by have := Nat.div_le_self (cn s.w1) (256 ^ k); omega
        have h2 : IntKind.u64.wrap (((cn s.w1 / 256 ^ k : Nat) : Int) % 256) = ((cn s.w1 / 256 ^ k : Nat) : Int) % 256 := Go.Proofs.u64_in (by omega) (by omega)
        have h3 : IntKind.u64.wrap (((cn s.w1 / 256 ^ k : Nat) : Int) / 256) = ((cn s.w1 / 256 ^ k : Nat) : Int) / 256 := Go.Proofs.u64_in (by omega) (by omega)
        have h4 : u8 (((cn s.w1 / 256 ^ k : Nat) : Int) % 256) = (o8 (cn s.w1)).getD k 0 := by
          rw [← oct_div (cn s.w1) h8]
          apply UInt8.toNat_inj.1
          have := u8_val (((cn s.w1 / 256 ^ k : Nat) : Int) % 256)
          rw [UInt8.toNat_ofNat']
          omega
        have h5 : ((cn s.w1 / 256 ^ k : Nat) : Int) / 256 = ((cn s.w1 / 256 ^ (k + 1) : Nat) : Int) := by rw [div_step]; omega
        generalize ((cn s.w1 / 256 ^ k : Nat) : Int) = q at *
        repeat' (first | (with_reducible exact trivial) | simp (maxSteps := 2000000) (disch := omega) only [bin_rem, bin_quo, tmod_pos, tdiv_pos, h3, wrapU8, h4, by1_nil, bys_cat, bys_length, go_sem, seval] | ((with_reducible refine isI ?_ ?_); (kernel_rfl)) | fail)
        exact ⟨k + 1, by omega, by omega, (wkAu (h1 := by (repeat' (first | exact le_mq0 rfl | exact le_mq0r rfl | exact le_jk50 (by simp only [List.length_cons, List.length_append, mq_len, List.length_nil]) | refine le_mqr ?_ | refine le_mq ?_ | exact trivial | exact rfl | refine le_int ?_ | refine le_bool ?_ | refine le_str ?_ | refine le_sl ?_ | refine le_own ?_ | refine le_osl ?_ | refine le_nsl ?_ | refine ⟨_, rfl, ?_⟩ | refine ⟨?_, ?_⟩ | (first | exact h5 | (rw [o8_step _ h8, ← List.append_assoc]); done) | exact Option.some_ne_none _ | fail)); first | done | fail) (h2 := by (repeat' (first | exact le_mq0 rfl | exact le_mq0r rfl | exact le_jk50 (by simp only [List.length_cons, List.length_append, mq_len, List.length_nil]) | refine le_mqr ?_ | refine le_mq ?_ | exact trivial | exact rfl | refine le_int ?_ | refine le_bool ?_ | refine le_str ?_ | refine le_sl ?_ | refine le_own ?_ | refine le_osl ?_ | refine le_nsl ?_ | refine ⟨_, rfl, ?_⟩ | refine ⟨?_, ?_⟩ | (first | exact h5 | (rw [o8_step _ h8, ← List.append_assoc]); done) | exact Option.some_ne_none _ | fail)); first | done | fail))⟩
      · obtain rfl : k = 8 := by omega
        repeat' (first | (with_reducible exact trivial) | simp (maxSteps := 2000000) (disch := omega) only [go_sem, seval] | ((with_reducible refine isI ?_ ?_); (kernel_rfl)) | fail)
        exact ⟨2, by omega, by omega, (wkAu (h1 := by (repeat' (first | exact le_mq0 rfl | exact le_mq0r rfl | exact le_jk50 (by simp only [List.length_cons, List.length_append, mq_len, List.length_nil]) | refine le_mqr ?_ | refine le_mq ?_ | exact trivial | exact rfl | refine le_int ?_ | refine le_bool ?_ | refine le_str ?_ | refine le_sl ?_ | refine le_own ?_ | refine le_osl ?_ | refine le_nsl ?_ | refine ⟨_, rfl, ?_⟩ | refine ⟨?_, ?_⟩ | ((rw [hs, wOct_snoc, show (o8 (cn s.w1)).take 8 = o8 (cn s.w1) from rfl]); done) | exact Option.some_ne_none _ | fail)); first | done | fail) (h2 := by (repeat' (first | exact le_mq0 rfl | exact le_mq0r rfl | exact le_jk50 (by simp only [List.length_cons, List.length_append, mq_len, List.length_nil]) | refine le_mqr ?_ | refine le_mq ?_ | exact trivial | exact rfl | refine le_int ?_ | refine le_bool ?_ | refine le_str ?_ | refine le_sl ?_ | refine le_own ?_ | refine le_osl ?_ | refine le_nsl ?_ | refine ⟨_, rfl, ?_⟩ | refine ⟨?_, ?_⟩ | ((rw [hs, wOct_snoc, show (o8 (cn s.w1)).take 8 = o8 (cn s.w1) from rfl]); done) | exact Option.some_ne_none _ | fail)); first | done | fail))⟩
  · have hw := wL_in hi (i := 2) (by omega)
    have hs := wL_step s (i := 2) (by omega)
    rw [show (wL s).getD 2 0 = s.w2 from rfl] at hw hs
    have hcl := cn_lt hw
    have lp0 : (wOct []).length = 0 := rfl
    have hcn : cn s.w2 = if nanB s.w2 = true then 9221120237041090561 else s.w2 := rfl
    cases hn : nanB s.w2
    all_goals
      rw [hn] at hcn
      simp only [Bool.false_eq_true, if_false, if_true] at hcn
      repeat' (first | (with_reducible exact trivial) | simp (maxSteps := 2000000) (disch := omega) only [nan_ne, hn, go_sem, seval] | ((with_reducible refine isI ?_ ?_); (kernel_rfl)) | fail)
      refine sh_loopX mixed (fun k : Nat => ([(0, .bsl 0 45 1 4), (3, .own 1 1 (bys (wOct ((wL s).take 2) ++ (o8 (cn s.w2)).take k))), (4, .int .i64 2), (5, .int .u64 ((cn s.w2 / 256 ^ k : Nat) : Int)), (6, .int .i64 k)], [(0, .box (sC s) false), (1, .tok)])) (fun k => 8 - k) (fun k => k ≤ 8) 0 (Nat.zero_le _)
        (wkAu (h1 := by (repeat' (first | exact le_mq0 rfl | exact le_mq0r rfl | exact le_jk50 (by simp only [List.length_cons, List.length_append, mq_len, List.length_nil]) | refine le_mqr ?_ | refine le_mq ?_ | exact trivial | exact rfl | refine le_int ?_ | refine le_bool ?_ | refine le_str ?_ | refine le_sl ?_ | refine le_own ?_ | refine le_osl ?_ | refine le_nsl ?_ | refine ⟨_, rfl, ?_⟩ | refine ⟨?_, ?_⟩ | (simp [hcn]; done) | exact Option.some_ne_none _ | fail)); first | done | fail) (h2 := by (repeat' (first | exact le_mq0 rfl | exact le_mq0r rfl | exact le_jk50 (by simp only [List.length_cons, List.length_append, mq_len, List.length_nil]) | refine le_mqr ?_ | refine le_mq ?_ | exact trivial | exact rfl | refine le_int ?_ | refine le_bool ?_ | refine le_str ?_ | refine le_sl ?_ | refine le_own ?_ | refine le_osl ?_ | refine le_nsl ?_ | refine ⟨_, rfl, ?_⟩ | refine ⟨?_, ?_⟩ | (simp [hcn]; done) | exact Option.some_ne_none _ | fail)); first | done | fail)) ?_
      intro k hk
      by_cases h8 : k < 8
      · have hl8 : ((o8 (cn s.w2)).take k).length ≤ 8 := by rw [List.length_take]; omega
        have hq : (0 : Int) ≤ ((cn s.w2 / 256 ^ k : Nat) : Int) := Int.natCast_nonneg _
        have h1 : (((cn s.w2 / 256 ^ k : Nat) : Int)) < 18446744073709551616 := by have := Nat.div_le_self (cn s.w2) (256 ^ k); omega
        have h2 : IntKind.u64.wrap (((cn s.w2 / 256 ^ k : Nat) : Int) % 256) = ((cn s.w2 / 256 ^ k : Nat) : Int) % 256 := Go.Proofs.u64_in (by omega) (by omega)
        have h3 : IntKind.u64.wrap (((cn s.w2 / 256 ^ k : Nat) : Int) / 256) = ((cn s.w2 / 256 ^ k : Nat) : Int) / 256 := Go.Proofs.u64_in (by omega) (by omega)
        have h4 : u8 (((cn s.w2 / 256 ^ k : Nat) : Int) % 256) = (o8 (cn s.w2)).getD k 0 := by
          rw [← oct_div (cn s.w2) h8]
          apply UInt8.toNat_inj.1
          have := u8_val (((cn s.w2 / 256 ^ k : Nat) : Int) % 256)
          rw [UInt8.toNat_ofNat']
          omega
        have h5 : ((cn s.w2 / 256 ^ k : Nat) : Int) / 256 = ((cn s.w2 / 256 ^ (k + 1) : Nat) : Int) := by rw [div_step]; omega
        generalize ((cn s.w2 / 256 ^ k : Nat) : Int) = q at *
        repeat' (first | (with_reducible exact trivial) | simp (maxSteps := 2000000) (disch := omega) only [bin_rem, bin_quo, tmod_pos, tdiv_pos, h3, wrapU8, h4, by1_nil, bys_cat, bys_length, go_sem, seval] | ((with_reducible refine isI ?_ ?_); (kernel_rfl)) | fail)
        exact ⟨k + 1, by omega, by omega, (wkAu (h1 := by (repeat' (first | exact le_mq0 rfl | exact le_mq0r rfl | exact le_jk50 (by simp only [List.length_cons, List.length_append, mq_len, List.length_nil]) | refine le_mqr ?_ | refine le_mq ?_ | exact trivial | exact rfl | refine le_int ?_ | refine le_bool ?_ | refine le_str ?_ | refine le_sl ?_ | refine le_own ?_ | refine le_osl ?_ | refine le_nsl ?_ | refine ⟨_, rfl, ?_⟩ | refine ⟨?_, ?_⟩ | (first | exact h5 | (rw [o8_step _ h8, ← List.append_assoc]); done) | exact Option.some_ne_none _ | fail)); first | done | fail) (h2 := by (repeat' (first | exact le_mq0 rfl | exact le_mq0r rfl | exact le_jk50 (by simp only [List.length_cons, List.length_append, mq_len, List.length_nil]) | refine le_mqr ?_ | refine le_mq ?_ | exact trivial | exact rfl | refine le_int ?_ | refine le_bool ?_ | refine le_str ?_ | refine le_sl ?_ | refine le_own ?_ | refine le_osl ?_ | refine le_nsl ?_ | refine ⟨_, rfl, ?_⟩ | refine ⟨?_, ?_⟩ | (first | exact h5 | (rw [o8_step _ h8, ← List.append_assoc]); done) | exact Option.some_ne_none _ | fail)); first | done | fail))⟩
      · obtain rfl : k = 8 := by omega
        repeat' (first | (with_reducible exact trivial) | simp (maxSteps := 2000000) (disch := omega) only [go_sem, seval] | ((with_reducible refine isI ?_ ?_); (kernel_rfl)) | fail)
        exact ⟨3, by omega, by omega, (wkAu (h1 := by (repeat' (first | exact le_mq0 rfl | exact le_mq0r rfl | exact le_jk50 (by simp only [List.length_cons, List.length_append, mq_len, List.length_nil]) | refine le_mqr ?_ | refine le_mq ?_ | exact trivial | exact rfl | refine le_int ?_ | refine le_bool ?_ | refine le_str ?_ | refine le_sl ?_ | refine le_own ?_ | refine le_osl ?_ | refine le_nsl ?_ | refine ⟨_, rfl, ?_⟩ | refine ⟨?_, ?_⟩ | ((rw [hs, wOct_snoc, show (o8 (cn s.w2)).take 8 = o8 (cn s.w2) from rfl]); done) | exact Option.some_ne_none _ | fail)); first | done | fail) (h2 := by (repeat' (first | exact le_mq0 rfl | exact le_mq0r rfl | exact le_jk50 (by simp only [List.length_cons, List.length_append, mq_len, List.length_nil]) | refine le_mqr ?_ | refine le_mq ?_ | exact trivial | exact rfl | refine le_int ?_ | refine le_bool ?_ | refine le_str ?_ | refine le_sl ?_ | refine le_own ?_ | refine le_osl ?_ | refine le_nsl ?_ | refine ⟨_, rfl, ?_⟩ | refine ⟨?_, ?_⟩ | ((rw [hs, wOct_snoc, show (o8 (cn s.w2)).take 8 = o8 (cn s.w2) from rfl]); done) | exact Option.some_ne_none _ | fail)); first | done | fail))⟩
  · have hw := wL_in hi (i := 3) (by omega)
    have hs := wL_step s (i := 3) (by omega)
    rw [show (wL s).getD 3 0 = s.w3 from rfl] at hw hs
    have hcl := cn_lt hw
    have lp0 : (wOct []).length = 0 := rfl
    have hcn : cn s.w3 = if nanB s.w3 = true then 9221120237041090561 else s.w3 := rfl
    cases hn : nanB s.w3
    all_goals
      rw [hn] at hcn
      simp only [Bool.false_eq_true, if_false, if_true] at hcn
      repeat' (first | (with_reducible exact trivial) | simp (maxSteps := 2000000) (disch := omega) only [nan_ne, hn, go_sem, seval] | ((with_reducible refine isI ?_ ?_); (kernel_rfl)) | fail)
      refine sh_loopX mixed (fun k : Nat => ([(0, .bsl 0 45 1 4), (3, .own 1 1 (bys (wOct ((wL s).take 3) ++ (o8 (cn s.w3)).take k))), (4, .int .i64 3), (5, .int .u64 ((cn s.w3 / 256 ^ k : Nat) : Int)), (6, .int .i64 k)], [(0, .box (sC s) false), (1, .tok)])) (fun k => 8 - k) (fun k => k ≤ 8) 0 (Nat.zero_le _)
        (wkAu (h1 := by (repeat' (first | exact le_mq0 rfl | exact le_mq0r rfl | exact le_jk50 (by simp only [List.length_cons, List.length_append, mq_len, List.length_nil]) | refine le_mqr ?_ | refine le_mq ?_ | exact trivial | exact rfl | refine le_int ?_ | refine le_bool ?_ | refine le_str ?_ | refine le_sl ?_ | refine le_own ?_ | refine le_osl ?_ | refine le_nsl ?_ | refine ⟨_, rfl, ?_⟩ | refine ⟨?_, ?_⟩ | (simp [hcn]; done) | exact Option.some_ne_none _ | fail)); first | done | fail) (h2 := by (repeat' (first | exact le_mq0 rfl | exact le_mq0r rfl | exact le_jk50 (by simp only [List.length_cons, List.length_append, mq_len, List.length_nil]) | refine le_mqr ?_ | refine le_mq ?_ | exact trivial | exact rfl | refine le_int ?_ | refine le_bool ?_ | refine le_str ?_ | refine le_sl ?_ | refine le_own ?_ | refine le_osl ?_ | refine le_nsl ?_ | refine ⟨_, rfl, ?_⟩ | refine ⟨?_, ?_⟩ | (simp [hcn]; done) | exact Option.some_ne_none _ | fail)); first | done | fail)) ?_
      intro k hk
      by_cases h8 : k < 8
      · have hl8 : ((o8 (cn s.w3)).take k).length ≤ 8 := by rw [List.length_take]; omega
        have hq : (0 : Int) ≤ ((cn s.w3 / 256 ^ k : Nat) : Int) := Int.natCast_nonneg _
        have h1 : (((cn s.w3 / 256 ^ k : Nat) : Int)) < 18446744073709551616 := by have := Nat.div_le_self (cn s.w3) (256 ^ k); omega
        have h2 : IntKind.u64.wrap (((cn s.w3 / 256 ^ k : Nat) : Int) % 256) = ((cn s.w3 / 256 ^ k : Nat) : Int) % 256 := Go.Proofs.u64_in (by omega) (by omega)
        have h3 : IntKind.u64.wrap (((cn s.w3 / 256 ^ k : Nat) : Int) / 256) = ((cn s.w3 / 256 ^ k : Nat) : Int) / 256 := Go.Proofs.u64_in (by omega) (by omega)
        have h4 : u8 (((cn s.w3 / 256 ^ k : Nat) : Int) % 256) = (o8 (cn s.w3)).getD k 0 := by
          rw [← oct_div (cn s.w3) h8]
          apply UInt8.toNat_inj.1
          have := u8_val (((cn s.w3 / 256 ^ k : Nat) : Int) % 256)
          rw [UInt8.toNat_ofNat']
          omega
        have h5 : ((cn s.w3 / 256 ^ k : Nat) : Int) / 256 = ((cn s.w3 / 256 ^ (k + 1) : Nat) : Int) := by rw [div_step]; omega
        generalize ((cn s.w3 / 256 ^ k : Nat) : Int) = q at *
        repeat' (first | (with_reducible exact trivial) | simp (maxSteps := 2000000) (disch := omega) only [bin_rem, bin_quo, tmod_pos, tdiv_pos, h3, wrapU8, h4, by1_nil, bys_cat, bys_length, go_sem, seval] | ((with_reducible refine isI ?_ ?_); (kernel_rfl)) | fail)
        exact ⟨k + 1, by omega, by omega, (wkAu (h1 := by (repeat' (first | exact le_mq0 rfl | exact le_mq0r rfl | exact le_jk50 (by simp only [List.length_cons, List.length_append, mq_len, List.length_nil]) | refine le_mqr ?_ | refine le_mq ?_ | exact trivial | exact rfl | refine le_int ?_ | refine le_bool ?_ | refine le_str ?_ | refine le_sl ?_ | refine le_own ?_ | refine le_osl ?_ | refine le_nsl ?_ | refine ⟨_, rfl, ?_⟩ | refine ⟨?_, ?_⟩ | (first | exact h5 | (rw [o8_step _ h8, ← List.append_assoc]); done) | exact Option.some_ne_none _ | fail)); first | done | fail) (h2 := by (repeat' (first | exact le_mq0 rfl | exact le_mq0r rfl | exact le_jk50 (by simp only [List.length_cons, List.length_append, mq_len, List.length_nil]) | refine le_mqr ?_ | refine le_mq ?_ | exact trivial | exact rfl | refine le_int ?_ | refine le_bool ?_ | refine le_str ?_ | refine le_sl ?_ | refine le_own ?_ | refine le_osl ?_ | refine le_nsl ?_ | refine ⟨_, rfl, ?_⟩ | refine ⟨?_, ?_⟩ | (first | exact h5 | (rw [o8_step _ h8, ← List.append_assoc]); done) | exact Option.some_ne_none _ | fail)); first | done | fail))⟩
      · obtain rfl : k = 8 := by omega
        repeat' (first | (with_reducible exact trivial) | simp (maxSteps := 2000000) (disch := omega) only [go_sem, seval] | ((with_reducible refine isI ?_ ?_); (kernel_rfl)) | fail)
        exact ⟨4, by omega, by omega, (wkAu (h1 := by (repeat' (first | exact le_mq0 rfl | exact le_mq0r rfl | exact le_jk50 (by simp only [List.length_cons, List.length_append, mq_len, List.length_nil]) | refine le_mqr ?_ | refine le_mq ?_ | exact trivial | exact rfl | refine le_int ?_ | refine le_bool ?_ | refine le_str ?_ | refine le_sl ?_ | refine le_own ?_ | refine le_osl ?_ | refine le_nsl ?_ | refine ⟨_, rfl, ?_⟩ | refine ⟨?_, ?_⟩ | ((rw [hs, wOct_snoc, show (o8 (cn s.w3)).take 8 = o8 (cn s.w3) from rfl]); done) | exact Option.some_ne_none _ | fail)); first | done | fail) (h2 := by (repeat' (first | exact le_mq0 rfl | exact le_mq0r rfl | exact le_jk50 (by simp only [List.length_cons, List.length_append, mq_len, List.length_nil]) | refine le_mqr ?_ | refine le_mq ?_ | exact trivial | exact rfl | refine le_int ?_ | refine le_bool ?_ | refine le_str ?_ | refine le_sl ?_ | refine le_own ?_ | refine le_osl ?_ | refine le_nsl ?_ | refine ⟨_, rfl, ?_⟩ | refine ⟨?_, ?_⟩ | ((rw [hs, wOct_snoc, show (o8 (cn s.w3)).take 8 = o8 (cn s.w3) from rfl]); done) | exact Option.some_ne_none _ | fail)); first | done | fail))⟩
  · repeat' (first | (with_reducible exact trivial) | simp (maxSteps := 2000000) (disch := omega) only [go_sem, seval] | ((with_reducible refine isE ?_); refine eA ?_; (repeat' (first | exact le_mq0 rfl | exact le_mq0r rfl | exact le_jk50 (by simp only [List.length_cons, List.length_append, mq_len, List.length_nil]) | refine le_mqr ?_ | refine le_mq ?_ | exact trivial | refine le_int ?_ | refine le_bool ?_ | refine le_str ?_ | refine le_sl ?_ | refine le_own ?_ | refine le_osl ?_ | refine le_nsl ?_ | exact rfl | refine ⟨?_, ?_⟩ | fail))) | ((with_reducible refine isI ?_ ?_); (kernel_rfl)) | fail)
end Go.Proofs.YtlijecknkpcgfaaDoor
