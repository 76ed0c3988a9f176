/- Layer 12: where words are, as the document says. Own work. -/
import Derived.Test.YtmkblhinpnodaaaDoorZ3
import Derived.Test.YtmkblhinpnodaaaDoorLd
namespace Go.Proofs.YtmkblhinpnodaaaDoor
open Go Go.Shade
variable {Γ : Globs}
theorem gBackNo (b : List UInt8) (n : Int) (h : ¬ mayL b n) : Good Tryd.prog Γ 74 [lA b n] [] (.ret (.int .i64 0)) [] := by
  refine sh_start mixed F74 rfl ⟨(by first | exact rfl | (simp only [go_sem, seval]; done) | (simp only [go_sem, seval]; exact rfl)), (by first | exact rfl | (simp only [go_sem, seval]; done) | (simp only [go_sem, seval]; exact rfl)), (by first | exact rfl | (simp only [go_sem, seval]; done) | (simp only [go_sem, seval]; exact rfl)), (by first | exact rfl | (simp only [go_sem, seval]; done) | (simp only [go_sem, seval]; exact rfl)), (by first | exact rfl | (simp only [go_sem, seval]; done) | (simp only [go_sem, seval]; exact rfl))⟩ ?_
  have hc := gLCheck (Γ := Γ) b n
  rw [if_neg h] at hc
  repeat' (first | (with_reducible exact trivial) | simp (maxSteps := 2000000) (disch := omega) only [go_sem, seval] | ((with_reducible refine isS ?_); first | refine cS (hc) ?_ | fail) | ((with_reducible refine isE ?_); refine eA ?_; (repeat' (first | exact le_mq0 rfl | exact le_mq0r rfl | refine le_mqr ?_ | refine le_mq ?_ | exact trivial | refine le_int ?_ | refine le_bool ?_ | refine le_str ?_ | refine le_sl ?_ | refine le_own ?_ | refine le_osl ?_ | refine le_nsl ?_ | exact rfl | refine ⟨?_, ?_⟩ | fail))) | ((with_reducible refine isI ?_ ?_); (kernel_rfl)) | fail)
theorem gOnNo (b : List UInt8) (n : Int) (h : ¬ mayL b n) : Good Tryd.prog Γ 76 [lA b n] [] (.ret (.int .i64 0)) [] := by
  refine sh_start mixed F76 rfl ⟨(by first | exact rfl | (simp only [go_sem, seval]; done) | (simp only [go_sem, seval]; exact rfl)), (by first | exact rfl | (simp only [go_sem, seval]; done) | (simp only [go_sem, seval]; exact rfl)), (by first | exact rfl | (simp only [go_sem, seval]; done) | (simp only [go_sem, seval]; exact rfl)), (by first | exact rfl | (simp only [go_sem, seval]; done) | (simp only [go_sem, seval]; exact rfl)), (by first | exact rfl | (simp only [go_sem, seval]; done) | (simp only [go_sem, seval]; exact rfl))⟩ ?_
  have hc := gLCheck (Γ := Γ) b n
  rw [if_neg h] at hc
  repeat' (first | (with_reducible exact trivial) | simp (maxSteps := 2000000) (disch := omega) only [go_sem, seval] | ((with_reducible refine isS ?_); first | refine cS (hc) ?_ | fail) | ((with_reducible refine isE ?_); refine eA ?_; (repeat' (first | exact le_mq0 rfl | exact le_mq0r rfl | refine le_mqr ?_ | refine le_mq ?_ | exact trivial | refine le_int ?_ | refine le_bool ?_ | refine le_str ?_ | refine le_sl ?_ | refine le_own ?_ | refine le_osl ?_ | refine le_nsl ?_ | exact rfl | refine ⟨?_, ?_⟩ | fail))) | ((with_reducible refine isI ?_ ?_); (kernel_rfl)) | fail)
theorem gRBack (b : List UInt8) (n : Nat) (hb : b.length ≤ 4096) (hn : n ≤ b.length) : Good Tryd.prog Γ 68 [lA b n] [] (.ret (.int .i64 (backF b n))) [] := by
  refine sh_start mixed F68 rfl ⟨(by first | exact rfl | (simp only [go_sem, seval]; done) | (simp only [go_sem, seval]; exact rfl)), (by first | exact rfl | (simp only [go_sem, seval]; done) | (simp only [go_sem, seval]; exact rfl)), (by first | exact rfl | (simp only [go_sem, seval]; done) | (simp only [go_sem, seval]; exact rfl)), (by first | exact rfl | (simp only [go_sem, seval]; done) | (simp only [go_sem, seval]; exact rfl)), (by first | exact rfl | (simp only [go_sem, seval]; done) | (simp only [go_sem, seval]; exact rfl))⟩ ?_
  repeat' (first | (with_reducible exact trivial) | simp (maxSteps := 2000000) (disch := omega) only [go_sem, seval] | ((with_reducible refine isI ?_ ?_); (kernel_rfl)) | fail)
  refine sh_loopX mixed (fun i : Nat => ([(1, .ptr 0 0), (3, .int .i64 i)], [(0, .box [.sl 1 (bys b), .int .i64 n] false)])) (fun i => i) (fun i => i ≤ n ∧ trimTo blankB b n = trimTo blankB b i) n ⟨Nat.le_refl _, rfl⟩ wkAu ?_
  rintro k ⟨hk, hke⟩
  have tail : trimTo blankB b n = k → backF b n = trimTo (fun c => !blankB c) b k := fun h => by unfold backF; rw [h]
  cases k with
  | zero =>
    rw [tail hke]
    repeat' (first | (with_reducible exact trivial) | simp (maxSteps := 2000000) (disch := omega) only [go_sem, seval] | ((with_reducible refine isI ?_ ?_); (kernel_rfl)) | fail)
    refine sh_loopX mixed (fun i : Nat => ([(1, .ptr 0 0), (3, .int .i64 i)], [(0, .box [.sl 1 (bys b), .int .i64 n] false)])) (fun i => i) (fun i => i ≤ 0 ∧ trimTo (fun c => !blankB c) b (0) = trimTo (fun c => !blankB c) b i) (0) ⟨Nat.le_refl _, rfl⟩ (wkAu (h1 := by (repeat' (first | exact le_mq0 rfl | exact le_mq0r rfl | refine le_mqr ?_ | refine le_mq ?_ | exact trivial | exact rfl | refine le_int ?_ | refine le_bool ?_ | refine le_str ?_ | refine le_sl ?_ | refine le_own ?_ | refine le_osl ?_ | refine le_nsl ?_ | refine ⟨_, rfl, ?_⟩ | refine ⟨?_, ?_⟩ | (omega; done) | fail)); first | done | fail) (h2 := by (repeat' (first | exact le_mq0 rfl | exact le_mq0r rfl | refine le_mqr ?_ | refine le_mq ?_ | exact trivial | exact rfl | refine le_int ?_ | refine le_bool ?_ | refine le_str ?_ | refine le_sl ?_ | refine le_own ?_ | refine le_osl ?_ | refine le_nsl ?_ | refine ⟨_, rfl, ?_⟩ | refine ⟨?_, ?_⟩ | (omega; done) | fail)); first | done | fail)) ?_
    rintro i ⟨hi, he⟩
    cases i with
    | zero => repeat' (first | (with_reducible exact trivial) | simp (maxSteps := 2000000) (disch := omega) only [go_sem, seval] | ((with_reducible refine isE ?_); refine eA ?_; (repeat' (first | exact le_mq0 rfl | exact le_mq0r rfl | refine le_mqr ?_ | refine le_mq ?_ | exact trivial | refine le_int ?_ | refine le_bool ?_ | refine le_str ?_ | refine le_sl ?_ | refine le_own ?_ | refine le_osl ?_ | refine le_nsl ?_ | exact rfl | ((rw [he]; rfl); done) | refine ⟨?_, ?_⟩ | fail))) | ((with_reducible refine isI ?_ ?_); (kernel_rfl)) | fail)
    | succ i =>
      have hg := bys_at (by omega : i < b.length)
      have e1 : ((i : Int) + 1 - 1).toNat = i := by omega
      have hbl := gRBlank (Γ := Γ) (b.getD i 0)
      rw [trimTo.eq_2 _ _ i] at he
      cases hc : blankB (b.getD i 0)
      · rw [hc, if_pos (by decide)] at he
        rw [hc] at hbl
        repeat' (first | (with_reducible exact trivial) | simp (maxSteps := 2000000) (disch := omega) only [bys_length, hg, e1, Int.natCast_add, Int.natCast_one, go_sem, seval] | ((with_reducible refine isS ?_); first | refine cS (hbl) ?_ | fail) | ((with_reducible refine isI ?_ ?_); (kernel_rfl)) | fail)
        exact ⟨i, by omega, ⟨by omega, he⟩, (wkAu (h1 := by (repeat' (first | exact le_mq0 rfl | exact le_mq0r rfl | refine le_mqr ?_ | refine le_mq ?_ | exact trivial | exact rfl | refine le_int ?_ | refine le_bool ?_ | refine le_str ?_ | refine le_sl ?_ | refine le_own ?_ | refine le_osl ?_ | refine le_nsl ?_ | refine ⟨_, rfl, ?_⟩ | refine ⟨?_, ?_⟩ | (omega; done) | fail)); first | done | fail) (h2 := by (repeat' (first | exact le_mq0 rfl | exact le_mq0r rfl | refine le_mqr ?_ | refine le_mq ?_ | exact trivial | exact rfl | refine le_int ?_ | refine le_bool ?_ | refine le_str ?_ | refine le_sl ?_ | refine le_own ?_ | refine le_osl ?_ | refine le_nsl ?_ | refine ⟨_, rfl, ?_⟩ | refine ⟨?_, ?_⟩ | (omega; done) | fail)); first | done | fail))⟩
      · rw [hc, if_neg (by decide)] at he
        rw [hc] at hbl
        repeat' (first | (with_reducible exact trivial) | simp (maxSteps := 2000000) (disch := omega) only [bys_length, hg, e1, Int.natCast_add, Int.natCast_one, go_sem, seval] | ((with_reducible refine isS ?_); first | refine cS (hbl) ?_ | fail) | ((with_reducible refine isE ?_); refine eA ?_; (repeat' (first | exact le_mq0 rfl | exact le_mq0r rfl | refine le_mqr ?_ | refine le_mq ?_ | exact trivial | refine le_int ?_ | refine le_bool ?_ | refine le_str ?_ | refine le_sl ?_ | refine le_own ?_ | refine le_osl ?_ | refine le_nsl ?_ | exact rfl | ((rw [he]; omega); done) | refine ⟨?_, ?_⟩ | fail))) | ((with_reducible refine isI ?_ ?_); (kernel_rfl)) | fail)
  | succ k =>
    have hg := bys_at (by omega : k < b.length)
    have e1 : ((k : Int) + 1 - 1).toNat = k := by omega
    have hbl := gRBlank (Γ := Γ) (b.getD k 0)
    rw [trimTo] at hke
    cases hc : blankB (b.getD k 0)
    · rw [hc, if_neg (by decide)] at hke
      rw [hc] at hbl
      rw [tail hke]
      repeat' (first | (with_reducible exact trivial) | simp (maxSteps := 2000000) (disch := omega) only [bys_length, hg, e1, Int.natCast_add, Int.natCast_one, go_sem, seval] | ((with_reducible refine isS ?_); first | refine cS (hbl) ?_ | fail) | ((with_reducible refine isI ?_ ?_); (kernel_rfl)) | fail)
      clear hg hbl hc e1
      refine sh_loopX mixed (fun i : Nat => ([(1, .ptr 0 0), (3, .int .i64 i)], [(0, .box [.sl 1 (bys b), .int .i64 n] false)])) (fun i => i) (fun i => i ≤ k + 1 ∧ trimTo (fun c => !blankB c) b (k + 1) = trimTo (fun c => !blankB c) b i) (k + 1) ⟨Nat.le_refl _, rfl⟩ (wkAu (h1 := by (repeat' (first | exact le_mq0 rfl | exact le_mq0r rfl | refine le_mqr ?_ | refine le_mq ?_ | exact trivial | exact rfl | refine le_int ?_ | refine le_bool ?_ | refine le_str ?_ | refine le_sl ?_ | refine le_own ?_ | refine le_osl ?_ | refine le_nsl ?_ | refine ⟨_, rfl, ?_⟩ | refine ⟨?_, ?_⟩ | (omega; done) | fail)); first | done | fail) (h2 := by (repeat' (first | exact le_mq0 rfl | exact le_mq0r rfl | refine le_mqr ?_ | refine le_mq ?_ | exact trivial | exact rfl | refine le_int ?_ | refine le_bool ?_ | refine le_str ?_ | refine le_sl ?_ | refine le_own ?_ | refine le_osl ?_ | refine le_nsl ?_ | refine ⟨_, rfl, ?_⟩ | refine ⟨?_, ?_⟩ | (omega; done) | fail)); first | done | fail)) ?_
      rintro i ⟨hi, he⟩
      cases i with
      | zero => repeat' (first | (with_reducible exact trivial) | simp (maxSteps := 2000000) (disch := omega) only [go_sem, seval] | ((with_reducible refine isE ?_); refine eA ?_; (repeat' (first | exact le_mq0 rfl | exact le_mq0r rfl | refine le_mqr ?_ | refine le_mq ?_ | exact trivial | refine le_int ?_ | refine le_bool ?_ | refine le_str ?_ | refine le_sl ?_ | refine le_own ?_ | refine le_osl ?_ | refine le_nsl ?_ | exact rfl | ((rw [he]; rfl); done) | refine ⟨?_, ?_⟩ | fail))) | ((with_reducible refine isI ?_ ?_); (kernel_rfl)) | fail)
      | succ i =>
        have hg := bys_at (by omega : i < b.length)
        have e1 : ((i : Int) + 1 - 1).toNat = i := by omega
        have hbl := gRBlank (Γ := Γ) (b.getD i 0)
        rw [trimTo.eq_2 _ _ i] at he
        cases hc : blankB (b.getD i 0)
        · rw [hc, if_pos (by decide)] at he
          rw [hc] at hbl
          repeat' (first | (with_reducible exact trivial) | simp (maxSteps := 2000000) (disch := omega) only [bys_length, hg, e1, Int.natCast_add, Int.natCast_one, go_sem, seval] | ((with_reducible refine isS ?_); first | refine cS (hbl) ?_ | fail) | ((with_reducible refine isI ?_ ?_); (kernel_rfl)) | fail)
          exact ⟨i, by omega, ⟨by omega, he⟩, (wkAu (h1 := by (repeat' (first | exact le_mq0 rfl | exact le_mq0r rfl | refine le_mqr ?_ | refine le_mq ?_ | exact trivial | exact rfl | refine le_int ?_ | refine le_bool ?_ | refine le_str ?_ | refine le_sl ?_ | refine le_own ?_ | refine le_osl ?_ | refine le_nsl ?_ | refine ⟨_, rfl, ?_⟩ | refine ⟨?_, ?_⟩ | (omega; done) | fail)); first | done | fail) (h2 := by (repeat' (first | exact le_mq0 rfl | exact le_mq0r rfl | refine le_mqr ?_ | refine le_mq ?_ | exact trivial | exact rfl | refine le_int ?_ | refine le_bool ?_ | refine le_str ?_ | refine le_sl ?_ | refine le_own ?_ | refine le_osl ?_ | refine le_nsl ?_ | refine ⟨_, rfl, ?_⟩ | refine ⟨?_, ?_⟩ | (omega; done) | fail)); first | done | fail))⟩
        · rw [hc, if_neg (by decide)] at he
          rw [hc] at hbl
          repeat' (first | (with_reducible exact trivial) | simp (maxSteps := 2000000) (disch := omega) only [bys_length, hg, e1, Int.natCast_add, Int.natCast_one, go_sem, seval] | ((with_reducible refine isS ?_); first | refine cS (hbl) ?_ | fail) | ((with_reducible refine isE ?_); refine eA ?_; (repeat' (first | exact le_mq0 rfl | exact le_mq0r rfl | refine le_mqr ?_ | refine le_mq ?_ | exact trivial | refine le_int ?_ | refine le_bool ?_ | refine le_str ?_ | refine le_sl ?_ | refine le_own ?_ | refine le_osl ?_ | refine le_nsl ?_ | exact rfl | ((rw [he]; omega); done) | refine ⟨?_, ?_⟩ | fail))) | ((with_reducible refine isI ?_ ?_); (kernel_rfl)) | fail)
    · rw [hc, if_pos rfl] at hke
      rw [hc] at hbl
      repeat' (first | (with_reducible exact trivial) | simp (maxSteps := 2000000) (disch := omega) only [bys_length, hg, e1, Int.natCast_add, Int.natCast_one, go_sem, seval] | ((with_reducible refine isS ?_); first | refine cS (hbl) ?_ | fail) | ((with_reducible refine isI ?_ ?_); (kernel_rfl)) | fail)
      exact ⟨k, by omega, ⟨by omega, hke⟩, (wkAu (h1 := by (repeat' (first | exact le_mq0 rfl | exact le_mq0r rfl | refine le_mqr ?_ | refine le_mq ?_ | exact trivial | exact rfl | refine le_int ?_ | refine le_bool ?_ | refine le_str ?_ | refine le_sl ?_ | refine le_own ?_ | refine le_osl ?_ | refine le_nsl ?_ | refine ⟨_, rfl, ?_⟩ | refine ⟨?_, ?_⟩ | (omega; done) | fail)); first | done | fail) (h2 := by (repeat' (first | exact le_mq0 rfl | exact le_mq0r rfl | refine le_mqr ?_ | refine le_mq ?_ | exact trivial | exact rfl | refine le_int ?_ | refine le_bool ?_ | refine le_str ?_ | refine le_sl ?_ | refine le_own ?_ | refine le_osl ?_ | refine le_nsl ?_ | refine ⟨_, rfl, ?_⟩ | refine ⟨?_, ?_⟩ | (omega; done) | fail)); first | done | fail))⟩
theorem gROn (b : List UInt8) (n : Nat) (hb : b.length ≤ 4096) (hn : n ≤ b.length) : Good Tryd.prog Γ 69 [lA b n] [] (.ret (.int .i64 (onF b n))) [] := by
  refine sh_start mixed F69 rfl ⟨(by first | exact rfl | (simp only [go_sem, seval]; done) | (simp only [go_sem, seval]; exact rfl)), (by first | exact rfl | (simp only [go_sem, seval]; done) | (simp only [go_sem, seval]; exact rfl)), (by first | exact rfl | (simp only [go_sem, seval]; done) | (simp only [go_sem, seval]; exact rfl)), (by first | exact rfl | (simp only [go_sem, seval]; done) | (simp only [go_sem, seval]; exact rfl)), (by first | exact rfl | (simp only [go_sem, seval]; done) | (simp only [go_sem, seval]; exact rfl))⟩ ?_
  repeat' (first | (with_reducible exact trivial) | simp (maxSteps := 2000000) (disch := omega) only [go_sem, seval] | ((with_reducible refine isI ?_ ?_); (kernel_rfl)) | fail)
  have h0 := fwd_le (p := fun c => !blankB c) hn
  refine sh_loopX mixed (fun i : Nat => ([(1, .ptr 0 0), (3, .int .i64 i)], [(0, .box [.sl 1 (bys b), .int .i64 n] false)])) (fun i => b.length - i) (fun i => i ≤ b.length ∧ fwdTo (fun c => !blankB c) b n = fwdTo (fun c => !blankB c) b i) n ⟨hn, rfl⟩ wkAu ?_
  rintro i ⟨hi, he⟩
  have tail : fwdTo (fun c => !blankB c) b n = i → onF b n = fwdTo blankB b i := fun h => by unfold onF; rw [h]
  by_cases hl : i < b.length
  · have hg := bys_at hl
    have hbl := gRBlank (Γ := Γ) (b.getD i 0)
    rw [fwd_step hl] at he
    cases hc : blankB (b.getD i 0)
    · rw [hc, if_pos (by decide)] at he
      rw [hc] at hbl
      repeat' (first | (with_reducible exact trivial) | simp (maxSteps := 2000000) (disch := omega) only [bys_length, hg, Int.toNat_natCast, go_sem, seval] | ((with_reducible refine isS ?_); first | refine cS (hbl) ?_ | fail) | ((with_reducible refine isI ?_ ?_); (kernel_rfl)) | fail)
      exact ⟨i + 1, by omega, ⟨by omega, he⟩, wkAu⟩
    · rw [hc, if_neg (by decide)] at he
      rw [hc] at hbl
      rw [tail he]
      repeat' (first | (with_reducible exact trivial) | simp (maxSteps := 2000000) (disch := omega) only [bys_length, hg, Int.toNat_natCast, go_sem, seval] | ((with_reducible refine isS ?_); first | refine cS (hbl) ?_ | fail) | ((with_reducible refine isI ?_ ?_); (kernel_rfl)) | fail)
      refine sh_loopX mixed (fun j : Nat => ([(1, .ptr 0 0), (3, .int .i64 j)], [(0, .box [.sl 1 (bys b), .int .i64 n] false)])) (fun j => b.length - j) (fun j => j ≤ b.length ∧ fwdTo blankB b i = fwdTo blankB b j) i ⟨hi, rfl⟩ wkAu ?_
      rintro j ⟨hj, hf⟩
      by_cases hl3 : j < b.length
      · have hg := bys_at hl3
        have hbl := gRBlank (Γ := Γ) (b.getD j 0)
        rw [fwd_step hl3] at hf
        cases hc : blankB (b.getD j 0)
        · rw [hc, if_neg (by decide)] at hf
          rw [hc] at hbl
          rw [hf]
          repeat' (first | (with_reducible exact trivial) | simp (maxSteps := 2000000) (disch := omega) only [bys_length, hg, Int.toNat_natCast, go_sem, seval] | ((with_reducible refine isS ?_); first | refine cS (hbl) ?_ | fail) | ((with_reducible refine isE ?_); refine eA ?_; (repeat' (first | exact le_mq0 rfl | exact le_mq0r rfl | refine le_mqr ?_ | refine le_mq ?_ | exact trivial | refine le_int ?_ | refine le_bool ?_ | refine le_str ?_ | refine le_sl ?_ | refine le_own ?_ | refine le_osl ?_ | refine le_nsl ?_ | exact rfl | refine ⟨?_, ?_⟩ | fail))) | ((with_reducible refine isI ?_ ?_); (kernel_rfl)) | fail)
        · rw [hc, if_pos (by decide)] at hf
          rw [hc] at hbl
          repeat' (first | (with_reducible exact trivial) | simp (maxSteps := 2000000) (disch := omega) only [bys_length, hg, Int.toNat_natCast, go_sem, seval] | ((with_reducible refine isS ?_); first | refine cS (hbl) ?_ | fail) | ((with_reducible refine isI ?_ ?_); (kernel_rfl)) | fail)
          exact ⟨j + 1, by omega, ⟨by omega, hf⟩, wkAu⟩
      · rw [fwd_end hl3] at hf
        rw [hf]
        repeat' (first | (with_reducible exact trivial) | simp (maxSteps := 2000000) (disch := omega) only [bys_length, go_sem, seval] | ((with_reducible refine isE ?_); refine eA ?_; (repeat' (first | exact le_mq0 rfl | exact le_mq0r rfl | refine le_mqr ?_ | refine le_mq ?_ | exact trivial | refine le_int ?_ | refine le_bool ?_ | refine le_str ?_ | refine le_sl ?_ | refine le_own ?_ | refine le_osl ?_ | refine le_nsl ?_ | exact rfl | refine ⟨?_, ?_⟩ | fail))) | ((with_reducible refine isI ?_ ?_); (kernel_rfl)) | fail)
  · rw [fwd_end hl] at he
    rw [tail he]
    repeat' (first | (with_reducible exact trivial) | simp (maxSteps := 2000000) (disch := omega) only [bys_length, go_sem, seval] | ((with_reducible refine isI ?_ ?_); (kernel_rfl)) | fail)
    refine sh_loopX mixed (fun j : Nat => ([(1, .ptr 0 0), (3, .int .i64 j)], [(0, .box [.sl 1 (bys b), .int .i64 n] false)])) (fun j => b.length - j) (fun j => j ≤ b.length ∧ fwdTo blankB b i = fwdTo blankB b j) i ⟨hi, rfl⟩ wkAu ?_
    rintro j ⟨hj, hf⟩
    by_cases hl3 : j < b.length
    · have hg := bys_at hl3
      have hbl := gRBlank (Γ := Γ) (b.getD j 0)
      rw [fwd_step hl3] at hf
      cases hc : blankB (b.getD j 0)
      · rw [hc, if_neg (by decide)] at hf
        rw [hc] at hbl
        rw [hf]
        repeat' (first | (with_reducible exact trivial) | simp (maxSteps := 2000000) (disch := omega) only [bys_length, hg, Int.toNat_natCast, go_sem, seval] | ((with_reducible refine isS ?_); first | refine cS (hbl) ?_ | fail) | ((with_reducible refine isE ?_); refine eA ?_; (repeat' (first | exact le_mq0 rfl | exact le_mq0r rfl | refine le_mqr ?_ | refine le_mq ?_ | exact trivial | refine le_int ?_ | refine le_bool ?_ | refine le_str ?_ | refine le_sl ?_ | refine le_own ?_ | refine le_osl ?_ | refine le_nsl ?_ | exact rfl | refine ⟨?_, ?_⟩ | fail))) | ((with_reducible refine isI ?_ ?_); (kernel_rfl)) | fail)
      · rw [hc, if_pos (by decide)] at hf
        rw [hc] at hbl
        repeat' (first | (with_reducible exact trivial) | simp (maxSteps := 2000000) (disch := omega) only [bys_length, hg, Int.toNat_natCast, go_sem, seval] | ((with_reducible refine isS ?_); first | refine cS (hbl) ?_ | fail) | ((with_reducible refine isI ?_ ?_); (kernel_rfl)) | fail)
        exact ⟨j + 1, by omega, ⟨by omega, hf⟩, wkAu⟩
    · rw [fwd_end hl3] at hf
      rw [hf]
      repeat' (first | (with_reducible exact trivial) | simp (maxSteps := 2000000) (disch := omega) only [bys_length, go_sem, seval] | ((with_reducible refine isE ?_); refine eA ?_; (repeat' (first | exact le_mq0 rfl | exact le_mq0r rfl | refine le_mqr ?_ | refine le_mq ?_ | exact trivial | refine le_int ?_ | refine le_bool ?_ | refine le_str ?_ | refine le_sl ?_ | refine le_own ?_ | refine le_osl ?_ | refine le_nsl ?_ | exact rfl | refine ⟨?_, ?_⟩ | fail))) | ((with_reducible refine isI ?_ ?_); (kernel_rfl)) | fail)
end Go.Proofs.YtmkblhinpnodaaaDoor
