/- Layer 12: where words are. Own work. -/
import Derived.Test.YtmkblhinpnodaaaDoorZ3
import Derived.Test.YtmkblhinpnodaaaDoorLc
namespace Go.Proofs.YtmkblhinpnodaaaDoor
open Go Go.Shade
variable {Γ : Globs}
abbrev lA (b : List UInt8) (n : Int) : AV := .agg [.sl 1 (bys b), .int .i64 n]
def mayL (b : List UInt8) (n : Int) : Prop := b.length ≤ 4096 ∧ 0 ≤ n ∧ n ≤ b.length
instance (b : List UInt8) (n : Int) : Decidable (mayL b n) := inferInstanceAs (Decidable (_ ∧ _))
theorem gLCheck (b : List UInt8) (n : Int) : Good Tryd.prog Γ 46 [lA b n] [] (.ret (.int .i64 (if mayL b n then 0 else 1))) [] := by
  refine sh_start mixed F46 rfl ⟨(by first | exact rfl | (simp only [go_sem, seval]; done) | (simp only [go_sem, seval]; exact rfl)), (by first | exact rfl | (simp only [go_sem, seval]; done) | (simp only [go_sem, seval]; exact rfl)), (by first | exact rfl | (simp only [go_sem, seval]; done) | (simp only [go_sem, seval]; exact rfl)), (by first | exact rfl | (simp only [go_sem, seval]; done) | (simp only [go_sem, seval]; exact rfl)), (by first | exact rfl | (simp only [go_sem, seval]; done) | (simp only [go_sem, seval]; exact rfl))⟩ ?_
  unfold mayL
  by_cases h1 : b.length ≤ 4096 <;> by_cases h2 : 0 ≤ n <;> by_cases h3 : n ≤ b.length
  all_goals repeat' (first | (with_reducible exact trivial) | simp (maxSteps := 2000000) (disch := omega) only [bys_length, h1, h2, h3, go_sem, seval] | ((with_reducible refine isE ?_); refine eA ?_; (repeat' (first | exact le_mq0 rfl | exact le_mq0r rfl | refine le_mqr ?_ | refine le_mq ?_ | exact trivial | refine le_int ?_ | refine le_bool ?_ | refine le_str ?_ | refine le_sl ?_ | refine le_own ?_ | refine le_osl ?_ | refine le_nsl ?_ | exact rfl | (first | simp | omega; done) | refine ⟨?_, ?_⟩ | fail))) | ((with_reducible refine isI ?_ ?_); (kernel_rfl)) | fail)
theorem gLMay (b : List UInt8) (n : Int) : Good Tryd.prog Γ 41 [lA b n] [] (.ret (.bool (decide (mayL b n)))) [] := by
  refine sh_start mixed F41 rfl ⟨(by first | exact rfl | (simp only [go_sem, seval]; done) | (simp only [go_sem, seval]; exact rfl)), (by first | exact rfl | (simp only [go_sem, seval]; done) | (simp only [go_sem, seval]; exact rfl)), (by first | exact rfl | (simp only [go_sem, seval]; done) | (simp only [go_sem, seval]; exact rfl)), (by first | exact rfl | (simp only [go_sem, seval]; done) | (simp only [go_sem, seval]; exact rfl)), (by first | exact rfl | (simp only [go_sem, seval]; done) | (simp only [go_sem, seval]; exact rfl))⟩ ?_
  unfold mayL
  by_cases h1 : b.length ≤ 4096 <;> by_cases h2 : 0 ≤ n <;> by_cases h3 : n ≤ b.length
  all_goals repeat' (first | (with_reducible exact trivial) | simp (maxSteps := 2000000) (disch := omega) only [bys_length, h1, h2, h3, go_sem, seval] | ((with_reducible refine isE ?_); refine eA ?_; (repeat' (first | exact le_mq0 rfl | exact le_mq0r rfl | refine le_mqr ?_ | refine le_mq ?_ | exact trivial | refine le_int ?_ | refine le_bool ?_ | refine le_str ?_ | refine le_sl ?_ | refine le_own ?_ | refine le_osl ?_ | refine le_nsl ?_ | exact rfl | (first | simp | omega; done) | refine ⟨?_, ?_⟩ | fail))) | ((with_reducible refine isI ?_ ?_); (kernel_rfl)) | fail)
theorem blank_or (c : UInt8) : blankB c = (decide (c = 32) || decide (c = 9)) := by
  unfold blankB
  rw [List.contains_cons, List.contains_cons]
  by_cases h1 : c = 32 <;> by_cases h2 : c = 9 <;> simp [h1, h2]
theorem is32 (c : UInt8) : ((c.toNat : Int) = 32) = (c = 32) := propext ⟨fun h => UInt8.toNat_inj.1 (by show c.toNat = 32; omega), fun h => by rw [h]; rfl⟩
theorem is9 (c : UInt8) : ((c.toNat : Int) = 9) = (c = 9) := propext ⟨fun h => UInt8.toNat_inj.1 (by show c.toNat = 9; omega), fun h => by rw [h]; rfl⟩
theorem gBlank (c : UInt8) : Good Tryd.prog Γ 91 [.int .u8 c.toNat] [] (.ret (.bool (blankB c))) [] := by
  refine sh_start mixed F91 rfl ⟨(by first | exact rfl | (simp only [go_sem, seval]; done) | (simp only [go_sem, seval]; exact rfl)), (by first | exact rfl | (simp only [go_sem, seval]; done) | (simp only [go_sem, seval]; exact rfl)), (by first | exact rfl | (simp only [go_sem, seval]; done) | (simp only [go_sem, seval]; exact rfl)), (by first | exact rfl | (simp only [go_sem, seval]; done) | (simp only [go_sem, seval]; exact rfl)), (by first | exact rfl | (simp only [go_sem, seval]; done) | (simp only [go_sem, seval]; exact rfl))⟩ ?_
  rw [blank_or]
  by_cases h1 : c = 32 <;> by_cases h2 : c = 9
  all_goals repeat' (first | (with_reducible exact trivial) | simp (maxSteps := 2000000) (disch := omega) only [is32, is9, h1, h2, go_sem, seval] | ((with_reducible refine isE ?_); refine eA ?_; (repeat' (first | exact le_mq0 rfl | exact le_mq0r rfl | refine le_mqr ?_ | refine le_mq ?_ | exact trivial | refine le_int ?_ | refine le_bool ?_ | refine le_str ?_ | refine le_sl ?_ | refine le_own ?_ | refine le_osl ?_ | refine le_nsl ?_ | exact rfl | (first | rfl | simp; done) | refine ⟨?_, ?_⟩ | fail))) | ((with_reducible refine isI ?_ ?_); (kernel_rfl)) | fail)
theorem gRBlank (c : UInt8) : Good Tryd.prog Γ 89 [.int .u8 c.toNat] [] (.ret (.bool (blankB c))) [] := by
  refine sh_start mixed F89 rfl ⟨(by first | exact rfl | (simp only [go_sem, seval]; done) | (simp only [go_sem, seval]; exact rfl)), (by first | exact rfl | (simp only [go_sem, seval]; done) | (simp only [go_sem, seval]; exact rfl)), (by first | exact rfl | (simp only [go_sem, seval]; done) | (simp only [go_sem, seval]; exact rfl)), (by first | exact rfl | (simp only [go_sem, seval]; done) | (simp only [go_sem, seval]; exact rfl)), (by first | exact rfl | (simp only [go_sem, seval]; done) | (simp only [go_sem, seval]; exact rfl))⟩ ?_
  rw [blank_or]
  by_cases h1 : c = 32 <;> by_cases h2 : c = 9
  all_goals repeat' (first | (with_reducible exact trivial) | simp (maxSteps := 2000000) (disch := omega) only [is32, is9, h1, h2, go_sem, seval] | ((with_reducible refine isE ?_); refine eA ?_; (repeat' (first | exact le_mq0 rfl | exact le_mq0r rfl | refine le_mqr ?_ | refine le_mq ?_ | exact trivial | refine le_int ?_ | refine le_bool ?_ | refine le_str ?_ | refine le_sl ?_ | refine le_own ?_ | refine le_osl ?_ | refine le_nsl ?_ | exact rfl | (first | rfl | simp; done) | refine ⟨?_, ?_⟩ | fail))) | ((with_reducible refine isI ?_ ?_); (kernel_rfl)) | fail)
theorem trimR_lenL (p : UInt8 → Bool) (l : List UInt8) : (trimR p l).length = trimTo p l l.length := take_len (trimTo_le p l _)
/-- A word back. -/
def backF (b : List UInt8) (n : Nat) : Nat := trimTo (fun c => !blankB c) b (trimTo blankB b n)
theorem trimTo_take (p : UInt8 → Bool) (b : List UInt8) (k : Nat) : ∀ n : Nat, n ≤ k → trimTo p (b.take k) n = trimTo p b n
  | 0, _ => rfl
  | n + 1, h => by
    have : (b.take k).getD n 0 = b.getD n 0 := by
      rw [List.getD_eq_getElem?_getD, List.getElem?_take, if_pos (by omega), List.getD_eq_getElem?_getD]
    rw [trimTo, trimTo, this, trimTo_take p b k n (by omega)]
theorem gBack (b : List UInt8) (n : Nat) (hb : b.length ≤ 4096) (hn : n ≤ b.length) : Good Tryd.prog Γ 74 [lA b n] [] (.ret (.int .i64 (backF b n))) [] := by
  refine sh_start mixed F74 rfl ⟨(by first | exact rfl | (simp only [go_sem, seval]; done) | (simp only [go_sem, seval]; exact rfl)), (by first | exact rfl | (simp only [go_sem, seval]; done) | (simp only [go_sem, seval]; exact rfl)), (by first | exact rfl | (simp only [go_sem, seval]; done) | (simp only [go_sem, seval]; exact rfl)), (by first | exact rfl | (simp only [go_sem, seval]; done) | (simp only [go_sem, seval]; exact rfl)), (by first | exact rfl | (simp only [go_sem, seval]; done) | (simp only [go_sem, seval]; exact rfl))⟩ ?_
  have hc := gLCheck (Γ := Γ) b n
  rw [if_pos ⟨hb, by omega, by omega⟩] at hc
  have ht := gTrimBlank (Γ := Γ) (b.take n) (by rw [List.length_take]; omega)
  have hl : (trimR blankB (b.take n)).length = trimTo blankB b n := by rw [trimR_lenL, trimTo_take blankB b n _ (by rw [List.length_take]; omega), List.length_take, Nat.min_eq_left hn]
  have hle := trimTo_le blankB b n
  generalize trimR blankB (b.take n) = t at ht hl
  unfold backF
  generalize trimTo blankB b n = k at hl hle ⊢
  repeat' (first | (with_reducible exact trivial) | simp (maxSteps := 2000000) (disch := omega) only [bys_length, bys_take, Int.toNat_natCast, hl, go_sem, seval] | ((with_reducible refine isS ?_); first | refine cS (hc) ?_ | refine cS (ht) ?_ | fail) | ((with_reducible refine isI ?_ ?_); (kernel_rfl)) | fail)
  refine sh_loopX mixed (fun i : Nat => ([(1, .ptr 0 0), (3, .int .i64 i)], [(0, .box [.sl 1 (bys b), .int .i64 n] false)])) (fun i => i) (fun i => i ≤ k ∧ trimTo (fun c => !blankB c) b k = trimTo (fun c => !blankB c) b i) k ⟨Nat.le_refl _, rfl⟩ wkAu ?_
  rintro i ⟨hi, he⟩
  cases i with
  | zero => repeat' (first | (with_reducible exact trivial) | simp (maxSteps := 2000000) (disch := omega) only [go_sem, seval] | ((with_reducible refine isE ?_); refine eA ?_; (repeat' (first | exact le_mq0 rfl | exact le_mq0r rfl | refine le_mqr ?_ | refine le_mq ?_ | exact trivial | refine le_int ?_ | refine le_bool ?_ | refine le_str ?_ | refine le_sl ?_ | refine le_own ?_ | refine le_osl ?_ | refine le_nsl ?_ | exact rfl | ((rw [he]; rfl); done) | refine ⟨?_, ?_⟩ | fail))) | ((with_reducible refine isI ?_ ?_); (kernel_rfl)) | fail)
  | succ i =>
    have hg := bys_at (by omega : i < b.length)
    have e1 : ((i : Int) + 1 - 1).toNat = i := by omega
    have hbl := gBlank (Γ := Γ) (b.getD i 0)
    rw [trimTo] at he
    cases hc : blankB (b.getD i 0)
    · rw [hc, if_pos (by decide)] at he
      rw [hc] at hbl
      repeat' (first | (with_reducible exact trivial) | simp (maxSteps := 2000000) (disch := omega) only [bys_length, hg, e1, Int.natCast_add, Int.natCast_one, go_sem, seval] | ((with_reducible refine isS ?_); first | refine cS (hbl) ?_ | fail) | ((with_reducible refine isI ?_ ?_); (kernel_rfl)) | fail)
      exact ⟨i, by omega, ⟨by omega, he⟩, (wkAu (h1 := by (repeat' (first | exact le_mq0 rfl | exact le_mq0r rfl | refine le_mqr ?_ | refine le_mq ?_ | exact trivial | exact rfl | refine le_int ?_ | refine le_bool ?_ | refine le_str ?_ | refine le_sl ?_ | refine le_own ?_ | refine le_osl ?_ | refine le_nsl ?_ | refine ⟨_, rfl, ?_⟩ | refine ⟨?_, ?_⟩ | (omega; done) | fail)); first | done | fail) (h2 := by (repeat' (first | exact le_mq0 rfl | exact le_mq0r rfl | refine le_mqr ?_ | refine le_mq ?_ | exact trivial | exact rfl | refine le_int ?_ | refine le_bool ?_ | refine le_str ?_ | refine le_sl ?_ | refine le_own ?_ | refine le_osl ?_ | refine le_nsl ?_ | refine ⟨_, rfl, ?_⟩ | refine ⟨?_, ?_⟩ | (omega; done) | fail)); first | done | fail))⟩
    · rw [hc, if_neg (by simp)] at he
      rw [hc] at hbl
      repeat' (first | (with_reducible exact trivial) | simp (maxSteps := 2000000) (disch := omega) only [bys_length, hg, e1, Int.natCast_add, Int.natCast_one, go_sem, seval] | ((with_reducible refine isS ?_); first | refine cS (hbl) ?_ | fail) | ((with_reducible refine isE ?_); refine eA ?_; (repeat' (first | exact le_mq0 rfl | exact le_mq0r rfl | refine le_mqr ?_ | refine le_mq ?_ | exact trivial | refine le_int ?_ | refine le_bool ?_ | refine le_str ?_ | refine le_sl ?_ | refine le_own ?_ | refine le_osl ?_ | refine le_nsl ?_ | exact rfl | ((rw [he]; omega); done) | refine ⟨?_, ?_⟩ | fail))) | ((with_reducible refine isI ?_ ?_); (kernel_rfl)) | fail)
/-- A word on. -/
def fwdTo (p : UInt8 → Bool) (b : List UInt8) (n : Nat) : Nat := n + ((b.drop n).takeWhile p).length
theorem fwd_step {p : UInt8 → Bool} {b : List UInt8} {n : Nat} (h : n < b.length) : fwdTo p b n = if p (b.getD n 0) = true then fwdTo p b (n + 1) else n := by
  unfold fwdTo
  rw [List.drop_eq_getElem_cons h, List.takeWhile_cons, List.getD_eq_getElem?_getD, List.getElem?_eq_getElem h, Option.getD_some]
  split
  · rw [List.length_cons]; omega
  · rfl
theorem fwd_end {p : UInt8 → Bool} {b : List UInt8} {n : Nat} (h : ¬ n < b.length) : fwdTo p b n = n := by
  unfold fwdTo
  rw [List.drop_eq_nil_of_le (by omega)]
  rfl
theorem fwd_le {p : UInt8 → Bool} {b : List UInt8} {n : Nat} (h : n ≤ b.length) : n ≤ fwdTo p b n ∧ fwdTo p b n ≤ b.length := by
  unfold fwdTo
  have h1 : ((b.drop n).takeWhile p).length ≤ (b.drop n).length := (List.takeWhile_sublist p).length_le
  rw [List.length_drop] at h1
  omega
def onF (b : List UInt8) (n : Nat) : Nat := fwdTo blankB b (fwdTo (fun c => !blankB c) b n)
theorem gOn (b : List UInt8) (n : Nat) (hb : b.length ≤ 4096) (hn : n ≤ b.length) : Good Tryd.prog Γ 76 [lA b n] [] (.ret (.int .i64 (onF b n))) [] := by
  refine sh_start mixed F76 rfl ⟨(by first | exact rfl | (simp only [go_sem, seval]; done) | (simp only [go_sem, seval]; exact rfl)), (by first | exact rfl | (simp only [go_sem, seval]; done) | (simp only [go_sem, seval]; exact rfl)), (by first | exact rfl | (simp only [go_sem, seval]; done) | (simp only [go_sem, seval]; exact rfl)), (by first | exact rfl | (simp only [go_sem, seval]; done) | (simp only [go_sem, seval]; exact rfl)), (by first | exact rfl | (simp only [go_sem, seval]; done) | (simp only [go_sem, seval]; exact rfl))⟩ ?_
  have hc := gLCheck (Γ := Γ) b n
  rw [if_pos ⟨hb, by omega, by omega⟩] at hc
  repeat' (first | (with_reducible exact trivial) | simp (maxSteps := 2000000) (disch := omega) only [go_sem, seval] | ((with_reducible refine isS ?_); first | refine cS (hc) ?_ | fail) | ((with_reducible refine isI ?_ ?_); (kernel_rfl)) | fail)
  have h0 := fwd_le (p := fun c => !blankB c) hn
  refine sh_loopX mixed (fun i : Nat => ([(1, .ptr 0 0), (3, .int .i64 i)], [(0, .box [.sl 1 (bys b), .int .i64 n] false)])) (fun i => b.length - i) (fun i => i ≤ b.length ∧ fwdTo (fun c => !blankB c) b n = fwdTo (fun c => !blankB c) b i) n ⟨hn, rfl⟩ wkAu ?_
  rintro i ⟨hi, he⟩
  have tail : fwdTo (fun c => !blankB c) b n = i → onF b n = fwdTo blankB b i := fun h => by unfold onF; rw [h]
  by_cases hl : i < b.length
  · have hg := bys_at hl
    have hbl := gBlank (Γ := Γ) (b.getD i 0)
    rw [fwd_step hl] at he
    cases hc : blankB (b.getD i 0)
    · rw [hc, if_pos (by decide)] at he
      rw [hc] at hbl
      repeat' (first | (with_reducible exact trivial) | simp (maxSteps := 2000000) (disch := omega) only [bys_length, hg, Int.toNat_natCast, go_sem, seval] | ((with_reducible refine isS ?_); first | refine cS (hbl) ?_ | fail) | ((with_reducible refine isI ?_ ?_); (kernel_rfl)) | fail)
      exact ⟨i + 1, by omega, ⟨by omega, he⟩, wkAu⟩
    · rw [hc, if_neg (by decide)] at he
      rw [hc] at hbl
      rw [tail he]
      repeat' (first | (with_reducible exact trivial) | simp (maxSteps := 2000000) (disch := omega) only [bys_length, hg, Int.toNat_natCast, go_sem, seval] | ((with_reducible refine isS ?_); first | refine cS (hbl) ?_ | fail) | ((with_reducible refine isI ?_ ?_); (kernel_rfl)) | fail)
      refine sh_loopX mixed (fun j : Nat => ([(1, .ptr 0 0), (3, .int .i64 j)], [(0, .box [.sl 1 (bys b), .int .i64 n] false)])) (fun j => b.length - j) (fun j => j ≤ b.length ∧ fwdTo blankB b i = fwdTo blankB b j) i ⟨hi, rfl⟩ wkAu ?_
      rintro j ⟨hj, hf⟩
      by_cases hl3 : j < b.length
      · have hg := bys_at hl3
        have hbl := gBlank (Γ := Γ) (b.getD j 0)
        rw [fwd_step hl3] at hf
        cases hc : blankB (b.getD j 0)
        · rw [hc, if_neg (by decide)] at hf
          rw [hc] at hbl
          rw [hf]
          repeat' (first | (with_reducible exact trivial) | simp (maxSteps := 2000000) (disch := omega) only [bys_length, hg, Int.toNat_natCast, go_sem, seval] | ((with_reducible refine isS ?_); first | refine cS (hbl) ?_ | fail) | ((with_reducible refine isE ?_); refine eA ?_; (repeat' (first | exact le_mq0 rfl | exact le_mq0r rfl | refine le_mqr ?_ | refine le_mq ?_ | exact trivial | refine le_int ?_ | refine le_bool ?_ | refine le_str ?_ | refine le_sl ?_ | refine le_own ?_ | refine le_osl ?_ | refine le_nsl ?_ | exact rfl | refine ⟨?_, ?_⟩ | fail))) | ((with_reducible refine isI ?_ ?_); (kernel_rfl)) | fail)
        · rw [hc, if_pos (by decide)] at hf
          rw [hc] at hbl
          repeat' (first | (with_reducible exact trivial) | simp (maxSteps := 2000000) (disch := omega) only [bys_length, hg, Int.toNat_natCast, go_sem, seval] | ((with_reducible refine isS ?_); first | refine cS (hbl) ?_ | fail) | ((with_reducible refine isI ?_ ?_); (kernel_rfl)) | fail)
          exact ⟨j + 1, by omega, ⟨by omega, hf⟩, wkAu⟩
      · rw [fwd_end hl3] at hf
        rw [hf]
        repeat' (first | (with_reducible exact trivial) | simp (maxSteps := 2000000) (disch := omega) only [bys_length, go_sem, seval] | ((with_reducible refine isE ?_); refine eA ?_; (repeat' (first | exact le_mq0 rfl | exact le_mq0r rfl | refine le_mqr ?_ | refine le_mq ?_ | exact trivial | refine le_int ?_ | refine le_bool ?_ | refine le_str ?_ | refine le_sl ?_ | refine le_own ?_ | refine le_osl ?_ | refine le_nsl ?_ | exact rfl | refine ⟨?_, ?_⟩ | fail))) | ((with_reducible refine isI ?_ ?_); (kernel_rfl)) | fail)
  · rw [fwd_end hl] at he
    rw [tail he]
    repeat' (first | (with_reducible exact trivial) | simp (maxSteps := 2000000) (disch := omega) only [bys_length, go_sem, seval] | ((with_reducible refine isI ?_ ?_); (kernel_rfl)) | fail)
    refine sh_loopX mixed (fun j : Nat => ([(1, .ptr 0 0), (3, .int .i64 j)], [(0, .box [.sl 1 (bys b), .int .i64 n] false)])) (fun j => b.length - j) (fun j => j ≤ b.length ∧ fwdTo blankB b i = fwdTo blankB b j) i ⟨hi, rfl⟩ wkAu ?_
    rintro j ⟨hj, hf⟩
    by_cases hl3 : j < b.length
    · have hg := bys_at hl3
      have hbl := gBlank (Γ := Γ) (b.getD j 0)
      rw [fwd_step hl3] at hf
      cases hc : blankB (b.getD j 0)
      · rw [hc, if_neg (by decide)] at hf
        rw [hc] at hbl
        rw [hf]
        repeat' (first | (with_reducible exact trivial) | simp (maxSteps := 2000000) (disch := omega) only [bys_length, hg, Int.toNat_natCast, go_sem, seval] | ((with_reducible refine isS ?_); first | refine cS (hbl) ?_ | fail) | ((with_reducible refine isE ?_); refine eA ?_; (repeat' (first | exact le_mq0 rfl | exact le_mq0r rfl | refine le_mqr ?_ | refine le_mq ?_ | exact trivial | refine le_int ?_ | refine le_bool ?_ | refine le_str ?_ | refine le_sl ?_ | refine le_own ?_ | refine le_osl ?_ | refine le_nsl ?_ | exact rfl | refine ⟨?_, ?_⟩ | fail))) | ((with_reducible refine isI ?_ ?_); (kernel_rfl)) | fail)
      · rw [hc, if_pos (by decide)] at hf
        rw [hc] at hbl
        repeat' (first | (with_reducible exact trivial) | simp (maxSteps := 2000000) (disch := omega) only [bys_length, hg, Int.toNat_natCast, go_sem, seval] | ((with_reducible refine isS ?_); first | refine cS (hbl) ?_ | fail) | ((with_reducible refine isI ?_ ?_); (kernel_rfl)) | fail)
        exact ⟨j + 1, by omega, ⟨by omega, hf⟩, wkAu⟩
    · rw [fwd_end hl3] at hf
      rw [hf]
      repeat' (first | (with_reducible exact trivial) | simp (maxSteps := 2000000) (disch := omega) only [bys_length, go_sem, seval] | ((with_reducible refine isE ?_); refine eA ?_; (repeat' (first | exact le_mq0 rfl | exact le_mq0r rfl | refine le_mqr ?_ | refine le_mq ?_ | exact trivial | refine le_int ?_ | refine le_bool ?_ | refine le_str ?_ | refine le_sl ?_ | refine le_own ?_ | refine le_osl ?_ | refine le_nsl ?_ | exact rfl | refine ⟨?_, ?_⟩ | fail))) | ((with_reducible refine isI ?_ ?_); (kernel_rfl)) | fail)
end Go.Proofs.YtmkblhinpnodaaaDoor
