/- Functions of Go's library and small ones of the laws, on octets: what they come to. Own work. -/
import Derived.Test.YtlijecknkpcgfaaDoorCode
import Derived.Test.YtlijecknkpcgfaaDoorScb
import Derived.Test.YtlijecknkpcgfaaDoorZ3
import Derived.Test.YtlijecknkpcgfaaDoorZ3
namespace Go.Proofs.YtlijecknkpcgfaaDoor
open Go Go.Shade
variable {Γ : Globs}
theorem mixed : Tryd.prog.follows .mixedOrders = true := by kernel_rfl
theorem nilV_cons (x : UInt8) (xs : List UInt8) : nilV (.p (.sl 1 (bys (x :: xs)))) = some (some false) := by simp [nilV, bys, by1]
theorem bys_at {b : List UInt8} {i : Nat} (h : i < b.length) : (bys b).getD i [] = [.s (.int .u8 (b.getD i 0).toNat)] := bys_getD h
theorem gClone (b : List UInt8) (h : b.length ≤ 140737488355328) : Good Tryd.prog Γ 88 [.sl 1 (bys b)] [] (.ret (.own 0 1 (bys b))) [(0, .tok)] := by
  refine sh_startG mixed F88 rfl ⟨(by first | exact rfl | (simp only [go_sem, seval]; done) | (simp only [go_sem, seval]; exact rfl)), (by first | exact rfl | (simp only [go_sem, seval]; done) | (simp only [go_sem, seval]; exact rfl)), (by first | exact rfl | (simp only [go_sem, seval]; done) | (simp only [go_sem, seval]; exact rfl)), (by first | exact rfl | (simp only [go_sem, seval]; done) | (simp only [go_sem, seval]; exact rfl)), (by first | exact rfl | (simp only [go_sem, seval]; done) | (simp only [go_sem, seval]; exact rfl))⟩ ?_
  simp (disch := omega) only [go_sem, seval]
  cases b with
  | cons x xs =>
    rw [List.length_cons] at h
    refine nil_no (nilV_cons x xs) ?_
    simp (disch := omega) only [go_sem, seval]
    refine finY_S ?_
    simp (disch := omega) only [go_sem, seval]
    exact endE_by [(0, 1)] rfl ⟨rfl, trivial⟩ rfl rfl
  | nil =>
    refine nil_open rfl (fun t => ?_)
    cases t with
    | false =>
      simp (disch := omega) only [go_sem, seval]
      refine finY_S ?_
      simp (disch := omega) only [go_sem, seval]
      exact endE_by [(0, 1)] rfl ⟨rfl, trivial⟩ rfl rfl
    | true =>
      simp (disch := omega) only [go_sem, seval]
      refine finY_nil 2 0 1 rfl rfl (finY_S ?_)
      simp (disch := omega) only [go_sem, seval]
      exact endE_by [(0, 0)] rfl ⟨rfl, trivial⟩ rfl rfl
theorem gOctets (a b : List UInt8) : Good Tryd.prog Γ 15 [.sl 1 (bys a), .sl 1 (bys b)] [] (.ret (.bool (decide (a = b)))) [] := by
  refine sh_start mixed F15 rfl ⟨(by first | exact rfl | (simp only [go_sem, seval]; done) | (simp only [go_sem, seval]; exact rfl)), (by first | exact rfl | (simp only [go_sem, seval]; done) | (simp only [go_sem, seval]; exact rfl)), (by first | exact rfl | (simp only [go_sem, seval]; done) | (simp only [go_sem, seval]; exact rfl)), (by first | exact rfl | (simp only [go_sem, seval]; done) | (simp only [go_sem, seval]; exact rfl)), (by first | exact rfl | (simp only [go_sem, seval]; done) | (simp only [go_sem, seval]; exact rfl))⟩ ?_
  repeat' (first | (with_reducible exact trivial) | simp (maxSteps := 2000000) (disch := omega) only [go_sem, seval] | ((with_reducible refine isE ?_); refine eA ?_; (repeat' (first | exact le_mq0 rfl | exact le_mq0r rfl | refine le_mqr ?_ | refine le_mq ?_ | exact trivial | refine le_int ?_ | refine le_bool ?_ | refine le_str ?_ | refine le_sl ?_ | refine le_own ?_ | refine le_osl ?_ | refine le_nsl ?_ | exact rfl | refine ⟨?_, ?_⟩ | fail))) | ((with_reducible refine isI ?_ ?_); (kernel_rfl)) | fail)
theorem gEqual (a b : List UInt8) : Good Tryd.prog Γ 53 [.sl 1 (bys a), .sl 1 (bys b)] [] (.ret (.bool (decide (a = b)))) [] := by
  refine sh_start mixed F53 rfl ⟨(by first | exact rfl | (simp only [go_sem, seval]; done) | (simp only [go_sem, seval]; exact rfl)), (by first | exact rfl | (simp only [go_sem, seval]; done) | (simp only [go_sem, seval]; exact rfl)), (by first | exact rfl | (simp only [go_sem, seval]; done) | (simp only [go_sem, seval]; exact rfl)), (by first | exact rfl | (simp only [go_sem, seval]; done) | (simp only [go_sem, seval]; exact rfl)), (by first | exact rfl | (simp only [go_sem, seval]; done) | (simp only [go_sem, seval]; exact rfl))⟩ ?_
  repeat' (first | (with_reducible exact trivial) | simp (maxSteps := 2000000) (disch := omega) only [go_sem, seval] | ((with_reducible refine isE ?_); refine eA ?_; (repeat' (first | exact le_mq0 rfl | exact le_mq0r rfl | refine le_mqr ?_ | refine le_mq ?_ | exact trivial | refine le_int ?_ | refine le_bool ?_ | refine le_str ?_ | refine le_sl ?_ | refine le_own ?_ | refine le_osl ?_ | refine le_nsl ?_ | exact rfl | refine ⟨?_, ?_⟩ | fail))) | ((with_reducible refine isI ?_ ?_); (kernel_rfl)) | fail)
/-- How many are left, without those at the end that are such. -/
def trimTo (p : UInt8 → Bool) (l : List UInt8) : Nat → Nat
  | 0 => 0
  | n + 1 => if p (l.getD n 0) = true then trimTo p l n else n + 1
theorem trimTo_le (p : UInt8 → Bool) (l : List UInt8) : ∀ n, trimTo p l n ≤ n
  | 0 => Nat.le_refl _
  | n + 1 => by
    rw [trimTo]
    split
    · exact Nat.le_succ_of_le (trimTo_le p l n)
    · exact Nat.le_refl _
def trimR (p : UInt8 → Bool) (l : List UInt8) : List UInt8 := l.take (trimTo p l l.length)
theorem take_len {b : List UInt8} {n : Nat} (h : n ≤ b.length) : (b.take n).length = n := by rw [List.length_take]; omega
theorem gTrimByte (b : List UInt8) (c : UInt8) (h : b.length ≤ 140737488355328) : Good Tryd.prog Γ 91 [.sl 1 (bys b), .int .u8 c.toNat] [] (.ret (.sl 1 (bys (trimR (· == c) b)))) [] := by
  refine sh_start mixed F91 rfl ⟨(by first | exact rfl | (simp only [go_sem, seval]; done) | (simp only [go_sem, seval]; exact rfl)), (by first | exact rfl | (simp only [go_sem, seval]; done) | (simp only [go_sem, seval]; exact rfl)), (by first | exact rfl | (simp only [go_sem, seval]; done) | (simp only [go_sem, seval]; exact rfl)), (by first | exact rfl | (simp only [go_sem, seval]; done) | (simp only [go_sem, seval]; exact rfl)), (by first | exact rfl | (simp only [go_sem, seval]; done) | (simp only [go_sem, seval]; exact rfl))⟩ ?_
  repeat' (first | (with_reducible exact trivial) | simp (maxSteps := 2000000) (disch := omega) only [go_sem, seval] | ((with_reducible refine isI ?_ ?_); (kernel_rfl)) | fail)
  refine sh_loopX mixed (fun n : Nat => ([(0, .sl 1 (bys (b.take n))), (1, .int .u8 c.toNat)], [])) (fun n => n) (fun n => n ≤ b.length ∧ trimTo (· == c) b b.length = trimTo (· == c) b n) b.length ⟨Nat.le_refl _, rfl⟩ (wkAu (h1 := by (repeat' (first | exact le_mq0 rfl | exact le_mq0r rfl | refine le_mqr ?_ | refine le_mq ?_ | exact trivial | exact rfl | refine le_int ?_ | refine le_bool ?_ | refine le_str ?_ | refine le_sl ?_ | refine le_own ?_ | refine le_osl ?_ | refine le_nsl ?_ | refine ⟨_, rfl, ?_⟩ | refine ⟨?_, ?_⟩ | (rw [List.take_of_length_le (Nat.le_refl _)]; done) | fail)); first | done | fail) (h2 := by (repeat' (first | exact le_mq0 rfl | exact le_mq0r rfl | refine le_mqr ?_ | refine le_mq ?_ | exact trivial | exact rfl | refine le_int ?_ | refine le_bool ?_ | refine le_str ?_ | refine le_sl ?_ | refine le_own ?_ | refine le_osl ?_ | refine le_nsl ?_ | refine ⟨_, rfl, ?_⟩ | refine ⟨?_, ?_⟩ | (rw [List.take_of_length_le (Nat.le_refl _)]; done) | fail)); first | done | fail)) ?_
  rintro n ⟨hn, he⟩
  cases n with
  | zero => repeat' (first | (with_reducible exact trivial) | simp (maxSteps := 2000000) (disch := omega) only [List.take_zero, List.length_nil, go_sem, seval] | ((with_reducible refine isE ?_); refine eA ?_; (repeat' (first | exact le_mq0 rfl | exact le_mq0r rfl | refine le_mqr ?_ | refine le_mq ?_ | exact trivial | refine le_int ?_ | refine le_bool ?_ | refine le_str ?_ | refine le_sl ?_ | refine le_own ?_ | refine le_osl ?_ | refine le_nsl ?_ | exact rfl | ((unfold trimR; rw [he]; rfl); done) | refine ⟨?_, ?_⟩ | fail))) | ((with_reducible refine isI ?_ ?_); (kernel_rfl)) | fail)
  | succ n =>
    have hl := take_len hn
    have hg : (bys (b.take (n + 1))).getD n [] = [.s (.int .u8 (b.getD n 0).toNat)] := by
      rw [bys_at (by omega)]
      congr 3
      rw [List.getD_eq_getElem?_getD, List.getElem?_take, if_pos (by omega), List.getD_eq_getElem?_getD]
    have e1 : ((n : Int) + 1 - 1).toNat = n := by omega
    rw [trimTo] at he
    by_cases hc : b.getD n 0 = c
    · rw [if_pos (by simpa using hc)] at he
      have ht : (b.take (n + 1)).take n = b.take n := by rw [List.take_take, Nat.min_eq_left (by omega)]
      repeat' (first | (with_reducible exact trivial) | simp (maxSteps := 2000000) (disch := omega) only [bys_length, hl, hg, e1, hc, Int.natCast_add, Int.natCast_one, bys_take, ht, go_sem, seval] | ((with_reducible refine isI ?_ ?_); (kernel_rfl)) | fail)
      exact ⟨n, by omega, ⟨by omega, he⟩, wkAu⟩
    · rw [if_neg (by simpa using hc)] at he
      repeat' (first | (with_reducible exact trivial) | simp (maxSteps := 2000000) (disch := omega) only [bys_length, hl, hg, e1, hc, Int.natCast_add, Int.natCast_one, u8n_eq, go_sem, seval] | ((with_reducible refine isE ?_); refine eA ?_; (repeat' (first | exact le_mq0 rfl | exact le_mq0r rfl | refine le_mqr ?_ | refine le_mq ?_ | exact trivial | refine le_int ?_ | refine le_bool ?_ | refine le_str ?_ | refine le_sl ?_ | refine le_own ?_ | refine le_osl ?_ | refine le_nsl ?_ | exact rfl | ((unfold trimR; rw [he]); done) | refine ⟨?_, ?_⟩ | fail))) | ((with_reducible refine isI ?_ ?_); (kernel_rfl)) | fail)
theorem gTrim0 (b : List UInt8) (h : b.length ≤ 140737488355328) : Good Tryd.prog Γ 87 [.sl 1 (bys b), .p (.s (.string { data := #[0] }))] [] (.ret (.sl 1 (bys (trimR (· == 0) b)))) [] := by
  refine sh_start mixed F87 rfl ⟨(by first | exact rfl | (simp only [go_sem, seval]; done) | (simp only [go_sem, seval]; exact rfl)), (by first | exact rfl | (simp only [go_sem, seval]; done) | (simp only [go_sem, seval]; exact rfl)), (by first | exact rfl | (simp only [go_sem, seval]; done) | (simp only [go_sem, seval]; exact rfl)), (by first | exact rfl | (simp only [go_sem, seval]; done) | (simp only [go_sem, seval]; exact rfl)), (by first | exact rfl | (simp only [go_sem, seval]; done) | (simp only [go_sem, seval]; exact rfl))⟩ ?_
  have h1 := gTrimByte (Γ := Γ) b 0 h
  cases b with
  | nil => repeat' (first | (with_reducible exact trivial) | simp (maxSteps := 2000000) (disch := omega) only [go_sem, seval] | ((with_reducible refine isE ?_); refine eA ?_; (repeat' (first | exact le_mq0 rfl | exact le_mq0r rfl | refine le_mqr ?_ | refine le_mq ?_ | exact trivial | refine le_int ?_ | refine le_bool ?_ | refine le_str ?_ | refine le_sl ?_ | refine le_own ?_ | refine le_osl ?_ | refine le_nsl ?_ | exact rfl | (rfl; done) | refine ⟨?_, ?_⟩ | fail))) | ((with_reducible refine isI ?_ ?_); (kernel_rfl)) | fail)
  | cons x xs =>
    rw [List.length_cons] at h
    generalize hb : x :: xs = b at h1 ⊢
    have hl : b.length ≠ 0 := by rw [← hb]; simp
    repeat' (first | (with_reducible exact trivial) | simp (maxSteps := 2000000) (disch := omega) only [bys_length, go_sem, seval] | ((with_reducible refine isS ?_); first | refine cS (h1) ?_ | fail) | ((with_reducible refine isE ?_); refine eA ?_; (repeat' (first | exact le_mq0 rfl | exact le_mq0r rfl | refine le_mqr ?_ | refine le_mq ?_ | exact trivial | refine le_int ?_ | refine le_bool ?_ | refine le_str ?_ | refine le_sl ?_ | refine le_own ?_ | refine le_osl ?_ | refine le_nsl ?_ | exact rfl | refine ⟨?_, ?_⟩ | fail))) | ((with_reducible refine isI ?_ ?_); (kernel_rfl)) | fail)
end Go.Proofs.YtlijecknkpcgfaaDoor
