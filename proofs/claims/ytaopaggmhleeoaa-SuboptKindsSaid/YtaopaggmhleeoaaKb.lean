/- Layer 10: what the program's functions come to. Own work. -/
import Derived.Test.YtaopaggmhleeoaaKa
namespace Go.Proofs.Ytaopaggmhleeoaa
open Go Go.Shade
variable {Γ : Globs}
theorem gBit (c : UInt8) : Good Try.prog Γ 15 [.int .u8 c.toNat] [] (.ret (.tup [.int .i64 ((c.toNat / 8 : Nat) : Int), .int .u8 (bitU c).toNat])) [] := by
  refine sh_start mixed F15 rfl ⟨(by first | exact rfl | (simp only [go_sem, seval]; done) | (simp only [go_sem, seval]; exact rfl)), (by first | exact rfl | (simp only [go_sem, seval]; done) | (simp only [go_sem, seval]; exact rfl)), (by first | exact rfl | (simp only [go_sem, seval]; done) | (simp only [go_sem, seval]; exact rfl)), (by first | exact rfl | (simp only [go_sem, seval]; done) | (simp only [go_sem, seval]; exact rfl)), (by first | exact rfl | (simp only [go_sem, seval]; done) | (simp only [go_sem, seval]; exact rfl))⟩ ?_
  have hc := c.toNat_lt
  repeat' (first | (with_reducible exact trivial) | simp (maxSteps := 2000000) (disch := omega) only [bin_and8, u8_to, go_sem, seval] | ((with_reducible refine isE ?_); refine endA (by first | exact rfl | (simp only [go_sem, seval]; exact rfl) | (simp only [go_sem, seval]; done)) ?_ (by (repeat' (first | exact trivial | exact rfl | refine ⟨_, rfl, ?_⟩ | refine ⟨?_, ?_⟩ | fail)); first | done | fail) rfl rfl; (repeat' (first | exact le_mq0 rfl | exact le_mq0r rfl | refine le_mqr ?_ | refine le_mq ?_ | exact trivial | refine le_int ?_ | refine le_bool ?_ | refine le_str ?_ | refine le_sl ?_ | refine le_own ?_ | refine le_osl ?_ | refine le_nsl ?_ | exact rfl | refine ⟨?_, ?_⟩ | fail))) | ((with_reducible refine isI ?_ ?_); (kernel_rfl)) | fail)
theorem gHas (m : Mask) (c : UInt8) : Good Try.prog Γ 11 [.agg (mq m), .int .u8 c.toNat] [] (.ret (.bool (m.has c))) [] := by
  refine sh_start mixed F11 rfl ⟨(by first | exact rfl | (simp only [go_sem, seval]; done) | (simp only [go_sem, seval]; exact rfl)), (by first | exact rfl | (simp only [go_sem, seval]; done) | (simp only [go_sem, seval]; exact rfl)), (by first | exact rfl | (simp only [go_sem, seval]; done) | (simp only [go_sem, seval]; exact rfl)), (by first | exact rfl | (simp only [go_sem, seval]; done) | (simp only [go_sem, seval]; exact rfl)), (by first | exact rfl | (simp only [go_sem, seval]; done) | (simp only [go_sem, seval]; exact rfl))⟩ ?_
  have hc := c.toNat_lt
  have hi : c.toNat / 8 < 32 := by omega
  repeat' (first | (with_reducible exact trivial) | simp (maxSteps := 2000000) (disch := omega) only [bin_and8, u8_to, Int.toNat_natCast, mq_at hi, and0, go_sem, seval] | ((with_reducible refine isS ?_); first | refine sh_call (gBit c) [] (by (repeat' (first | exact le_mq0 rfl | exact le_mq0r rfl | refine le_mqr ?_ | refine le_mq ?_ | exact rfl | exact trivial | exact le_nbys | refine ⟨?_, ?_⟩ | fail)); first | done | fail) trivial rfl (by (repeat' (first | exact trivial | exact .inr rfl | refine ⟨?_, ?_⟩ | fail)); first | done | fail) ?_ | fail) | ((with_reducible refine isT ?_); first | refine sh_callT (gBit c) [] (by (repeat' (first | exact le_mq0 rfl | exact le_mq0r rfl | refine le_mqr ?_ | refine le_mq ?_ | exact rfl | exact trivial | exact le_nbys | refine ⟨?_, ?_⟩ | fail)); first | done | fail) trivial rfl (by (repeat' (first | exact trivial | exact .inr rfl | refine ⟨?_, ?_⟩ | fail)); first | done | fail) ?_ | fail) | ((with_reducible refine isE ?_); refine endA (by first | exact rfl | (simp only [go_sem, seval]; exact rfl) | (simp only [go_sem, seval]; done)) ?_ (by (repeat' (first | exact trivial | exact rfl | refine ⟨_, rfl, ?_⟩ | refine ⟨?_, ?_⟩ | fail)); first | done | fail) rfl rfl; (repeat' (first | exact le_mq0 rfl | exact le_mq0r rfl | refine le_mqr ?_ | refine le_mq ?_ | exact trivial | refine le_int ?_ | refine le_bool ?_ | refine le_str ?_ | refine le_sl ?_ | refine le_own ?_ | refine le_osl ?_ | refine le_nsl ?_ | exact rfl | (rfl; done) | refine ⟨?_, ?_⟩ | fail))) | ((with_reducible refine isI ?_ ?_); (kernel_rfl)) | fail)
theorem wit_f (m : Mask) (c : UInt8) : m.put (c.toNat / 8) (m.at (c.toNat / 8) &&& ~~~bitU c) = m.wit c false := rfl
theorem wit_t (m : Mask) (c : UInt8) : (m.put (c.toNat / 8) (m.at (c.toNat / 8) &&& ~~~bitU c)).put (c.toNat / 8) ((m.put (c.toNat / 8) (m.at (c.toNat / 8) &&& ~~~bitU c)).at (c.toNat / 8) ||| bitU c) = m.wit c true := by
  have hc := c.toNat_lt
  rw [Mask.put_put, Mask.at_put (by omega), if_pos rfl]
  rfl
/-- The keys that a set has. -/
def keyL (m : Mask) (n : Nat) : List UInt8 := ((List.range n).map UInt8.ofNat).filter m.has
theorem keyL_succ (m : Mask) (n : Nat) : keyL m (n + 1) = keyL m n ++ (if m.has (UInt8.ofNat n) = true then [UInt8.ofNat n] else []) := by
  unfold keyL
  rw [List.range_succ, List.map_append, List.filter_append, List.map_cons, List.map_nil]
  by_cases h : m.has (UInt8.ofNat n) = true <;> simp [h]
theorem keyL_len (m : Mask) (n : Nat) : (keyL m n).length ≤ n := by
  unfold keyL
  refine Nat.le_trans (List.length_filter_le _ _) ?_
  simp
def keysM (m : Mask) : List UInt8 := keyL m 256
theorem u8_nat {n : Nat} (h : n < 256) : ((UInt8.ofNat n).toNat : Int) = n := by
  rw [UInt8.toNat_ofNat', Nat.mod_eq_of_lt h]
theorem wrap_u8 {n : Nat} (h : n < 256) : IntKind.wrap .u8 (n : Int) = ((UInt8.ofNat n).toNat : Int) := by
  rw [wrapU8, u8_in (by omega) (by omega), u8_nat h]
theorem gGet (b : List UInt8) (h : b.length ≤ 1000000) : Good Try.prog Γ 14 [.sl 1 (bys b)] [] (.ret (.tup [.agg (mq (if b.length ≤ 32 then padM b else .zero)), .int .i64 (if b.length ≤ 32 then 0 else 3)])) [] := by
  refine sh_start mixed F14 rfl ⟨(by first | exact rfl | (simp only [go_sem, seval]; done) | (simp only [go_sem, seval]; exact rfl)), (by first | exact rfl | (simp only [go_sem, seval]; done) | (simp only [go_sem, seval]; exact rfl)), (by first | exact rfl | (simp only [go_sem, seval]; done) | (simp only [go_sem, seval]; exact rfl)), (by first | exact rfl | (simp only [go_sem, seval]; done) | (simp only [go_sem, seval]; exact rfl)), (by first | exact rfl | (simp only [go_sem, seval]; done) | (simp only [go_sem, seval]; exact rfl))⟩ ?_
  by_cases hl : b.length ≤ 32
  · have hmin : min b.length 32 = b.length := by omega
    have hc := mq_copy b hl
    rw [if_pos hl, if_pos hl]
    repeat' (first | (with_reducible exact trivial) | simp (maxSteps := 2000000) (disch := omega) only [bys_length, hmin, List.take_zero, List.nil_append, List.take_length, Nat.zero_add, hc, go_sem, seval] | ((with_reducible refine isE ?_); refine endA (by first | exact rfl | (simp only [go_sem, seval]; exact rfl) | (simp only [go_sem, seval]; done)) ?_ (by (repeat' (first | exact trivial | exact rfl | refine ⟨_, rfl, ?_⟩ | refine ⟨?_, ?_⟩ | fail)); first | done | fail) rfl rfl; (repeat' (first | exact le_mq0 rfl | exact le_mq0r rfl | refine le_mqr ?_ | refine le_mq ?_ | exact trivial | refine le_int ?_ | refine le_bool ?_ | refine le_str ?_ | refine le_sl ?_ | refine le_own ?_ | refine le_osl ?_ | refine le_nsl ?_ | exact rfl | refine ⟨?_, ?_⟩ | fail))) | ((with_reducible refine isI ?_ ?_); (kernel_rfl)) | fail)
  · rw [if_neg hl, if_neg hl]
    repeat' (first | (with_reducible exact trivial) | simp (maxSteps := 2000000) (disch := omega) only [bys_length, go_sem, seval] | ((with_reducible refine isE ?_); refine endA (by first | exact rfl | (simp only [go_sem, seval]; exact rfl) | (simp only [go_sem, seval]; done)) ?_ (by (repeat' (first | exact trivial | exact rfl | refine ⟨_, rfl, ?_⟩ | refine ⟨?_, ?_⟩ | fail)); first | done | fail) rfl rfl; (repeat' (first | exact le_mq0 rfl | exact le_mq0r rfl | refine le_mqr ?_ | refine le_mq ?_ | exact trivial | refine le_int ?_ | refine le_bool ?_ | refine le_str ?_ | refine le_sl ?_ | refine le_own ?_ | refine le_osl ?_ | refine le_nsl ?_ | exact rfl | refine ⟨?_, ?_⟩ | fail))) | ((with_reducible refine isI ?_ ?_); (kernel_rfl)) | fail)
end Go.Proofs.Ytaopaggmhleeoaa
