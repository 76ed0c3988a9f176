/- Layer 10: what the program's functions come to. Own work. -/
import Derived.Test.YtlijecknkpcgfaaDoorKa
namespace Go.Proofs.YtlijecknkpcgfaaDoor
open Go Go.Shade
variable {Γ : Globs}
theorem wit_f (m : Mask) (c : UInt8) : m.put (c.toNat / 8) (m.at (c.toNat / 8) &&& ~~~bitU c) = m.wit c false := rfl
theorem wit_t (m : Mask) (c : UInt8) : (m.put (c.toNat / 8) (m.at (c.toNat / 8) &&& ~~~bitU c)).put (c.toNat / 8) ((m.put (c.toNat / 8) (m.at (c.toNat / 8) &&& ~~~bitU c)).at (c.toNat / 8) ||| bitU c) = m.wit c true := by
  have hc := c.toNat_lt
  rw [Mask.put_put, Mask.at_put (by omega), if_pos rfl]
  rfl
/-- The keys that a set has. -/
def keyL (m : Mask) (n : Nat) : List UInt8 := ((List.range n).map UInt8.ofNat).filter m.has
theorem keyL_succ (m : Mask) (n : Nat) : keyL m (n + 1) = keyL m n ++ (if m.has (UInt8.ofNat n) = true then [UInt8.ofNat n] else []) := by
  unfold keyL
  rw [List.range_succ, List.map_append, List.filter_append, List.map_cons, List.map_nil]
  by_cases h : m.has (UInt8.ofNat n) = true <;> simp [h]
theorem keyL_len (m : Mask) (n : Nat) : (keyL m n).length ≤ n := by
  unfold keyL
  refine Nat.le_trans (List.length_filter_le _ _) ?_
  simp
def keysM (m : Mask) : List UInt8 := keyL m 256
theorem u8_nat {n : Nat} (h : n < 256) : ((UInt8.ofNat n).toNat : Int) = n := by
  rw [UInt8.toNat_ofNat', Nat.mod_eq_of_lt h]
theorem wrap_u8 {n : Nat} (h : n < 256) : IntKind.wrap .u8 (n : Int) = ((UInt8.ofNat n).toNat : Int) := by
  rw [wrapU8, u8_in (by omega) (by omega), u8_nat h]
theorem gGet (b : List UInt8) (h : b.length ≤ 1000000) : Good Tryd.prog Γ 77 [.sl 1 (bys b)] [] (.ret (.tup [.agg (mq (if b.length ≤ 32 then padM b else .zero)), .int .i64 (if b.length ≤ 32 then 0 else 3)])) [] := by
  refine sh_start mixed F77 rfl ⟨(by first | exact rfl | (simp only [go_sem, seval]; done) | (simp only [go_sem, seval]; exact rfl)), (by first | exact rfl | (simp only [go_sem, seval]; done) | (simp only [go_sem, seval]; exact rfl)), (by first | exact rfl | (simp only [go_sem, seval]; done) | (simp only [go_sem, seval]; exact rfl)), (by first | exact rfl | (simp only [go_sem, seval]; done) | (simp only [go_sem, seval]; exact rfl)), (by first | exact rfl | (simp only [go_sem, seval]; done) | (simp only [go_sem, seval]; exact rfl))⟩ ?_
  by_cases hl : b.length ≤ 32
  · have hmin : min b.length 32 = b.length := by omega
    have hc := mq_copy b hl
    rw [if_pos hl, if_pos hl]
    repeat' (first | (with_reducible exact trivial) | simp (maxSteps := 2000000) (disch := omega) only [bys_length, hmin, List.take_zero, List.nil_append, List.take_length, Nat.zero_add, hc, go_sem, seval] | ((with_reducible refine isE ?_); refine endA (by first | exact rfl | (simp only [go_sem, seval]; exact rfl) | (simp only [go_sem, seval]; done)) ?_ (by (repeat' (first | exact trivial | exact rfl | refine ⟨_, rfl, ?_⟩ | refine ⟨?_, ?_⟩ | fail)); first | done | fail) rfl rfl; (repeat' (first | exact le_mq0 rfl | exact le_mq0r rfl | refine le_mqr ?_ | refine le_mq ?_ | exact trivial | refine le_int ?_ | refine le_bool ?_ | refine le_str ?_ | refine le_sl ?_ | refine le_own ?_ | refine le_osl ?_ | refine le_nsl ?_ | exact rfl | refine ⟨?_, ?_⟩ | fail))) | ((with_reducible refine isI ?_ ?_); (kernel_rfl)) | fail)
  · rw [if_neg hl, if_neg hl]
    repeat' (first | (with_reducible exact trivial) | simp (maxSteps := 2000000) (disch := omega) only [bys_length, go_sem, seval] | ((with_reducible refine isE ?_); refine endA (by first | exact rfl | (simp only [go_sem, seval]; exact rfl) | (simp only [go_sem, seval]; done)) ?_ (by (repeat' (first | exact trivial | exact rfl | refine ⟨_, rfl, ?_⟩ | refine ⟨?_, ?_⟩ | fail)); first | done | fail) rfl rfl; (repeat' (first | exact le_mq0 rfl | exact le_mq0r rfl | refine le_mqr ?_ | refine le_mq ?_ | exact trivial | refine le_int ?_ | refine le_bool ?_ | refine le_str ?_ | refine le_sl ?_ | refine le_own ?_ | refine le_osl ?_ | refine le_nsl ?_ | exact rfl | refine ⟨?_, ?_⟩ | fail))) | ((with_reducible refine isI ?_ ?_); (kernel_rfl)) | fail)
theorem gPut (m : Mask) : Good Tryd.prog Γ 74 [.agg (mq m)] [] (.ret (.sl 1 (bys (trimR (· == 0) m.l)))) [] := by
  refine sh_start mixed F74 rfl ⟨(by first | exact rfl | (simp only [go_sem, seval]; done) | (simp only [go_sem, seval]; exact rfl)), (by first | exact rfl | (simp only [go_sem, seval]; done) | (simp only [go_sem, seval]; exact rfl)), (by first | exact rfl | (simp only [go_sem, seval]; done) | (simp only [go_sem, seval]; exact rfl)), (by first | exact rfl | (simp only [go_sem, seval]; done) | (simp only [go_sem, seval]; exact rfl)), (by first | exact rfl | (simp only [go_sem, seval]; done) | (simp only [go_sem, seval]; exact rfl))⟩ ?_
  have h := m.h
  repeat' (first | (with_reducible exact trivial) | simp (maxSteps := 2000000) (disch := omega) only [go_sem, seval] | ((with_reducible refine isS ?_); first | refine sh_call (gClone m.l (by omega)) [] (by (repeat' (first | exact le_mq0 rfl | exact le_mq0r rfl | refine le_mqr ?_ | refine le_mq ?_ | exact rfl | exact trivial | exact le_nbys | refine ⟨?_, ?_⟩ | fail)); first | done | fail) trivial rfl (by (repeat' (first | exact trivial | exact .inr rfl | exact .inl rfl | refine ⟨?_, ?_⟩ | fail)); first | done | fail) ?_ | refine sh_call (gTrim0 m.l (by omega)) [] (by (repeat' (first | exact le_mq0 rfl | exact le_mq0r rfl | refine le_mqr ?_ | refine le_mq ?_ | exact rfl | exact trivial | exact le_nbys | refine ⟨?_, ?_⟩ | fail)); first | done | fail) trivial rfl (by (repeat' (first | exact trivial | exact .inr rfl | exact .inl rfl | refine ⟨?_, ?_⟩ | fail)); first | done | fail) ?_ | fail) | ((with_reducible refine isE ?_); refine endA (by first | exact rfl | (simp only [go_sem, seval]; exact rfl) | (simp only [go_sem, seval]; done)) ?_ (by (repeat' (first | exact trivial | exact rfl | refine ⟨_, rfl, ?_⟩ | refine ⟨?_, ?_⟩ | fail)); first | done | fail) rfl rfl; (repeat' (first | exact le_mq0 rfl | exact le_mq0r rfl | refine le_mqr ?_ | refine le_mq ?_ | exact trivial | refine le_int ?_ | refine le_bool ?_ | refine le_str ?_ | refine le_sl ?_ | refine le_own ?_ | refine le_osl ?_ | refine le_nsl ?_ | exact rfl | refine ⟨?_, ?_⟩ | fail))) | ((with_reducible refine isI ?_ ?_); (kernel_rfl)) | fail)
end Go.Proofs.YtlijecknkpcgfaaDoor
