/- Layer 14: plain keys; an octet, so often. Own work. -/
import Derived.Test.YtmkblhinpnodaaaDoorFa
import Derived.Test.YtmkblhinpnodaaaDoorZ3
import Derived.Test.YtmkblhinpnodaaaDoorEh
namespace Go.Proofs.YtmkblhinpnodaaaDoor
open Go Go.Shade
variable {Γ : Globs}
theorem gPlain (t : Tbl) (k : UInt8) : Good Tryd.prog Γ 62 [.agg (tq t), .int .u8 k.toNat] [] (.ret (.bool (plainK t k))) [] := by
  have hm := gMeaning (Γ := Γ) t k
  unfold plainK
  generalize meaning t k = f at hm ⊢
  refine sh_start mixed F62 rfl ⟨(by first | exact rfl | (simp only [go_sem, seval]; done) | (simp only [go_sem, seval]; exact rfl)), (by first | exact rfl | (simp only [go_sem, seval]; done) | (simp only [go_sem, seval]; exact rfl)), (by first | exact rfl | (simp only [go_sem, seval]; done) | (simp only [go_sem, seval]; exact rfl)), (by first | exact rfl | (simp only [go_sem, seval]; done) | (simp only [go_sem, seval]; exact rfl)), (by first | exact rfl | (simp only [go_sem, seval]; done) | (simp only [go_sem, seval]; exact rfl))⟩ ?_
  by_cases h0 : f = 0
  · subst h0
    repeat' (first | (with_reducible exact trivial) | simp (maxSteps := 2000000) (disch := omega) only [go_sem, seval] | ((with_reducible refine isS ?_); first | refine cS (hm) ?_ | fail) | ((with_reducible refine isE ?_); refine eA ?_; (repeat' (first | exact le_tq0 rfl | exact le_tq0r rfl | refine le_tqr rfl ?_ | refine le_tq rfl ?_ | exact trivial | refine le_int ?_ | refine le_bool ?_ | refine le_str ?_ | refine le_sl ?_ | refine le_own ?_ | refine le_osl ?_ | refine le_nsl ?_ | exact rfl | (rfl; done) | refine ⟨?_, ?_⟩ | fail))) | ((with_reducible refine isI ?_ ?_); (kernel_rfl)) | fail)
  by_cases h17 : f = 17
  · subst h17
    repeat' (first | (with_reducible exact trivial) | simp (maxSteps := 2000000) (disch := omega) only [go_sem, seval] | ((with_reducible refine isS ?_); first | refine cS (hm) ?_ | fail) | ((with_reducible refine isE ?_); refine eA ?_; (repeat' (first | exact le_tq0 rfl | exact le_tq0r rfl | refine le_tqr rfl ?_ | refine le_tq rfl ?_ | exact trivial | refine le_int ?_ | refine le_bool ?_ | refine le_str ?_ | refine le_sl ?_ | refine le_own ?_ | refine le_osl ?_ | refine le_nsl ?_ | exact rfl | (rfl; done) | refine ⟨?_, ?_⟩ | fail))) | ((with_reducible refine isI ?_ ?_); (kernel_rfl)) | fail)
  by_cases h18 : f = 18
  · subst h18
    repeat' (first | (with_reducible exact trivial) | simp (maxSteps := 2000000) (disch := omega) only [go_sem, seval] | ((with_reducible refine isS ?_); first | refine cS (hm) ?_ | fail) | ((with_reducible refine isE ?_); refine eA ?_; (repeat' (first | exact le_tq0 rfl | exact le_tq0r rfl | refine le_tqr rfl ?_ | refine le_tq rfl ?_ | exact trivial | refine le_int ?_ | refine le_bool ?_ | refine le_str ?_ | refine le_sl ?_ | refine le_own ?_ | refine le_osl ?_ | refine le_nsl ?_ | exact rfl | (rfl; done) | refine ⟨?_, ?_⟩ | fail))) | ((with_reducible refine isI ?_ ?_); (kernel_rfl)) | fail)
  · rw [decide_eq_false (by omega)]
    have e0 : ¬ (f : Int) = 0 := by omega
    have e17 : ¬ (f : Int) = 17 := by omega
    have e18 : ¬ (f : Int) = 18 := by omega
    repeat' (first | (with_reducible exact trivial) | simp (maxSteps := 2000000) (disch := omega) only [e0, e17, e18, go_sem, seval] | ((with_reducible refine isS ?_); first | refine cS (hm) ?_ | fail) | ((with_reducible refine isE ?_); refine eA ?_; (repeat' (first | exact le_tq0 rfl | exact le_tq0r rfl | refine le_tqr rfl ?_ | refine le_tq rfl ?_ | exact trivial | refine le_int ?_ | refine le_bool ?_ | refine le_str ?_ | refine le_sl ?_ | refine le_own ?_ | refine le_osl ?_ | refine le_nsl ?_ | exact rfl | (rfl; done) | refine ⟨?_, ?_⟩ | fail))) | ((with_reducible refine isI ?_ ?_); (kernel_rfl)) | fail)
theorem gRPlain (t : Tbl) (k : UInt8) : Good Tryd.prog Γ 64 [.agg (tq t), .int .u8 k.toNat] [] (.ret (.bool (plainK t k))) [] := by
  have hm := gRMeaning (Γ := Γ) t k
  unfold plainK
  generalize meaning t k = f at hm ⊢
  refine sh_start mixed F64 rfl ⟨(by first | exact rfl | (simp only [go_sem, seval]; done) | (simp only [go_sem, seval]; exact rfl)), (by first | exact rfl | (simp only [go_sem, seval]; done) | (simp only [go_sem, seval]; exact rfl)), (by first | exact rfl | (simp only [go_sem, seval]; done) | (simp only [go_sem, seval]; exact rfl)), (by first | exact rfl | (simp only [go_sem, seval]; done) | (simp only [go_sem, seval]; exact rfl)), (by first | exact rfl | (simp only [go_sem, seval]; done) | (simp only [go_sem, seval]; exact rfl))⟩ ?_
  by_cases h0 : f = 0
  · subst h0
    repeat' (first | (with_reducible exact trivial) | simp (maxSteps := 2000000) (disch := omega) only [go_sem, seval] | ((with_reducible refine isS ?_); first | refine cS (hm) ?_ | fail) | ((with_reducible refine isE ?_); refine eA ?_; (repeat' (first | exact le_tq0 rfl | exact le_tq0r rfl | refine le_tqr rfl ?_ | refine le_tq rfl ?_ | exact trivial | refine le_int ?_ | refine le_bool ?_ | refine le_str ?_ | refine le_sl ?_ | refine le_own ?_ | refine le_osl ?_ | refine le_nsl ?_ | exact rfl | (rfl; done) | refine ⟨?_, ?_⟩ | fail))) | ((with_reducible refine isI ?_ ?_); (kernel_rfl)) | fail)
  by_cases h17 : f = 17
  · subst h17
    repeat' (first | (with_reducible exact trivial) | simp (maxSteps := 2000000) (disch := omega) only [go_sem, seval] | ((with_reducible refine isS ?_); first | refine cS (hm) ?_ | fail) | ((with_reducible refine isE ?_); refine eA ?_; (repeat' (first | exact le_tq0 rfl | exact le_tq0r rfl | refine le_tqr rfl ?_ | refine le_tq rfl ?_ | exact trivial | refine le_int ?_ | refine le_bool ?_ | refine le_str ?_ | refine le_sl ?_ | refine le_own ?_ | refine le_osl ?_ | refine le_nsl ?_ | exact rfl | (rfl; done) | refine ⟨?_, ?_⟩ | fail))) | ((with_reducible refine isI ?_ ?_); (kernel_rfl)) | fail)
  by_cases h18 : f = 18
  · subst h18
    repeat' (first | (with_reducible exact trivial) | simp (maxSteps := 2000000) (disch := omega) only [go_sem, seval] | ((with_reducible refine isS ?_); first | refine cS (hm) ?_ | fail) | ((with_reducible refine isE ?_); refine eA ?_; (repeat' (first | exact le_tq0 rfl | exact le_tq0r rfl | refine le_tqr rfl ?_ | refine le_tq rfl ?_ | exact trivial | refine le_int ?_ | refine le_bool ?_ | refine le_str ?_ | refine le_sl ?_ | refine le_own ?_ | refine le_osl ?_ | refine le_nsl ?_ | exact rfl | (rfl; done) | refine ⟨?_, ?_⟩ | fail))) | ((with_reducible refine isI ?_ ?_); (kernel_rfl)) | fail)
  · rw [decide_eq_false (by omega)]
    have e0 : ¬ (f : Int) = 0 := by omega
    have e17 : ¬ (f : Int) = 17 := by omega
    have e18 : ¬ (f : Int) = 18 := by omega
    repeat' (first | (with_reducible exact trivial) | simp (maxSteps := 2000000) (disch := omega) only [e0, e17, e18, go_sem, seval] | ((with_reducible refine isS ?_); first | refine cS (hm) ?_ | fail) | ((with_reducible refine isE ?_); refine eA ?_; (repeat' (first | exact le_tq0 rfl | exact le_tq0r rfl | refine le_tqr rfl ?_ | refine le_tq rfl ?_ | exact trivial | refine le_int ?_ | refine le_bool ?_ | refine le_str ?_ | refine le_sl ?_ | refine le_own ?_ | refine le_osl ?_ | refine le_nsl ?_ | exact rfl | (rfl; done) | refine ⟨?_, ?_⟩ | fail))) | ((with_reducible refine isI ?_ ?_); (kernel_rfl)) | fail)
theorem wrapU64 {n : Nat} (h : n < 18446744073709551616) : IntKind.wrap .u64 (n : Int) = n := by
  show (if (false && decide ((n : Int) % 18446744073709551616 ≥ 9223372036854775808)) = true then (n : Int) % 18446744073709551616 - 18446744073709551616 else (n : Int) % 18446744073709551616) = n
  simp only [Bool.false_and, Bool.false_eq_true, if_false]
  omega
theorem bin_m32 {n : Nat} (h : n < 4294967296) : binE .and (.p (.s (.int .u64 (n : Int)))) (.p (.s (.int .u64 4294967295))) = some (.int .u64 (n : Int)) := by
  simp only [binE, abin, ne_eq, not_true_eq_false, if_false, Option.map_some, Option.some.injEq, AV.p.injEq, PV.s.injEq, Value.int.injEq, true_and]
  have e1 : (BitVec.ofInt 64 (n : Int)).toNat = n := by
    rw [BitVec.toNat_ofInt]
    omega
  have e2 : (BitVec.ofInt 64 (n : Int) &&& BitVec.ofInt 64 4294967295).toNat = n := by
    rw [BitVec.toNat_and, e1]
    have : (BitVec.ofInt 64 4294967295).toNat = 2 ^ 32 - 1 := rfl
    rw [this, Nat.and_two_pow_sub_one_eq_mod]
    omega
  show IntKind.wrap .u64 ((BitVec.ofInt 64 (n : Int) &&& BitVec.ofInt 64 4294967295).toNat : Int) = n
  rw [e2]
  exact wrapU64 (by omega)
theorem bin_s32 {n : Nat} (h : n < 4294967296) : binE .shr (.p (.s (.int .u64 (n : Int)))) (.p (.s (.int .u64 32))) = some (.int .u64 0) := by
  simp only [binE, abin]
  rw [if_neg (by omega)]
  simp only [Option.map_some, Option.some.injEq, AV.p.injEq, PV.s.injEq, Value.int.injEq, true_and]
  show (n : Int).fdiv (2 ^ 32) = 0
  rw [Int.fdiv_eq_ediv_of_nonneg _ (by decide)]
  omega
theorem bin_mulU1 {n : Nat} (h : n < 4294967296) : binE .mul (.p (.s (.int .u64 1))) (.p (.s (.int .u64 (n : Int)))) = some (.int .u64 (n : Int)) := by
  rw [bin_mul, Int.one_mul, wrapU64 (by omega)]
theorem bin_mulU0 (n : Int) : binE .mul (.p (.s (.int .u64 0))) (.p (.s (.int .u64 n))) = some (.int .u64 0) := by
  rw [bin_mul, Int.zero_mul]; rfl
theorem gMul64 (n : Nat) (h : n < 4294967296) : Good Tryd.prog Γ 99 [.int .u64 1, .int .u64 n] [] (.ret (.tup [.int .u64 0, .int .u64 n])) [] := by
  have s1 : binE .shr (.p (.s (.int .u64 1))) (.p (.s (.int .u64 32))) = some (.int .u64 0) := bin_s32 (n := 1) (by decide)
  have s0 : binE .shr (.p (.s (.int .u64 0))) (.p (.s (.int .u64 32))) = some (.int .u64 0) := bin_s32 (n := 0) (by decide)
  have m1 : binE .and (.p (.s (.int .u64 1))) (.p (.s (.int .u64 4294967295))) = some (.int .u64 1) := bin_m32 (n := 1) (by decide)
  have m0 : binE .and (.p (.s (.int .u64 0))) (.p (.s (.int .u64 4294967295))) = some (.int .u64 0) := bin_m32 (n := 0) (by decide)
  have s2 := bin_s32 h
  have m2 := bin_m32 h
  have p1 := bin_mulU1 h
  have p2 : binE .mul (.p (.s (.int .u64 1))) (.p (.s (.int .u64 0))) = some (.int .u64 0) := bin_mulU1 (n := 0) (by decide)
  have p0 := bin_mulU0 n
  have p3 := bin_mulU0 0
  have wu0 : IntKind.wrap .u64 0 = 0 := rfl
  refine sh_start mixed F99 rfl ⟨(by first | exact rfl | (simp only [go_sem, seval]; done) | (simp only [go_sem, seval]; exact rfl)), (by first | exact rfl | (simp only [go_sem, seval]; done) | (simp only [go_sem, seval]; exact rfl)), (by first | exact rfl | (simp only [go_sem, seval]; done) | (simp only [go_sem, seval]; exact rfl)), (by first | exact rfl | (simp only [go_sem, seval]; done) | (simp only [go_sem, seval]; exact rfl)), (by first | exact rfl | (simp only [go_sem, seval]; done) | (simp only [go_sem, seval]; exact rfl))⟩ ?_
  repeat' (first | (with_reducible exact trivial) | simp (maxSteps := 2000000) (disch := omega) only [wu0, s1, s0, m1, m0, s2, m2, p1, p2, p0, p3, go_sem, seval] | ((with_reducible refine isE ?_); refine eA ?_; (repeat' (first | exact le_tq0 rfl | exact le_tq0r rfl | refine le_tqr rfl ?_ | refine le_tq rfl ?_ | exact trivial | refine le_int ?_ | refine le_bool ?_ | refine le_str ?_ | refine le_sl ?_ | refine le_own ?_ | refine le_osl ?_ | refine le_nsl ?_ | exact rfl | refine ⟨?_, ?_⟩ | fail))) | ((with_reducible refine isI ?_ ?_); (kernel_rfl)) | fail)
theorem toU64 {n : Nat} (h : n < 4294967296) : IntKind.wrap .u64 (n : Int) = n := wrapU64 (by omega)
theorem gMul (n : Nat) (h : n < 4294967296) : Good Tryd.prog Γ 92 [.int .u64 1, .int .u64 n] [] (.ret (.tup [.int .u64 0, .int .u64 n])) [] := by
  refine sh_start mixed F92 rfl ⟨(by first | exact rfl | (simp only [go_sem, seval]; done) | (simp only [go_sem, seval]; exact rfl)), (by first | exact rfl | (simp only [go_sem, seval]; done) | (simp only [go_sem, seval]; exact rfl)), (by first | exact rfl | (simp only [go_sem, seval]; done) | (simp only [go_sem, seval]; exact rfl)), (by first | exact rfl | (simp only [go_sem, seval]; done) | (simp only [go_sem, seval]; exact rfl)), (by first | exact rfl | (simp only [go_sem, seval]; done) | (simp only [go_sem, seval]; exact rfl))⟩ ?_
  repeat' (first | (with_reducible exact trivial) | simp (maxSteps := 2000000) (disch := omega) only [go_sem, seval] | ((with_reducible refine isS ?_); first | refine cS (gMul64 n h) ?_ | fail) | ((with_reducible refine isE ?_); refine eA ?_; (repeat' (first | exact le_tq0 rfl | exact le_tq0r rfl | refine le_tqr rfl ?_ | refine le_tq rfl ?_ | exact trivial | refine le_int ?_ | refine le_bool ?_ | refine le_str ?_ | refine le_sl ?_ | refine le_own ?_ | refine le_osl ?_ | refine le_nsl ?_ | exact rfl | refine ⟨?_, ?_⟩ | fail))) | ((with_reducible refine isI ?_ ?_); (kernel_rfl)) | fail)
/-- A row that is being filled with an octet. -/
def kjL (k : UInt8) (p n : Nat) : List AV := bq (List.replicate p k) ++ List.replicate (n - p) .junk
theorem kj_len (k : UInt8) {p n : Nat} (h : p ≤ n) : (kjL k p n).length = n := by
  unfold kjL
  rw [List.length_append, bq_len, List.length_replicate, List.length_replicate]
  omega
theorem kj_take (k : UInt8) {p n : Nat} (h : p ≤ n) : (kjL k p n).take p = bq (List.replicate p k) := by
  have := h
  have h1 : (bq (List.replicate p k)).length = p := by rw [bq_len, List.length_replicate]
  unfold kjL
  rw [List.take_append_of_le_length (by rw [h1]; omega), List.take_of_length_le (by rw [h1]; omega)]
theorem kj_copy (k : UInt8) {p n : Nat} (h : p ≤ n) : (kjL k p n).take p ++ (bq (List.replicate p k)).take (min p (n - p)) ++ (kjL k p n).drop (p + min p (n - p)) = kjL k (p + min p (n - p)) n := by
  have h1 : (bq (List.replicate p k)).length = p := by rw [bq_len, List.length_replicate]
  rw [kj_take k h]
  unfold kjL
  rw [List.drop_append, h1, List.drop_eq_nil_of_le (by rw [h1]; omega), List.nil_append, List.drop_replicate, bq_take, List.take_replicate]
  have h2 : bq (List.replicate p k) ++ bq (List.replicate (min (min p (n - p)) p) k) = bq (List.replicate (p + min p (n - p)) k) := by
    unfold bq
    rw [← List.map_append, List.replicate_append_replicate]
    congr 2
    omega
  rw [h2]
  congr 2
  omega
theorem kj_names (k : UInt8) (p n : Nat) : namesL (kjL k p n) = [] := by
  have h1 : ∀ m : Nat, namesL (List.replicate m .junk) = [] := fun m => by
    induction m with
    | zero => rfl
    | succ m ih => rw [List.replicate_succ, namesL, ih]; rfl
  have h2 : ∀ l : List UInt8, namesL (bq l) = [] := fun l => by
    induction l with
    | nil => rfl
    | cons x l ih => rw [bq, List.map_cons, namesL]; exact ih
  unfold kjL
  rw [names_app, h1, h2]; rfl
attribute [go_sem] kj_names
theorem le_kj (k : UInt8) (p n : Nat) {ρ : Nat → Nat} : LeAs (kjL k p n) (renL ρ (kjL k p n)) := by
  have h1 : ∀ m : Nat, LeAs (List.replicate m .junk) (renL ρ (List.replicate m .junk)) := fun m => by
    induction m with
    | zero => trivial
    | succ m ih => rw [List.replicate_succ, renL]; exact ⟨by rw [AV.ren, LeA]; trivial, ih⟩
  have h2 : ∀ l : List UInt8, LeAs (bq l ++ List.replicate (n - p) .junk) (renL ρ (bq l ++ List.replicate (n - p) .junk)) := fun l => by
    induction l with
    | nil => exact h1 _
    | cons x l ih =>
      rw [bq, List.map_cons, List.cons_append, renL]
      exact ⟨rfl, ih⟩
  exact h2 _
set_option maxHeartbeats 1000000 in
theorem gRepeat (k : UInt8) (n : Nat) (hn : n ≤ 8192) : Good Tryd.prog Γ 88 [.sl 1 (bys [k]), .int .i64 n] [] (.ret (.sl 1 (bys (List.replicate n k)))) [] := by
  by_cases h0 : n = 0
  · subst h0
    refine sh_start mixed F88 rfl ⟨(by first | exact rfl | (simp only [go_sem, seval]; done) | (simp only [go_sem, seval]; exact rfl)), (by first | exact rfl | (simp only [go_sem, seval]; done) | (simp only [go_sem, seval]; exact rfl)), (by first | exact rfl | (simp only [go_sem, seval]; done) | (simp only [go_sem, seval]; exact rfl)), (by first | exact rfl | (simp only [go_sem, seval]; done) | (simp only [go_sem, seval]; exact rfl)), (by first | exact rfl | (simp only [go_sem, seval]; done) | (simp only [go_sem, seval]; exact rfl))⟩ ?_
    repeat' (first | (with_reducible exact trivial) | simp (maxSteps := 2000000) (disch := omega) only [go_sem, seval] | ((with_reducible refine isE ?_); refine eA ?_; (repeat' (first | exact le_tq0 rfl | exact le_tq0r rfl | refine le_tqr rfl ?_ | refine le_tq rfl ?_ | exact trivial | refine le_int ?_ | refine le_bool ?_ | refine le_str ?_ | refine le_sl ?_ | refine le_own ?_ | refine le_osl ?_ | refine le_nsl ?_ | exact rfl | refine ⟨?_, ?_⟩ | fail))) | ((with_reducible refine isI ?_ ?_); (kernel_rfl)) | fail)
  · have hmul := gMul (Γ := Γ) n (by omega)
    have e1 : ((n : Nat) : Int).toNat = n := Int.toNat_natCast n
    have wu1 : IntKind.wrap .u64 1 = 1 := rfl
    refine sh_startG mixed F88 rfl ⟨(by first | exact rfl | (simp only [go_sem, seval]; done) | (simp only [go_sem, seval]; exact rfl)), (by first | exact rfl | (simp only [go_sem, seval]; done) | (simp only [go_sem, seval]; exact rfl)), (by first | exact rfl | (simp only [go_sem, seval]; done) | (simp only [go_sem, seval]; exact rfl)), (by first | exact rfl | (simp only [go_sem, seval]; done) | (simp only [go_sem, seval]; exact rfl)), (by first | exact rfl | (simp only [go_sem, seval]; done) | (simp only [go_sem, seval]; exact rfl))⟩ ?_
    have e2 : min 1 n = 1 := by omega
    obtain ⟨q, hq⟩ : ∃ q : Nat, q = 1 := ⟨1, rfl⟩
    have hb : bq [k] ++ List.drop 1 (List.replicate n AV.junk) = kjL k q n := by unfold kjL; rw [List.drop_replicate, hq]; rfl
    repeat' (first | (with_reducible exact trivial) | simp (maxSteps := 2000000) (disch := omega) only [bys_length, List.length_cons, List.length_nil, List.length_replicate, toU64 (show n < 4294967296 by omega), wu1, e1, e2, List.take_succ_cons, List.take_nil, hb, Nat.le_refl, true_and, go_sem, seval] | ((with_reducible refine isS ?_); first | refine cS (hmul) ?_ | fail) | ((with_reducible refine isT ?_); first | refine cT (hmul) ?_ | fail) | ((with_reducible refine isI ?_ ?_); (kernel_rfl)) | fail)
    refine sh_loopX mixed (fun p : Nat => ([(7, .int .i64 n), (8, .int .i64 n), (9, .bsl 0 0 1 n), (10, .int .i64 p)], [(0, .box (kjL k p n) false)])) (fun p => n - p) (fun p => 1 ≤ p ∧ p ≤ n) q ⟨by omega, by omega⟩ (wkAu (h1 := by (repeat' (first | exact le_tq0 rfl | exact le_tq0r rfl | refine le_tqr rfl ?_ | refine le_tq rfl ?_ | exact trivial | exact rfl | refine le_int ?_ | refine le_bool ?_ | refine le_str ?_ | refine le_sl ?_ | refine le_own ?_ | refine le_osl ?_ | refine le_nsl ?_ | refine ⟨_, rfl, ?_⟩ | refine ⟨?_, ?_⟩ | (first | exact le_kj _ _ _ | omega; done) | exact Option.some_ne_none _ | fail)); first | done | fail) (h2 := by (repeat' (first | exact le_tq0 rfl | exact le_tq0r rfl | refine le_tqr rfl ?_ | refine le_tq rfl ?_ | exact trivial | exact rfl | refine le_int ?_ | refine le_bool ?_ | refine le_str ?_ | refine le_sl ?_ | refine le_own ?_ | refine le_osl ?_ | refine le_nsl ?_ | refine ⟨_, rfl, ?_⟩ | refine ⟨?_, ?_⟩ | (first | exact le_kj _ _ _ | omega; done) | exact Option.some_ne_none _ | fail)); first | done | fail)) ?_
    rintro p ⟨hp1, hpn⟩
    by_cases hl : p < n
    · have e3 : min (p : Int) n = p := by omega
      have e4 : ((p : Nat) : Int).toNat = p := Int.toNat_natCast p
      have hlen := kj_len k hpn
      have hsrc := kj_take k hpn
      have hcp := kj_copy k hpn
      have e5 : p + (n - p) = n := by omega
      repeat' (first | (with_reducible exact trivial) | simp (maxSteps := 2000000) (disch := omega) only [e3, e4, e5, hlen, hsrc, Nat.sub_zero, Nat.zero_add, Nat.mul_one, List.drop_zero, bq_take, bq_one, Nat.le_refl, true_and, go_sem, seval] | ((with_reducible refine isI ?_ ?_); (kernel_rfl)) | fail)
      have hcp2 : bq (List.replicate p k) ++ (bq (List.take (min p (n - p)) (List.replicate p k)) ++ List.drop (p + min p (n - p)) (kjL k p n)) = kjL k (p + min p (n - p)) n := by
        rw [← hcp, hsrc, bq_take, List.append_assoc]
      exact ⟨p + min p (n - p), by omega, ⟨by omega, by omega⟩, (wkAu (h1 := by (repeat' (first | exact le_tq0 rfl | exact le_tq0r rfl | refine le_tqr rfl ?_ | refine le_tq rfl ?_ | exact trivial | exact rfl | refine le_int ?_ | refine le_bool ?_ | refine le_str ?_ | refine le_sl ?_ | refine le_own ?_ | refine le_osl ?_ | refine le_nsl ?_ | refine ⟨_, rfl, ?_⟩ | refine ⟨?_, ?_⟩ | (first | (rw [hcp2]; exact le_kj _ _ _) | omega; done) | exact Option.some_ne_none _ | fail)); first | done | fail) (h2 := by (repeat' (first | exact le_tq0 rfl | exact le_tq0r rfl | refine le_tqr rfl ?_ | refine le_tq rfl ?_ | exact trivial | exact rfl | refine le_int ?_ | refine le_bool ?_ | refine le_str ?_ | refine le_sl ?_ | refine le_own ?_ | refine le_osl ?_ | refine le_nsl ?_ | refine ⟨_, rfl, ?_⟩ | refine ⟨?_, ?_⟩ | (first | (rw [hcp2]; exact le_kj _ _ _) | omega; done) | exact Option.some_ne_none _ | fail)); first | done | fail))⟩
    · have : p = n := by omega
      subst this
      repeat' (first | (with_reducible exact trivial) | simp (maxSteps := 2000000) (disch := omega) only [go_sem, seval] | ((with_reducible refine isI ?_ ?_); (kernel_rfl)) | fail)
      refine finY_frz 4 0 0 1 p (kjL k p p) false (bys (List.replicate p k)) rfl rfl ?_ (by rw [bys_length, List.length_replicate]) (fun x hx => by
        obtain ⟨y, _, rfl⟩ := List.mem_map.1 hx
        rfl) ?_ (finY_S ?_)
      · rw [List.drop_zero, Nat.mul_one, kj_take k (Nat.le_refl _), bys_cells]
      · have h := bys_cells (List.replicate p k)
        rw [List.all_eq_true]
        intro x hx
        have : AV.p x ∈ bq (List.replicate p k) := by rw [← h]; exact List.mem_map_of_mem hx
        unfold bq at this
        obtain ⟨y, _, hy⟩ := List.mem_map.1 this
        cases hy
        rfl
      · repeat' (first | (with_reducible exact trivial) | simp (maxSteps := 2000000) (disch := omega) only [go_sem, seval] | ((with_reducible refine isE ?_); refine eA ?_; (repeat' (first | exact le_tq0 rfl | exact le_tq0r rfl | refine le_tqr rfl ?_ | refine le_tq rfl ?_ | exact trivial | refine le_int ?_ | refine le_bool ?_ | refine le_str ?_ | refine le_sl ?_ | refine le_own ?_ | refine le_osl ?_ | refine le_nsl ?_ | exact rfl | refine ⟨?_, ?_⟩ | fail))) | ((with_reducible refine isI ?_ ?_); (kernel_rfl)) | fail)
end Go.Proofs.YtmkblhinpnodaaaDoor
