/- Layer 20: the document's weights, read. Own work. -/
import Derived.Test.YtlijecknkpcgfaaDoorXb
import Derived.Test.YtlijecknkpcgfaaDoorScb
namespace Go.Proofs.YtlijecknkpcgfaaDoor
open Go Go.Shade
variable {Γ : Globs}
theorem num8_back {b : List UInt8} {i m : Nat} (h : i + 8 ≤ b.length) (hm : m < 8) : num8 ((b.drop (i + 7 - m)).take (m + 1)) = (b.getD (i + 7 - m) 0).toNat + 256 * num8 ((b.drop (i + 8 - m)).take m) := by
  have hl : i + 7 - m < b.length := by omega
  rw [List.drop_eq_getElem_cons hl, List.take_succ_cons, num8, List.getD_eq_getElem?_getD, List.getElem?_eq_getElem hl, show i + 7 - m + 1 = i + 8 - m by omega]
  rfl
theorem W4_step (b : List UInt8) {k : Nat} (h : k < 4) : (W4 b).take (k + 1) = (W4 b).take k ++ [wAt b (8 * k)] := by
  match k, h with
  | 0, _ => rfl
  | 1, _ => rfl
  | 2, _ => rfl
  | 3, _ => rfl
theorem flt_app (a b : List Nat) : flt (a ++ b) = flt a ++ flt b := by simp [flt]
set_option maxHeartbeats 8000000 in
theorem gRRead (b : List UInt8) (hb : b.length = 32) : Go.Shade.Good Tryd.prog Γ 36 [.sl 1 (bys b)] [] (.ret (.tup [.sl 1 (flt (W4 b)), .bool true])) [] := by
  refine sh_start mixed F36 rfl ⟨(by first | exact rfl | (simp only [go_sem, seval]; done) | (simp only [go_sem, seval]; exact rfl)), (by first | exact rfl | (simp only [go_sem, seval]; done) | (simp only [go_sem, seval]; exact rfl)), (by first | exact rfl | (simp only [go_sem, seval]; done) | (simp only [go_sem, seval]; exact rfl)), (by first | exact rfl | (simp only [go_sem, seval]; done) | (simp only [go_sem, seval]; exact rfl)), (by first | exact rfl | (simp only [go_sem, seval]; done) | (simp only [go_sem, seval]; exact rfl))⟩ ?_
  have hbl : (bys b).length = 32 := by rw [bys_length, hb]
  have hrem : binE .rem (.int .i64 32) (.p (.s (.int .i64 8))) = some (.int .i64 0) := rfl
  repeat' (first | (with_reducible exact trivial) | simp (maxSteps := 2000000) (disch := omega) only [hbl, hrem, go_sem, seval] | ((with_reducible refine isI ?_ ?_); (kernel_rfl)) | fail)
  refine sh_loopX mixed (fun k : Nat => ([(0, .sl 1 (bys b)), (4, .own 0 1 (flt ((W4 b).take k))), (5, .int .i64 ((8 * k : Nat) : Int))], [(0, .tok)])) (fun k => 4 - k) (fun k => k ≤ 4) 0 (by omega)
    (weakG_nil 4 9 1 rfl rfl wkAu) ?_
  intro k hk
  have hfl : (flt ((W4 b).take k)).length ≤ 4 := by rw [flt_len, List.length_take]; omega
  by_cases h4 : k < 4
  · repeat' (first | (with_reducible exact trivial) | simp (maxSteps := 2000000) (disch := omega) only [hbl, go_sem, seval] | ((with_reducible refine isI ?_ ?_); (kernel_rfl)) | fail)
    refine sh_loopX mixed (fun m : Nat => ([(0, .sl 1 (bys b)), (4, .own 0 1 (flt ((W4 b).take k))), (5, .int .i64 ((8 * k : Nat) : Int)), (6, .int .u64 ((num8 ((b.drop (8 * k + 8 - m)).take m) : Nat) : Int)), (7, .int .i64 (7 - (m : Int)))], [(0, .tok)])) (fun m => 8 - m) (fun m => m ≤ 8) 0 (by omega)
      (wkAu (h1 := by (repeat' (first | exact le_mq0 rfl | exact le_mq0r rfl | exact le_jk50 (by simp only [List.length_cons, List.length_append, mq_len, List.length_nil]) | refine le_mqr ?_ | refine le_mq ?_ | exact trivial | exact rfl | refine le_int ?_ | refine le_bool ?_ | refine le_str ?_ | refine le_sl ?_ | refine le_own ?_ | refine le_osl ?_ | refine le_nsl ?_ | refine ⟨_, rfl, ?_⟩ | refine ⟨?_, ?_⟩ | (simp [num8]; done) | exact Option.some_ne_none _ | fail)); first | done | fail) (h2 := by (repeat' (first | exact le_mq0 rfl | exact le_mq0r rfl | exact le_jk50 (by simp only [List.length_cons, List.length_append, mq_len, List.length_nil]) | refine le_mqr ?_ | refine le_mq ?_ | exact trivial | exact rfl | refine le_int ?_ | refine le_bool ?_ | refine le_str ?_ | refine le_sl ?_ | refine le_own ?_ | refine le_osl ?_ | refine le_nsl ?_ | refine ⟨_, rfl, ?_⟩ | refine ⟨?_, ?_⟩ | (simp [num8]; done) | exact Option.some_ne_none _ | fail)); first | done | fail)) ?_
    intro m hm
    by_cases h8 : m < 8
    · have hst := num8_back (b := b) (i := 8 * k) (m := m) (by omega) h8
      have hlt := num8_lt ((b.drop (8 * k + 8 - m)).take m)
      have hll : ((b.drop (8 * k + 8 - m)).take m).length = m := by rw [List.length_take, List.length_drop]; omega
      rw [hll] at hlt
      have hp : 256 * 256 ^ m ≤ (18446744073709551616 : Nat) := by
        have : ∀ m : Nat, m < 8 → 256 * 256 ^ m ≤ (18446744073709551616 : Nat) := by decide
        exact this m h8
      have hix : ((8 * k : Nat) : Int) + (7 - (m : Int)) = ((8 * k + 7 - m : Nat) : Int) := by omega
      have hg := bys_getD (B := b) (i := 8 * k + 7 - m) (by omega)
      have hc := (b.getD (8 * k + 7 - m) 0).toNat_lt
      have hw1 : IntKind.u64.wrap (256 * ((num8 ((b.drop (8 * k + 8 - m)).take m) : Nat) : Int)) = 256 * ((num8 ((b.drop (8 * k + 8 - m)).take m) : Nat) : Int) := Go.Proofs.u64_in (by omega) (by omega)
      have hw2 : IntKind.u64.wrap (256 * ((num8 ((b.drop (8 * k + 8 - m)).take m) : Nat) : Int) + ((b.getD (8 * k + 7 - m) 0).toNat : Int)) = 256 * ((num8 ((b.drop (8 * k + 8 - m)).take m) : Nat) : Int) + ((b.getD (8 * k + 7 - m) 0).toNat : Int) := Go.Proofs.u64_in (by omega) (by omega)
      repeat' (first | (with_reducible exact trivial) | simp (maxSteps := 2000000) (disch := omega) only [hbl, hix, Int.toNat_natCast, hg, wrap64u, hw1, hw2, go_sem, seval] | ((with_reducible refine isI ?_ ?_); (kernel_rfl)) | fail)
      exact ⟨m + 1, by omega, by omega, (wkAu (h1 := by (repeat' (first | exact le_mq0 rfl | exact le_mq0r rfl | exact le_jk50 (by simp only [List.length_cons, List.length_append, mq_len, List.length_nil]) | refine le_mqr ?_ | refine le_mq ?_ | exact trivial | exact rfl | refine le_int ?_ | refine le_bool ?_ | refine le_str ?_ | refine le_sl ?_ | refine le_own ?_ | refine le_osl ?_ | refine le_nsl ?_ | refine ⟨_, rfl, ?_⟩ | refine ⟨?_, ?_⟩ | (first | (rw [show 8 * k + 8 - (m + 1) = 8 * k + 7 - m by omega, hst]; omega) | omega; done) | exact Option.some_ne_none _ | fail)); first | done | fail) (h2 := by (repeat' (first | exact le_mq0 rfl | exact le_mq0r rfl | exact le_jk50 (by simp only [List.length_cons, List.length_append, mq_len, List.length_nil]) | refine le_mqr ?_ | refine le_mq ?_ | exact trivial | exact rfl | refine le_int ?_ | refine le_bool ?_ | refine le_str ?_ | refine le_sl ?_ | refine le_own ?_ | refine le_osl ?_ | refine le_nsl ?_ | refine ⟨_, rfl, ?_⟩ | refine ⟨?_, ?_⟩ | (first | (rw [show 8 * k + 8 - (m + 1) = 8 * k + 7 - m by omega, hst]; omega) | omega; done) | exact Option.some_ne_none _ | fail)); first | done | fail))⟩
    · obtain rfl : m = 8 := by omega
      have hwk : num8 ((b.drop (8 * k + 8 - 8)).take 8) = wAt b (8 * k) := by rw [show 8 * k + 8 - 8 = 8 * k by omega]; rfl
      rw [hwk]
      repeat' (first | (with_reducible exact trivial) | simp (maxSteps := 2000000) (disch := omega) only [flt_len, go_sem, seval] | ((with_reducible refine isI ?_ ?_); (kernel_rfl)) | fail)
      exact ⟨k + 1, by omega, by omega, (wkAu (h1 := by (repeat' (first | exact le_mq0 rfl | exact le_mq0r rfl | exact le_jk50 (by simp only [List.length_cons, List.length_append, mq_len, List.length_nil]) | refine le_mqr ?_ | refine le_mq ?_ | exact trivial | exact rfl | refine le_int ?_ | refine le_bool ?_ | refine le_str ?_ | refine le_sl ?_ | refine le_own ?_ | refine le_osl ?_ | refine le_nsl ?_ | refine ⟨_, rfl, ?_⟩ | refine ⟨?_, ?_⟩ | (first | omega | (rw [W4_step b h4, flt_app]; rfl); done) | exact Option.some_ne_none _ | fail)); first | done | fail) (h2 := by (repeat' (first | exact le_mq0 rfl | exact le_mq0r rfl | exact le_jk50 (by simp only [List.length_cons, List.length_append, mq_len, List.length_nil]) | refine le_mqr ?_ | refine le_mq ?_ | exact trivial | exact rfl | refine le_int ?_ | refine le_bool ?_ | refine le_str ?_ | refine le_sl ?_ | refine le_own ?_ | refine le_osl ?_ | refine le_nsl ?_ | refine ⟨_, rfl, ?_⟩ | refine ⟨?_, ?_⟩ | (first | omega | (rw [W4_step b h4, flt_app]; rfl); done) | exact Option.some_ne_none _ | fail)); first | done | fail))⟩
  · obtain rfl : k = 4 := by omega
    repeat' (first | (with_reducible exact trivial) | simp (maxSteps := 2000000) (disch := omega) only [hbl, go_sem, seval] | ((with_reducible refine isE ?_); refine eA ?_; (repeat' (first | exact le_mq0 rfl | exact le_mq0r rfl | exact le_jk50 (by simp only [List.length_cons, List.length_append, mq_len, List.length_nil]) | refine le_mqr ?_ | refine le_mq ?_ | exact trivial | refine le_int ?_ | refine le_bool ?_ | refine le_str ?_ | refine le_sl ?_ | refine le_own ?_ | refine le_osl ?_ | refine le_nsl ?_ | exact rfl | refine ⟨?_, ?_⟩ | fail))) | ((with_reducible refine isI ?_ ?_); (kernel_rfl)) | fail)
end Go.Proofs.YtlijecknkpcgfaaDoor
