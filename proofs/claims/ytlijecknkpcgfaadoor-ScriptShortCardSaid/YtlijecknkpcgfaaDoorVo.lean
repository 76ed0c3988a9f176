/- Layer 22: rows of steps: the same, cut short; the chapter's examples. Own work. -/
import Derived.Test.YtlijecknkpcgfaaDoorVn
import Derived.Test.YtlijecknkpcgfaaDoorSle
import Derived.Test.YtlijecknkpcgfaaDoorScb
namespace Go.Proofs.YtlijecknkpcgfaaDoor
open Go Go.Shade
variable {Γ : Globs}
theorem stwo_at {a b : List Stp} {i : Nat} (hi : i < a.length) (hb : i < b.length) : ∃ t u, (a.map sR).getD i [] = sR t ∧ (b.map sR).getD i [] = sR u ∧ (a.take i = b.take i → (t = u ↔ a.take (i + 1) = b.take (i + 1))) := by
  refine ⟨a[i], b[i], sR_getD hi, sR_getD hb, fun h => ?_⟩
  rw [List.take_succ_eq_append_getElem hi, List.take_succ_eq_append_getElem hb, h]
  exact ⟨fun e => by rw [e], fun e => (List.cons.inj (List.append_cancel_left e)).1⟩
set_option maxHeartbeats 4000000 in
theorem gEqFS (a b : List Stp) (ha : a.length ≤ 100000) : Go.Shade.Good Tryd.prog Γ 26 [.sl 50 (a.map sR), .sl 50 (b.map sR), .fn (.func 27) [] []] [] (.ret (.bool (decide (a = b)))) [] := by
  refine sh_start mixed F26 rfl ⟨(by first | exact rfl | (simp only [go_sem, seval]; done) | (simp only [go_sem, seval]; exact rfl)), (by first | exact rfl | (simp only [go_sem, seval]; done) | (simp only [go_sem, seval]; exact rfl)), (by first | exact rfl | (simp only [go_sem, seval]; done) | (simp only [go_sem, seval]; exact rfl)), (by first | exact rfl | (simp only [go_sem, seval]; done) | (simp only [go_sem, seval]; exact rfl)), (by first | exact rfl | (simp only [go_sem, seval]; done) | (simp only [go_sem, seval]; exact rfl))⟩ ?_
  by_cases hl : a.length = b.length
  · repeat' (first | (with_reducible exact trivial) | simp (maxSteps := 2000000) (disch := omega) only [List.length_map, hl, go_sem, seval] | ((with_reducible refine isI ?_ ?_); (kernel_rfl)) | fail)
    refine sh_loopX mixed (fun i : Nat => ([(1, .sl 50 (b.map sR)), (2, .fn (.func 27) [] []), (15, .sl 50 (a.map sR)), (16, .int .i64 b.length), (17, .int .i64 i)], [])) (fun i => a.length - i) (fun i => i ≤ a.length ∧ a.take i = b.take i) 0 (by simp) wkAu ?_
    rintro i ⟨hi, he⟩
    by_cases h : i < a.length
    · obtain ⟨t, u, h1, h2, h3⟩ := stwo_at h (by omega : i < b.length)
      have h3 := h3 he
      have hs := gSameS (Γ := Γ) t u
      by_cases htu : t = u
      · rw [decide_eq_true htu] at hs
        repeat' (first | (with_reducible exact trivial) | simp (maxSteps := 2000000) (disch := omega) only [List.length_map, h1, h2, sR_map, Int.toNat_natCast, go_sem, seval] | ((with_reducible refine isS ?_); first | refine cS (hs) ?_ | fail) | ((with_reducible refine isI ?_ ?_); (kernel_rfl)) | fail)
        exact ⟨i + 1, by omega, ⟨by omega, h3.1 htu⟩, wkAu⟩
      · have hne : a ≠ b := fun e => htu (h3.2 (by rw [e]))
        rw [decide_eq_false htu] at hs
        repeat' (first | (with_reducible exact trivial) | simp (maxSteps := 2000000) (disch := omega) only [List.length_map, h1, h2, sR_map, Int.toNat_natCast, go_sem, seval] | ((with_reducible refine isS ?_); first | refine cS (hs) ?_ | fail) | ((with_reducible refine isE ?_); refine eA ?_; (repeat' (first | exact le_mq0 rfl | exact le_mq0r rfl | exact le_jk50 (by simp only [List.length_cons, List.length_append, mq_len, List.length_nil]) | refine le_mqr ?_ | refine le_mq ?_ | exact trivial | refine le_int ?_ | refine le_bool ?_ | refine le_str ?_ | refine le_sl ?_ | refine le_own ?_ | refine le_osl ?_ | refine le_nsl ?_ | exact rfl | (exact (decide_eq_false hne).symm; done) | refine ⟨?_, ?_⟩ | fail))) | ((with_reducible refine isI ?_ ?_); (kernel_rfl)) | fail)
    · have e : a = b := by rw [← List.take_of_length_le (l := a) (i := i) (by omega), he, List.take_of_length_le (by omega)]
      repeat' (first | (with_reducible exact trivial) | simp (maxSteps := 2000000) (disch := omega) only [go_sem, seval] | ((with_reducible refine isE ?_); refine eA ?_; (repeat' (first | exact le_mq0 rfl | exact le_mq0r rfl | exact le_jk50 (by simp only [List.length_cons, List.length_append, mq_len, List.length_nil]) | refine le_mqr ?_ | refine le_mq ?_ | exact trivial | refine le_int ?_ | refine le_bool ?_ | refine le_str ?_ | refine le_sl ?_ | refine le_own ?_ | refine le_osl ?_ | refine le_nsl ?_ | exact rfl | (exact (decide_eq_true e).symm; done) | refine ⟨?_, ?_⟩ | fail))) | ((with_reducible refine isI ?_ ?_); (kernel_rfl)) | fail)
  · repeat' (first | (with_reducible exact trivial) | simp (maxSteps := 2000000) (disch := omega) only [List.length_map, Int.natCast_inj, hl, go_sem, seval] | ((with_reducible refine isE ?_); refine eA ?_; (repeat' (first | exact le_mq0 rfl | exact le_mq0r rfl | exact le_jk50 (by simp only [List.length_cons, List.length_append, mq_len, List.length_nil]) | refine le_mqr ?_ | refine le_mq ?_ | exact trivial | refine le_int ?_ | refine le_bool ?_ | refine le_str ?_ | refine le_sl ?_ | refine le_own ?_ | refine le_osl ?_ | refine le_nsl ?_ | exact rfl | (exact (decide_eq_false (fun e => hl (by rw [e]))).symm; done) | refine ⟨?_, ?_⟩ | fail))) | ((with_reducible refine isI ?_ ?_); (kernel_rfl)) | fail)
theorem gSameL (a b : List Stp) (ha : a.length ≤ 100000) : Go.Shade.Good Tryd.prog Γ 14 [.sl 50 (a.map sR), .sl 50 (b.map sR)] [] (.ret (.bool (decide (a = b)))) [] := by
  have h := gEqFS (Γ := Γ) a b ha
  refine sh_start mixed F14 rfl ⟨(by first | exact rfl | (simp only [go_sem, seval]; done) | (simp only [go_sem, seval]; exact rfl)), (by first | exact rfl | (simp only [go_sem, seval]; done) | (simp only [go_sem, seval]; exact rfl)), (by first | exact rfl | (simp only [go_sem, seval]; done) | (simp only [go_sem, seval]; exact rfl)), (by first | exact rfl | (simp only [go_sem, seval]; done) | (simp only [go_sem, seval]; exact rfl)), (by first | exact rfl | (simp only [go_sem, seval]; done) | (simp only [go_sem, seval]; exact rfl))⟩ ?_
  repeat' (first | (with_reducible exact trivial) | simp (maxSteps := 2000000) (disch := omega) only [go_sem, seval] | ((with_reducible refine isS ?_); first | refine cS (h) ?_ | fail) | ((with_reducible refine isE ?_); refine eA ?_; (repeat' (first | exact le_mq0 rfl | exact le_mq0r rfl | exact le_jk50 (by simp only [List.length_cons, List.length_append, mq_len, List.length_nil]) | refine le_mqr ?_ | refine le_mq ?_ | exact trivial | refine le_int ?_ | refine le_bool ?_ | refine le_str ?_ | refine le_sl ?_ | refine le_own ?_ | refine le_osl ?_ | refine le_nsl ?_ | exact rfl | refine ⟨?_, ?_⟩ | fail))) | ((with_reducible refine isI ?_ ?_); (kernel_rfl)) | fail)
theorem gFewV (b : List UInt8) : Go.Shade.Good Tryd.prog Γ 10 [.sl 1 (bys b)] [] (.ret (.sl 1 (bys (b.take 900)))) [] := by
  refine sh_start mixed F10 rfl ⟨(by first | exact rfl | (simp only [go_sem, seval]; done) | (simp only [go_sem, seval]; exact rfl)), (by first | exact rfl | (simp only [go_sem, seval]; done) | (simp only [go_sem, seval]; exact rfl)), (by first | exact rfl | (simp only [go_sem, seval]; done) | (simp only [go_sem, seval]; exact rfl)), (by first | exact rfl | (simp only [go_sem, seval]; done) | (simp only [go_sem, seval]; exact rfl)), (by first | exact rfl | (simp only [go_sem, seval]; done) | (simp only [go_sem, seval]; exact rfl))⟩ ?_
  by_cases h : 900 < b.length
  · repeat' (first | (with_reducible exact trivial) | simp (maxSteps := 2000000) (disch := omega) only [bys_length, bys_take, go_sem, seval] | ((with_reducible refine isE ?_); refine eA ?_; (repeat' (first | exact le_mq0 rfl | exact le_mq0r rfl | exact le_jk50 (by simp only [List.length_cons, List.length_append, mq_len, List.length_nil]) | refine le_mqr ?_ | refine le_mq ?_ | exact trivial | refine le_int ?_ | refine le_bool ?_ | refine le_str ?_ | refine le_sl ?_ | refine le_own ?_ | refine le_osl ?_ | refine le_nsl ?_ | exact rfl | refine ⟨?_, ?_⟩ | fail))) | ((with_reducible refine isI ?_ ?_); (kernel_rfl)) | fail)
  · repeat' (first | (with_reducible exact trivial) | simp (maxSteps := 2000000) (disch := omega) only [bys_length, go_sem, seval] | ((with_reducible refine isE ?_); refine eA ?_; (repeat' (first | exact le_mq0 rfl | exact le_mq0r rfl | exact le_jk50 (by simp only [List.length_cons, List.length_append, mq_len, List.length_nil]) | refine le_mqr ?_ | refine le_mq ?_ | exact trivial | refine le_int ?_ | refine le_bool ?_ | refine le_str ?_ | refine le_sl ?_ | refine le_own ?_ | refine le_osl ?_ | refine le_nsl ?_ | exact rfl | (rw [List.take_of_length_le (by omega)]; done) | refine ⟨?_, ?_⟩ | fail))) | ((with_reducible refine isI ?_ ?_); (kernel_rfl)) | fail)
def cut1 (s : Stp) : Stp := { s with b := s.b.take 300 }
def cutS (l : List Stp) : List Stp := (l.take 60).map cut1
set_option maxHeartbeats 4000000 in
theorem gRowV (l : List Stp) : Go.Shade.Good Tryd.prog Γ 9 [.sl 50 (l.map sR)] [] (.ret (.sl 50 ((cutS l).map sR))) [] := by
  refine sh_start mixed F9 rfl ⟨(by first | exact rfl | (simp only [go_sem, seval]; done) | (simp only [go_sem, seval]; exact rfl)), (by first | exact rfl | (simp only [go_sem, seval]; done) | (simp only [go_sem, seval]; exact rfl)), (by first | exact rfl | (simp only [go_sem, seval]; done) | (simp only [go_sem, seval]; exact rfl)), (by first | exact rfl | (simp only [go_sem, seval]; done) | (simp only [go_sem, seval]; exact rfl)), (by first | exact rfl | (simp only [go_sem, seval]; done) | (simp only [go_sem, seval]; exact rfl))⟩ ?_
  repeat' (first | (with_reducible exact trivial) | simp (maxSteps := 2000000) (disch := omega) only [go_sem, seval] | ((with_reducible refine isI ?_ ?_); (kernel_rfl)) | fail)
  refine sh_loopX mixed (fun i : Nat => ([(0, .sl 50 (l.map sR)), (3, .own 0 50 (((l.take i).map cut1).map sR)), (4, .int .i64 i)], [(0, .tok)])) (fun i => 60 - i) (fun i => i ≤ 60 ∧ i ≤ l.length) 0 (by simp)
    (weakG_nil 3 9 50 rfl rfl wkAu) ?_
  rintro i ⟨hi, hl⟩
  have ln : ((l.take i).map cut1).length ≤ 60 := by rw [List.length_map, List.length_take]; omega
  by_cases h : i < l.length ∧ i < 60
  · obtain ⟨h1, h2⟩ := h
    obtain ⟨s, _, htk, hg⟩ := selem_at h1
    by_cases h3 : 300 < s.b.length
    · repeat' (first | (with_reducible exact trivial) | simp (maxSteps := 2000000) (disch := omega) only [List.length_map, hg, sR_map, Int.toNat_natCast, bys_length, bys_take, go_sem, seval] | ((with_reducible refine isI ?_ ?_); (kernel_rfl)) | fail)
      exact ⟨i + 1, by omega, ⟨by omega, by omega⟩, (wkAu (h1 := by (repeat' (first | exact le_mq0 rfl | exact le_mq0r rfl | exact le_jk50 (by simp only [List.length_cons, List.length_append, mq_len, List.length_nil]) | refine le_mqr ?_ | refine le_mq ?_ | exact trivial | exact rfl | refine le_int ?_ | refine le_bool ?_ | refine le_str ?_ | refine le_sl ?_ | refine le_own ?_ | refine le_osl ?_ | refine le_nsl ?_ | refine ⟨_, rfl, ?_⟩ | refine ⟨?_, ?_⟩ | ((rw [htk]; simp [sR, cut1]); done) | exact Option.some_ne_none _ | fail)); first | done | fail) (h2 := by (repeat' (first | exact le_mq0 rfl | exact le_mq0r rfl | exact le_jk50 (by simp only [List.length_cons, List.length_append, mq_len, List.length_nil]) | refine le_mqr ?_ | refine le_mq ?_ | exact trivial | exact rfl | refine le_int ?_ | refine le_bool ?_ | refine le_str ?_ | refine le_sl ?_ | refine le_own ?_ | refine le_osl ?_ | refine le_nsl ?_ | refine ⟨_, rfl, ?_⟩ | refine ⟨?_, ?_⟩ | ((rw [htk]; simp [sR, cut1]); done) | exact Option.some_ne_none _ | fail)); first | done | fail))⟩
    · have ht : s.b.take 300 = s.b := List.take_of_length_le (by omega)
      repeat' (first | (with_reducible exact trivial) | simp (maxSteps := 2000000) (disch := omega) only [List.length_map, hg, sR_map, Int.toNat_natCast, bys_length, go_sem, seval] | ((with_reducible refine isI ?_ ?_); (kernel_rfl)) | fail)
      exact ⟨i + 1, by omega, ⟨by omega, by omega⟩, (wkAu (h1 := by (repeat' (first | exact le_mq0 rfl | exact le_mq0r rfl | exact le_jk50 (by simp only [List.length_cons, List.length_append, mq_len, List.length_nil]) | refine le_mqr ?_ | refine le_mq ?_ | exact trivial | exact rfl | refine le_int ?_ | refine le_bool ?_ | refine le_str ?_ | refine le_sl ?_ | refine le_own ?_ | refine le_osl ?_ | refine le_nsl ?_ | refine ⟨_, rfl, ?_⟩ | refine ⟨?_, ?_⟩ | ((rw [htk]; simp [sR, cut1, ht]); done) | exact Option.some_ne_none _ | fail)); first | done | fail) (h2 := by (repeat' (first | exact le_mq0 rfl | exact le_mq0r rfl | exact le_jk50 (by simp only [List.length_cons, List.length_append, mq_len, List.length_nil]) | refine le_mqr ?_ | refine le_mq ?_ | exact trivial | exact rfl | refine le_int ?_ | refine le_bool ?_ | refine le_str ?_ | refine le_sl ?_ | refine le_own ?_ | refine le_osl ?_ | refine le_nsl ?_ | refine ⟨_, rfl, ?_⟩ | refine ⟨?_, ?_⟩ | ((rw [htk]; simp [sR, cut1, ht]); done) | exact Option.some_ne_none _ | fail)); first | done | fail))⟩
  · have e : (l.take i).map cut1 = cutS l := by
      unfold cutS
      by_cases h1 : i < l.length
      · rw [show i = 60 by omega]
      · rw [List.take_of_length_le (by omega), List.take_of_length_le (by omega)]
    by_cases h1 : i < l.length
    · have h2 : ¬ i < 60 := fun h2 => h ⟨h1, h2⟩
      repeat' (first | (with_reducible exact trivial) | simp (maxSteps := 2000000) (disch := omega) only [List.length_map, e, go_sem, seval] | ((with_reducible refine isE ?_); refine eA ?_; (repeat' (first | exact le_mq0 rfl | exact le_mq0r rfl | exact le_jk50 (by simp only [List.length_cons, List.length_append, mq_len, List.length_nil]) | refine le_mqr ?_ | refine le_mq ?_ | exact trivial | refine le_int ?_ | refine le_bool ?_ | refine le_str ?_ | refine le_sl ?_ | refine le_own ?_ | refine le_osl ?_ | refine le_nsl ?_ | exact rfl | refine ⟨?_, ?_⟩ | fail))) | ((with_reducible refine isI ?_ ?_); (kernel_rfl)) | fail)
    · repeat' (first | (with_reducible exact trivial) | simp (maxSteps := 2000000) (disch := omega) only [List.length_map, e, go_sem, seval] | ((with_reducible refine isE ?_); refine eA ?_; (repeat' (first | exact le_mq0 rfl | exact le_mq0r rfl | exact le_jk50 (by simp only [List.length_cons, List.length_append, mq_len, List.length_nil]) | refine le_mqr ?_ | refine le_mq ?_ | exact trivial | refine le_int ?_ | refine le_bool ?_ | refine le_str ?_ | refine le_sl ?_ | refine le_own ?_ | refine le_osl ?_ | refine le_nsl ?_ | exact rfl | refine ⟨?_, ?_⟩ | fail))) | ((with_reducible refine isI ?_ ?_); (kernel_rfl)) | fail)
/-- A step as it is built: what octets it has not are nil. -/
def sN (s : Stp) : List PV := .s (.int .i64 s.kind) :: .s (.int .i64 s.who) :: .s (.int .i64 s.n) :: .s (.int .u8 s.k.toNat) :: .s (.bool s.him) :: .s (.bool s.on) ::
  (mqP s.m ++ [.s (.int .i64 s.t.f), .s (.int .i64 s.t.level), .s (.bool s.t.ack), .s (.bool s.t.inn), .s (.bool s.t.out), .s (.int .u8 s.t.v.toNat), PV.nil, .s (.float .f64 s.w0), .s (.float .f64 s.w1), .s (.float .f64 s.w2), .s (.float .f64 s.w3), .s (.int .u64 s.draw)])
theorem rowLe_ints : ∀ l : List UInt8, RowLe (l.map fun b => (.s (.int .u8 b.toNat) : PV)) (l.map fun b => .s (.int .u8 b.toNat))
  | [] => trivial
  | _ :: l => ⟨rfl, rowLe_ints l⟩
theorem sN_le {s : Stp} (h : s.b = []) : RowLe (sN s) (sR s) := by
  unfold sN sR
  rw [h]
  exact ⟨rfl, rfl, rfl, rfl, rfl, rfl, rowLe_app (rowLe_ints s.m.l) ⟨rfl, rfl, rfl, rfl, rfl, rfl, rfl, rfl, rfl, rfl, rfl, rfl, trivial⟩⟩
theorem sNs_le : ∀ {l : List Stp}, (∀ s ∈ l, s.b = []) → RowsLe (l.map sN) (l.map sR)
  | [], _ => trivial
  | s :: l, h => ⟨sN_le (h s (by simp)), sNs_le fun t ht => h t (by simp [ht])⟩
theorem gPutN (l : List Stp) (hl : l.length ≤ 10000) (hi : ∀ s ∈ l, inS s) (hb : ∀ s ∈ l, s.b = []) : Go.Shade.Good Tryd.prog Γ 11 [.sl 50 (l.map sN)] [] (.ret (resP l)) [] :=
  good_args (leL_cons (le_rows (sNs_le hb)) leL_nil) rfl (gPutS l hl fun s hs => ⟨hi s hs, by rw [hb s hs]; simp⟩)
theorem gSameN (a b : List Stp) (ha : a.length ≤ 100000) (hb : ∀ s ∈ b, s.b = []) : Go.Shade.Good Tryd.prog Γ 14 [.sl 50 (a.map sR), .sl 50 (b.map sN)] [] (.ret (.bool (decide (a = b)))) [] :=
  good_args (leL_cons (le_same _) (leL_cons (le_rows (sNs_le hb)) leL_nil)) rfl (gSameL a b ha)
end Go.Proofs.YtlijecknkpcgfaaDoor
