/- Layer 7: the document's own get, whether two rows are the same, signals. Own work. -/
import Derived.Test.YtaopaggmhleeoaaTd
namespace Go.Proofs.Ytaopaggmhleeoaa
open Go Go.Shade
variable {Γ : Globs}
theorem getT_app : ∀ (a b : List UInt8) {l : List T3}, getT a = some l → getT (a ++ b) = (getT b).map (l ++ ·)
  | [], b, l, h => by
    simp [getT] at h; subst h; simp
  | [_], b, l, h => by simp [getT] at h
  | [_, _], b, l, h => by simp [getT] at h
  | x :: m :: v :: r, b, l, h => by
    rw [getT_cons] at h
    split at h
    · rename_i hm
      obtain ⟨l', h1, rfl⟩ := Option.map_eq_some_iff.1 h
      rw [List.cons_append, List.cons_append, List.cons_append, getT_cons, if_pos hm, getT_app r b h1, Option.map_map]
      rfl
    · cases h
theorem two_at {a b : List T3} {i : Nat} (hi : i < a.length) (hb : i < b.length) : ∃ t u, (a.map tP).getD i [] = tP t ∧ (b.map tP).getD i [] = tP u ∧ (a.take i = b.take i → (t = u ↔ a.take (i + 1) = b.take (i + 1))) := by
  refine ⟨a[i], b[i], ?_, ?_, fun h => ?_⟩
  · rw [tP_getD hi, List.getD_eq_getElem?_getD, List.getElem?_eq_getElem hi]; rfl
  · rw [tP_getD hb, List.getD_eq_getElem?_getD, List.getElem?_eq_getElem hb]; rfl
  · rw [List.take_succ_eq_append_getElem hi, List.take_succ_eq_append_getElem hb, h]
    exact ⟨fun e => by rw [e], fun e => (List.cons.inj (List.append_cancel_left e)).1⟩
set_option maxHeartbeats 4000000 in
theorem gSame (a b : List T3) (ha : a.length ≤ 1000000) (hb : b.length ≤ 1000000) : Good Try.prog Γ 8 [.sl 6 (a.map tP), .sl 6 (b.map tP)] [] (.ret (.bool (decide (a = b)))) [] := by
  refine sh_start mixed F8 rfl ⟨(by first | exact rfl | (simp only [go_sem, seval]; done) | (simp only [go_sem, seval]; exact rfl)), (by first | exact rfl | (simp only [go_sem, seval]; done) | (simp only [go_sem, seval]; exact rfl)), (by first | exact rfl | (simp only [go_sem, seval]; done) | (simp only [go_sem, seval]; exact rfl)), (by first | exact rfl | (simp only [go_sem, seval]; done) | (simp only [go_sem, seval]; exact rfl)), (by first | exact rfl | (simp only [go_sem, seval]; done) | (simp only [go_sem, seval]; exact rfl))⟩ ?_
  by_cases hl : a.length = b.length
  · repeat' (first | (with_reducible exact trivial) | simp (maxSteps := 2000000) (disch := omega) only [List.length_map, hl, go_sem, seval] | ((with_reducible refine isI ?_ ?_); (kernel_rfl)) | fail)
    refine sh_loopX mixed (fun i : Nat => ([(0, .sl 6 (a.map tP)), (1, .sl 6 (b.map tP)), (5, .int .i64 i)], [])) (fun i => a.length - i) (fun i => i ≤ a.length ∧ a.take i = b.take i) 0 (by simp) (weakG_go (weakE_of [] ⟨rfl, rfl, rfl, trivial⟩ trivial rfl rfl rfl rfl rfl)) ?_
    rintro i ⟨hi, he⟩
    by_cases h : i < a.length
    · obtain ⟨t, u, h1, h2, h3⟩ := two_at h (by omega : i < b.length)
      have h3 := h3 he
      by_cases htu : t = u
      · repeat' (first | (with_reducible exact trivial) | simp (maxSteps := 2000000) (disch := omega) only [List.length_map, Int.toNat_natCast, h1, h2, tP, eq_tt, htu, decide_true, go_sem, seval] | ((with_reducible refine isI ?_ ?_); (kernel_rfl)) | fail)
        exact ⟨i + 1, by omega, ⟨by omega, h3.1 htu⟩, (sh_weakA (by first | exact rfl | (simp only [go_sem, seval]; exact rfl) | (simp only [go_sem, seval]; done)) (by (repeat' (first | exact trivial | exact rfl | refine le_int ?_ | refine le_bool ?_ | refine le_str ?_ | refine le_sl ?_ | refine le_own ?_ | refine le_osl ?_ | refine le_nsl ?_ | refine ⟨_, rfl, ?_⟩ | refine ⟨?_, ?_⟩ | fail)); first | done | fail) (by (repeat' (first | exact trivial | exact rfl | refine le_int ?_ | refine le_bool ?_ | refine le_str ?_ | refine le_sl ?_ | refine le_own ?_ | refine le_osl ?_ | refine le_nsl ?_ | refine ⟨_, rfl, ?_⟩ | refine ⟨?_, ?_⟩ | fail)); first | done | fail) rfl (by first | exact rfl | (simp only [go_sem, seval]; done) | (simp only [go_sem, seval]; exact rfl)) (by first | exact rfl | (simp only [go_sem, seval]; done) | (simp only [go_sem, seval]; exact rfl)) rfl (by first | exact rfl | (simp only [go_sem, seval]; done) | (simp only [go_sem, seval]; exact rfl)))⟩
      · have hne : a ≠ b := fun e => htu (h3.2 (by rw [e]))
        repeat' (first | (with_reducible exact trivial) | simp (maxSteps := 2000000) (disch := omega) only [List.length_map, Int.toNat_natCast, h1, h2, tP, eq_tt, htu, decide_false, go_sem, seval] | ((with_reducible refine isE ?_); refine endA (by first | exact rfl | (simp only [go_sem, seval]; exact rfl) | (simp only [go_sem, seval]; done)) ?_ (by (repeat' (first | exact trivial | exact rfl | refine ⟨_, rfl, ?_⟩ | refine ⟨?_, ?_⟩ | fail)); first | done | fail) rfl rfl; (repeat' (first | exact trivial | refine le_int ?_ | refine le_bool ?_ | refine le_str ?_ | refine le_sl ?_ | refine le_own ?_ | refine le_osl ?_ | refine le_nsl ?_ | exact rfl | (exact (decide_eq_false hne).symm; done) | refine ⟨?_, ?_⟩ | fail))) | ((with_reducible refine isI ?_ ?_); (kernel_rfl)) | fail)
    · have e : a = b := by rw [← List.take_of_length_le (l := a) (i := i) (by omega), he, List.take_of_length_le (by omega)]
      repeat' (first | (with_reducible exact trivial) | simp (maxSteps := 2000000) (disch := omega) only [List.length_map, go_sem, seval] | ((with_reducible refine isE ?_); refine endA (by first | exact rfl | (simp only [go_sem, seval]; exact rfl) | (simp only [go_sem, seval]; done)) ?_ (by (repeat' (first | exact trivial | exact rfl | refine ⟨_, rfl, ?_⟩ | refine ⟨?_, ?_⟩ | fail)); first | done | fail) rfl rfl; (repeat' (first | exact trivial | refine le_int ?_ | refine le_bool ?_ | refine le_str ?_ | refine le_sl ?_ | refine le_own ?_ | refine le_osl ?_ | refine le_nsl ?_ | exact rfl | (exact (decide_eq_true e).symm; done) | refine ⟨?_, ?_⟩ | fail))) | ((with_reducible refine isI ?_ ?_); (kernel_rfl)) | fail)
  · repeat' (first | (with_reducible exact trivial) | simp (maxSteps := 2000000) (disch := omega) only [List.length_map, Int.natCast_inj, hl, go_sem, seval] | ((with_reducible refine isE ?_); refine endA (by first | exact rfl | (simp only [go_sem, seval]; exact rfl) | (simp only [go_sem, seval]; done)) ?_ (by (repeat' (first | exact trivial | exact rfl | refine ⟨_, rfl, ?_⟩ | refine ⟨?_, ?_⟩ | fail)); first | done | fail) rfl rfl; (repeat' (first | exact trivial | refine le_int ?_ | refine le_bool ?_ | refine le_str ?_ | refine le_sl ?_ | refine le_own ?_ | refine le_osl ?_ | refine le_nsl ?_ | exact rfl | (exact (decide_eq_false (fun e => hl (by rw [e]))).symm; done) | refine ⟨?_, ?_⟩ | fail))) | ((with_reducible refine isI ?_ ?_); (kernel_rfl)) | fail)
end Go.Proofs.Ytaopaggmhleeoaa
