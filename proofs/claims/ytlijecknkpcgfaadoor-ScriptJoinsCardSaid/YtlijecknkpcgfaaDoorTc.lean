/- Layer 7: get, and whether two rows are the same. Own work. -/
import Derived.Test.YtlijecknkpcgfaaDoorTb
namespace Go.Proofs.YtlijecknkpcgfaaDoor
open Go Go.Shade
variable {Γ : Globs}
theorem getT_mod : ∀ {b : List UInt8} {l : List T3}, getT b = some l → b.length = 3 * l.length
  | [], l, h => by simp [getT] at h; subst h; rfl
  | [a], l, h => by simp [getT] at h
  | [a, m], l, h => by simp [getT] at h
  | a :: m :: v :: r, l, h => by
    rw [getT] at h
    split at h
    · obtain ⟨l', h1, rfl⟩ := Option.map_eq_some_iff.1 h
      have := getT_mod h1
      simp only [List.length_cons] at this ⊢
      omega
    · cases h
def trip (a m v : UInt8) : T3 := ⟨a.toNat, ((m &&& 3).toNat : Int), decide (¬ (m &&& 128 = 0)), decide (¬ (m &&& 64 = 0)), decide (¬ (m &&& 32 = 0)), v⟩
theorem getT_cons (a m v : UInt8) (r : List UInt8) : getT (a :: m :: v :: r) = if m &&& 28 = 0 then (getT r).map (trip a m v :: ·) else none := rfl
theorem three_of {r : List UInt8} (h : r.length % 3 = 0) (h0 : 0 < r.length) : ∃ a m v r', r = a :: m :: v :: r' := by
  match r, h, h0 with
  | a :: m :: v :: r', _, _ => exact ⟨a, m, v, r', rfl⟩
  | [_], h, _ => simp at h
  | [_, _], h, _ => simp at h
theorem o28 : u8 28 = 28 := by decide
theorem o3 : u8 3 = 3 := by decide
theorem o128 : u8 128 = 128 := by decide
theorem o64 : u8 64 = 64 := by decide
theorem o32 : u8 32 = 32 := by decide
set_option maxHeartbeats 4000000 in
theorem gGetOk (b : List UInt8) (l : List T3) (h : getT b = some l) (hb : b.length ≤ 100000) : Good Tryd.prog Γ 81 [.sl 1 (bys b)] [] (.ret (.tup [.sl 6 (l.map tP), .int .i64 0])) [] := by
  have hm := getT_mod h
  have hz : ((b.length : Int) % 3) = 0 := by omega
  refine sh_start mixed F81 rfl ⟨(by first | exact rfl | (simp only [go_sem, seval]; done) | (simp only [go_sem, seval]; exact rfl)), (by first | exact rfl | (simp only [go_sem, seval]; done) | (simp only [go_sem, seval]; exact rfl)), (by first | exact rfl | (simp only [go_sem, seval]; done) | (simp only [go_sem, seval]; exact rfl)), (by first | exact rfl | (simp only [go_sem, seval]; done) | (simp only [go_sem, seval]; exact rfl)), (by first | exact rfl | (simp only [go_sem, seval]; done) | (simp only [go_sem, seval]; exact rfl))⟩ ?_
  repeat' (first | (with_reducible exact trivial) | simp (maxSteps := 2000000) (disch := omega) only [bys_length, bin_rem, tmod_pos, hz, go_sem, seval] | ((with_reducible refine isI ?_ ?_); (kernel_rfl)) | fail)
  refine sh_loopX mixed (fun x : List UInt8 × List T3 => ([(0, .sl 1 (bys x.1)), (4, .own 0 6 (x.2.map tP))], [(0, .tok)])) (fun x => x.1.length) (fun x => getT b = (getT x.1).map (x.2 ++ ·) ∧ x.1.length % 3 = 0 ∧ x.2.length ≤ 100000 ∧ x.1.length + x.2.length ≤ b.length) (b, []) (by simp; omega)
    (weakG_nil 4 0 6 rfl rfl (sh_weakA (by first | exact rfl | (simp only [go_sem, seval]; exact rfl) | (simp only [go_sem, seval]; done)) (by (repeat' (first | exact trivial | exact rfl | refine le_int ?_ | refine le_bool ?_ | refine le_str ?_ | refine le_sl ?_ | refine le_own ?_ | refine le_osl ?_ | refine le_nsl ?_ | refine ⟨_, rfl, ?_⟩ | refine ⟨?_, ?_⟩ | fail)); first | done | fail) (by (repeat' (first | exact trivial | exact rfl | refine le_int ?_ | refine le_bool ?_ | refine le_str ?_ | refine le_sl ?_ | refine le_own ?_ | refine le_osl ?_ | refine le_nsl ?_ | refine ⟨_, rfl, ?_⟩ | refine ⟨?_, ?_⟩ | fail)); first | done | fail) rfl (by first | exact rfl | (simp only [go_sem, seval]; done) | (simp only [go_sem, seval]; exact rfl)) (by first | exact rfl | (simp only [go_sem, seval]; done) | (simp only [go_sem, seval]; exact rfl)) rfl (by first | exact rfl | (simp only [go_sem, seval]; done) | (simp only [go_sem, seval]; exact rfl)))) ?_
  rintro ⟨r, acc⟩ ⟨hg, hr, ha, hs⟩
  by_cases h0 : 0 < r.length
  · obtain ⟨a, m, v, r', rfl⟩ := three_of hr h0
    rw [getT_cons] at hg
    simp only [List.length_cons] at hr hs
    by_cases hmm : m &&& 28 = 0
    · rw [if_pos hmm] at hg
      repeat' (first | (with_reducible exact trivial) | simp (maxSteps := 2000000) (disch := omega) only [List.length_map, List.length_cons, bys_getD, bys_take, bys_drop, List.take_length, List.take_succ_cons, List.drop_succ_cons, wrap64_u, bin_and8, u8_to, bys_length, bys_get0, bys_gets, and0, bys_get0, bys_gets, o28, o3, o128, o64, o32, hmm, go_sem, seval] | ((with_reducible refine isI ?_ ?_); (kernel_rfl)) | fail)
      exact ⟨(r', acc ++ [trip a m v]), by simp only [List.length_cons]; omega, ⟨by rw [hg, Option.map_map]; congr 1; funext z; simp, by simp only; omega, by simp; omega, by simp; omega⟩, (sh_weakA (by first | exact rfl | (simp only [go_sem, seval]; exact rfl) | (simp only [go_sem, seval]; done)) (by (repeat' (first | exact trivial | exact rfl | refine le_int ?_ | refine le_bool ?_ | refine le_str ?_ | refine le_sl ?_ | refine le_own ?_ | refine le_osl ?_ | refine le_nsl ?_ | refine ⟨_, rfl, ?_⟩ | refine ⟨?_, ?_⟩ | ((simp [tP, trip]); done) | fail)); first | done | fail) (by (repeat' (first | exact trivial | exact rfl | refine le_int ?_ | refine le_bool ?_ | refine le_str ?_ | refine le_sl ?_ | refine le_own ?_ | refine le_osl ?_ | refine le_nsl ?_ | refine ⟨_, rfl, ?_⟩ | refine ⟨?_, ?_⟩ | ((simp [tP, trip]); done) | fail)); first | done | fail) rfl (by first | exact rfl | (simp only [go_sem, seval]; done) | (simp only [go_sem, seval]; exact rfl)) (by first | exact rfl | (simp only [go_sem, seval]; done) | (simp only [go_sem, seval]; exact rfl)) rfl (by first | exact rfl | (simp only [go_sem, seval]; done) | (simp only [go_sem, seval]; exact rfl)))⟩
    · rw [if_neg hmm] at hg
      rw [hg] at h
      cases h
  · have e : r = [] := List.eq_nil_of_length_eq_zero (by omega)
    subst e
    have e : acc = l := by rw [h] at hg; simpa [getT] using hg.symm
    subst e
    repeat' (first | (with_reducible exact trivial) | simp (maxSteps := 2000000) (disch := omega) only [List.length_nil, go_sem, seval] | ((with_reducible refine isE ?_); refine endA (by first | exact rfl | (simp only [go_sem, seval]; exact rfl) | (simp only [go_sem, seval]; done)) ?_ (by (repeat' (first | exact trivial | exact rfl | refine ⟨_, rfl, ?_⟩ | refine ⟨?_, ?_⟩ | fail)); first | done | fail) rfl rfl; (repeat' (first | exact trivial | refine le_int ?_ | refine le_bool ?_ | refine le_str ?_ | refine le_sl ?_ | refine le_own ?_ | refine le_osl ?_ | refine le_nsl ?_ | exact rfl | refine ⟨?_, ?_⟩ | fail))) | ((with_reducible refine isI ?_ ?_); (kernel_rfl)) | fail)
set_option maxHeartbeats 4000000 in
theorem gGetNo (b : List UInt8) (h : getT b = none) (hb : b.length ≤ 100000) : Good Tryd.prog Γ 81 [.sl 1 (bys b)] [] (.ret (.tup [.sl 6 [], .int .i64 2])) [] := by
  refine sh_start mixed F81 rfl ⟨(by first | exact rfl | (simp only [go_sem, seval]; done) | (simp only [go_sem, seval]; exact rfl)), (by first | exact rfl | (simp only [go_sem, seval]; done) | (simp only [go_sem, seval]; exact rfl)), (by first | exact rfl | (simp only [go_sem, seval]; done) | (simp only [go_sem, seval]; exact rfl)), (by first | exact rfl | (simp only [go_sem, seval]; done) | (simp only [go_sem, seval]; exact rfl)), (by first | exact rfl | (simp only [go_sem, seval]; done) | (simp only [go_sem, seval]; exact rfl))⟩ ?_
  by_cases hz : ((b.length : Int) % 3) = 0
  · repeat' (first | (with_reducible exact trivial) | simp (maxSteps := 2000000) (disch := omega) only [bys_length, bin_rem, tmod_pos, hz, go_sem, seval] | ((with_reducible refine isI ?_ ?_); (kernel_rfl)) | fail)
    refine sh_loopX mixed (fun x : List UInt8 × List T3 => ([(0, .sl 1 (bys x.1)), (4, .own 0 6 (x.2.map tP))], [(0, .tok)])) (fun x => x.1.length) (fun x => getT b = (getT x.1).map (x.2 ++ ·) ∧ x.1.length % 3 = 0 ∧ x.2.length ≤ 100000 ∧ x.1.length + x.2.length ≤ b.length) (b, []) (by simp; omega)
      (weakG_nil 4 0 6 rfl rfl (sh_weakA (by first | exact rfl | (simp only [go_sem, seval]; exact rfl) | (simp only [go_sem, seval]; done)) (by (repeat' (first | exact trivial | exact rfl | refine le_int ?_ | refine le_bool ?_ | refine le_str ?_ | refine le_sl ?_ | refine le_own ?_ | refine le_osl ?_ | refine le_nsl ?_ | refine ⟨_, rfl, ?_⟩ | refine ⟨?_, ?_⟩ | fail)); first | done | fail) (by (repeat' (first | exact trivial | exact rfl | refine le_int ?_ | refine le_bool ?_ | refine le_str ?_ | refine le_sl ?_ | refine le_own ?_ | refine le_osl ?_ | refine le_nsl ?_ | refine ⟨_, rfl, ?_⟩ | refine ⟨?_, ?_⟩ | fail)); first | done | fail) rfl (by first | exact rfl | (simp only [go_sem, seval]; done) | (simp only [go_sem, seval]; exact rfl)) (by first | exact rfl | (simp only [go_sem, seval]; done) | (simp only [go_sem, seval]; exact rfl)) rfl (by first | exact rfl | (simp only [go_sem, seval]; done) | (simp only [go_sem, seval]; exact rfl)))) ?_
    rintro ⟨r, acc⟩ ⟨hg, hr, ha, hs⟩
    by_cases h0 : 0 < r.length
    · obtain ⟨a, m, v, r', rfl⟩ := three_of hr h0
      rw [getT_cons] at hg
      simp only [List.length_cons] at hr hs
      by_cases hmm : m &&& 28 = 0
      · rw [if_pos hmm] at hg
        repeat' (first | (with_reducible exact trivial) | simp (maxSteps := 2000000) (disch := omega) only [List.length_map, List.length_cons, bys_getD, bys_take, bys_drop, List.take_length, List.take_succ_cons, List.drop_succ_cons, wrap64_u, bin_and8, u8_to, bys_length, bys_get0, bys_gets, and0, bys_get0, bys_gets, o28, o3, o128, o64, o32, hmm, go_sem, seval] | ((with_reducible refine isI ?_ ?_); (kernel_rfl)) | fail)
        exact ⟨(r', acc ++ [trip a m v]), by simp only [List.length_cons]; omega, ⟨by rw [hg, Option.map_map]; congr 1; funext z; simp, by simp only; omega, by simp; omega, by simp; omega⟩, (sh_weakA (by first | exact rfl | (simp only [go_sem, seval]; exact rfl) | (simp only [go_sem, seval]; done)) (by (repeat' (first | exact trivial | exact rfl | refine le_int ?_ | refine le_bool ?_ | refine le_str ?_ | refine le_sl ?_ | refine le_own ?_ | refine le_osl ?_ | refine le_nsl ?_ | refine ⟨_, rfl, ?_⟩ | refine ⟨?_, ?_⟩ | ((simp [tP, trip]); done) | fail)); first | done | fail) (by (repeat' (first | exact trivial | exact rfl | refine le_int ?_ | refine le_bool ?_ | refine le_str ?_ | refine le_sl ?_ | refine le_own ?_ | refine le_osl ?_ | refine le_nsl ?_ | refine ⟨_, rfl, ?_⟩ | refine ⟨?_, ?_⟩ | ((simp [tP, trip]); done) | fail)); first | done | fail) rfl (by first | exact rfl | (simp only [go_sem, seval]; done) | (simp only [go_sem, seval]; exact rfl)) (by first | exact rfl | (simp only [go_sem, seval]; done) | (simp only [go_sem, seval]; exact rfl)) rfl (by first | exact rfl | (simp only [go_sem, seval]; done) | (simp only [go_sem, seval]; exact rfl)))⟩
      · repeat' (first | (with_reducible exact trivial) | simp (maxSteps := 2000000) (disch := omega) only [List.length_cons, bin_and8, u8_to, bys_length, bys_get0, bys_gets, and0, bys_get0, bys_gets, o28, hmm, go_sem, seval] | ((with_reducible refine isE ?_); refine endA (by first | exact rfl | (simp only [go_sem, seval]; exact rfl) | (simp only [go_sem, seval]; done)) ?_ (by (repeat' (first | exact trivial | exact rfl | refine ⟨_, rfl, ?_⟩ | refine ⟨?_, ?_⟩ | fail)); first | done | fail) rfl rfl; (repeat' (first | exact trivial | refine le_int ?_ | refine le_bool ?_ | refine le_str ?_ | refine le_sl ?_ | refine le_own ?_ | refine le_osl ?_ | refine le_nsl ?_ | exact rfl | refine ⟨?_, ?_⟩ | fail))) | ((with_reducible refine isI ?_ ?_); (kernel_rfl)) | fail)
    · have e : r = [] := List.eq_nil_of_length_eq_zero (by omega)
      subst e
      rw [h] at hg
      simp [getT] at hg
  · repeat' (first | (with_reducible exact trivial) | simp (maxSteps := 2000000) (disch := omega) only [bys_length, bin_rem, tmod_pos, hz, go_sem, seval] | ((with_reducible refine isE ?_); refine endA (by first | exact rfl | (simp only [go_sem, seval]; exact rfl) | (simp only [go_sem, seval]; done)) ?_ (by (repeat' (first | exact trivial | exact rfl | refine ⟨_, rfl, ?_⟩ | refine ⟨?_, ?_⟩ | fail)); first | done | fail) rfl rfl; (repeat' (first | exact trivial | refine le_int ?_ | refine le_bool ?_ | refine le_str ?_ | refine le_sl ?_ | refine le_own ?_ | refine le_osl ?_ | refine le_nsl ?_ | exact rfl | refine ⟨?_, ?_⟩ | fail))) | ((with_reducible refine isI ?_ ?_); (kernel_rfl)) | fail)
end Go.Proofs.YtlijecknkpcgfaaDoor
