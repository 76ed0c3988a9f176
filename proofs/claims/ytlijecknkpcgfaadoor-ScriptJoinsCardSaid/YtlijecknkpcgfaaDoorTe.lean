/- Layer 7: the document's own get, whether two rows are the same, signals. Own work. -/
import Derived.Test.YtlijecknkpcgfaaDoorTd
namespace Go.Proofs.YtlijecknkpcgfaaDoor
open Go Go.Shade
variable {Γ : Globs}
theorem getT_app : ∀ (a b : List UInt8) {l : List T3}, getT a = some l → getT (a ++ b) = (getT b).map (l ++ ·)
  | [], b, l, h => by
    simp [getT] at h; subst h; simp
  | [_], b, l, h => by simp [getT] at h
  | [_, _], b, l, h => by simp [getT] at h
  | x :: m :: v :: r, b, l, h => by
    rw [getT_cons] at h
    split at h
    · rename_i hm
      obtain ⟨l', h1, rfl⟩ := Option.map_eq_some_iff.1 h
      rw [List.cons_append, List.cons_append, List.cons_append, getT_cons, if_pos hm, getT_app r b h1, Option.map_map]
      rfl
    · cases h
set_option maxHeartbeats 8000000 in
theorem gRGetOk (b : List UInt8) (l : List T3) (h : getT b = some l) (hb : b.length ≤ 100000) : Good Tryd.prog Γ 60 [.sl 1 (bys b)] [] (.ret (.tup [.sl 6 (l.map tP), .bool true])) [] := by
  have hlen := getT_mod h
  refine sh_start mixed F60 rfl ⟨(by first | exact rfl | (simp only [go_sem, seval]; done) | (simp only [go_sem, seval]; exact rfl)), (by first | exact rfl | (simp only [go_sem, seval]; done) | (simp only [go_sem, seval]; exact rfl)), (by first | exact rfl | (simp only [go_sem, seval]; done) | (simp only [go_sem, seval]; exact rfl)), (by first | exact rfl | (simp only [go_sem, seval]; done) | (simp only [go_sem, seval]; exact rfl)), (by first | exact rfl | (simp only [go_sem, seval]; done) | (simp only [go_sem, seval]; exact rfl))⟩ ?_
  repeat' (first | (with_reducible exact trivial) | simp (maxSteps := 2000000) (disch := omega) only [go_sem, seval] | ((with_reducible refine isI ?_ ?_); (kernel_rfl)) | fail)
  refine sh_loopX mixed (fun x : Nat × List T3 => ([(0, .sl 1 (bys b)), (4, .own 0 6 (x.2.map tP)), (5, .int .i64 (x.1 : Nat))], [(0, .tok)])) (fun x => b.length - x.1) (fun x => getT b = (getT (b.drop x.1)).map (x.2 ++ ·) ∧ x.1 = 3 * x.2.length ∧ x.1 ≤ b.length) (0, []) (by simp)
    (weakG_nil 4 0 6 rfl rfl (sh_weakA (by first | exact rfl | (simp only [go_sem, seval]; exact rfl) | (simp only [go_sem, seval]; done)) (by (repeat' (first | exact trivial | exact rfl | refine le_int ?_ | refine le_bool ?_ | refine le_str ?_ | refine le_sl ?_ | refine le_own ?_ | refine le_osl ?_ | refine le_nsl ?_ | refine ⟨_, rfl, ?_⟩ | refine ⟨?_, ?_⟩ | fail)); first | done | fail) (by (repeat' (first | exact trivial | exact rfl | refine le_int ?_ | refine le_bool ?_ | refine le_str ?_ | refine le_sl ?_ | refine le_own ?_ | refine le_osl ?_ | refine le_nsl ?_ | refine ⟨_, rfl, ?_⟩ | refine ⟨?_, ?_⟩ | fail)); first | done | fail) rfl (by first | exact rfl | (simp only [go_sem, seval]; done) | (simp only [go_sem, seval]; exact rfl)) (by first | exact rfl | (simp only [go_sem, seval]; done) | (simp only [go_sem, seval]; exact rfl)) rfl (by first | exact rfl | (simp only [go_sem, seval]; done) | (simp only [go_sem, seval]; exact rfl)))) ?_
  rintro ⟨i, acc⟩ ⟨hg, ha, hs⟩
  simp only at hg ha hs
  by_cases h0 : i < b.length
  · obtain ⟨a, m, v, r', hr⟩ := three_of (r := b.drop i) (by rw [List.length_drop]; omega) (by rw [List.length_drop]; omega)
    have hl : (b.drop i).length = r'.length + 3 := by rw [hr]; rfl
    rw [List.length_drop] at hl
    have g0 : (bys b).getD i [] = [.s (.int .u8 a.toNat)] := by rw [bys_getD h0, List.getD_eq_getElem?_getD, ← Nat.add_zero i, ← List.getElem?_drop, hr]; rfl
    have g1 : (bys b).getD (i + 1) [] = [.s (.int .u8 m.toNat)] := by rw [bys_getD (by omega), List.getD_eq_getElem?_getD, ← List.getElem?_drop, hr]; rfl
    have g2 : (bys b).getD (i + 2) [] = [.s (.int .u8 v.toNat)] := by rw [bys_getD (by omega), List.getD_eq_getElem?_getD, ← List.getElem?_drop, hr]; rfl
    have hr' : b.drop (i + 3) = r' := by rw [← List.drop_drop, hr]; rfl
    rw [hr, getT_cons] at hg
    obtain ⟨b1, b2, b3, b4, b5⟩ := bits m
    have hmn := u8_lt m
    have t1 : ((i : Int) + 1).toNat = i + 1 := by omega
    have t2 : ((i : Int) + 2).toNat = i + 2 := by omega
    by_cases hmm : m &&& 28 = 0
    · rw [if_pos hmm] at hg
      repeat' (first | (with_reducible exact trivial) | simp (maxSteps := 2000000) (disch := omega) only [List.length_map, wrap64_u, bys_length, Int.toNat_natCast, g0, g1, g2, t1, t2, bin_rem, bin_quo, tmod_pos, tdiv_pos, b1, b2, b3, b4, b5, hmm, go_sem, seval] | ((with_reducible refine isI ?_ ?_); (kernel_rfl)) | fail)
      exact ⟨(i + 3, acc ++ [trip a m v]), by simp only; omega, ⟨by simp only; rw [hg, hr', Option.map_map]; congr 1; funext z; simp, by simp; omega, by simp only; omega⟩, (sh_weakA (by first | exact rfl | (simp only [go_sem, seval]; exact rfl) | (simp only [go_sem, seval]; done)) (by (repeat' (first | exact trivial | exact rfl | refine le_int ?_ | refine le_bool ?_ | refine le_str ?_ | refine le_sl ?_ | refine le_own ?_ | refine le_osl ?_ | refine le_nsl ?_ | refine ⟨_, rfl, ?_⟩ | refine ⟨?_, ?_⟩ | ((simp [tP, trip]); done) | fail)); first | done | fail) (by (repeat' (first | exact trivial | exact rfl | refine le_int ?_ | refine le_bool ?_ | refine le_str ?_ | refine le_sl ?_ | refine le_own ?_ | refine le_osl ?_ | refine le_nsl ?_ | refine ⟨_, rfl, ?_⟩ | refine ⟨?_, ?_⟩ | ((simp [tP, trip]); done) | fail)); first | done | fail) rfl (by first | exact rfl | (simp only [go_sem, seval]; done) | (simp only [go_sem, seval]; exact rfl)) (by first | exact rfl | (simp only [go_sem, seval]; done) | (simp only [go_sem, seval]; exact rfl)) rfl (by first | exact rfl | (simp only [go_sem, seval]; done) | (simp only [go_sem, seval]; exact rfl)))⟩
    · rw [if_neg hmm] at hg
      rw [hg] at h
      cases h
  · have e : b.drop i = [] := List.drop_eq_nil_of_le (by omega)
    rw [e] at hg
    have e : acc = l := by rw [h] at hg; simpa [getT] using hg.symm
    subst e
    repeat' (first | (with_reducible exact trivial) | simp (maxSteps := 2000000) (disch := omega) only [bys_length, go_sem, seval] | ((with_reducible refine isE ?_); refine endA (by first | exact rfl | (simp only [go_sem, seval]; exact rfl) | (simp only [go_sem, seval]; done)) ?_ (by (repeat' (first | exact trivial | exact rfl | refine ⟨_, rfl, ?_⟩ | refine ⟨?_, ?_⟩ | fail)); first | done | fail) rfl rfl; (repeat' (first | exact trivial | refine le_int ?_ | refine le_bool ?_ | refine le_str ?_ | refine le_sl ?_ | refine le_own ?_ | refine le_osl ?_ | refine le_nsl ?_ | exact rfl | refine ⟨?_, ?_⟩ | fail))) | ((with_reducible refine isI ?_ ?_); (kernel_rfl)) | fail)
set_option maxHeartbeats 8000000 in
theorem gRGetNo (b : List UInt8) (h : getT b = none) (hb : b.length ≤ 100000) : Good Tryd.prog Γ 60 [.sl 1 (bys b)] [] (.ret (.tup [.sl 6 [], .bool false])) [] := by
  refine sh_start mixed F60 rfl ⟨(by first | exact rfl | (simp only [go_sem, seval]; done) | (simp only [go_sem, seval]; exact rfl)), (by first | exact rfl | (simp only [go_sem, seval]; done) | (simp only [go_sem, seval]; exact rfl)), (by first | exact rfl | (simp only [go_sem, seval]; done) | (simp only [go_sem, seval]; exact rfl)), (by first | exact rfl | (simp only [go_sem, seval]; done) | (simp only [go_sem, seval]; exact rfl)), (by first | exact rfl | (simp only [go_sem, seval]; done) | (simp only [go_sem, seval]; exact rfl))⟩ ?_
  repeat' (first | (with_reducible exact trivial) | simp (maxSteps := 2000000) (disch := omega) only [go_sem, seval] | ((with_reducible refine isI ?_ ?_); (kernel_rfl)) | fail)
  refine sh_loopX mixed (fun x : Nat × List T3 => ([(0, .sl 1 (bys b)), (4, .own 0 6 (x.2.map tP)), (5, .int .i64 (x.1 : Nat))], [(0, .tok)])) (fun x => b.length - x.1) (fun x => getT b = (getT (b.drop x.1)).map (x.2 ++ ·) ∧ x.1 = 3 * x.2.length ∧ x.1 ≤ b.length) (0, []) (by simp)
    (weakG_nil 4 0 6 rfl rfl (sh_weakA (by first | exact rfl | (simp only [go_sem, seval]; exact rfl) | (simp only [go_sem, seval]; done)) (by (repeat' (first | exact trivial | exact rfl | refine le_int ?_ | refine le_bool ?_ | refine le_str ?_ | refine le_sl ?_ | refine le_own ?_ | refine le_osl ?_ | refine le_nsl ?_ | refine ⟨_, rfl, ?_⟩ | refine ⟨?_, ?_⟩ | fail)); first | done | fail) (by (repeat' (first | exact trivial | exact rfl | refine le_int ?_ | refine le_bool ?_ | refine le_str ?_ | refine le_sl ?_ | refine le_own ?_ | refine le_osl ?_ | refine le_nsl ?_ | refine ⟨_, rfl, ?_⟩ | refine ⟨?_, ?_⟩ | fail)); first | done | fail) rfl (by first | exact rfl | (simp only [go_sem, seval]; done) | (simp only [go_sem, seval]; exact rfl)) (by first | exact rfl | (simp only [go_sem, seval]; done) | (simp only [go_sem, seval]; exact rfl)) rfl (by first | exact rfl | (simp only [go_sem, seval]; done) | (simp only [go_sem, seval]; exact rfl)))) ?_
  rintro ⟨i, acc⟩ ⟨hg, ha, hs⟩
  simp only at hg ha hs
  by_cases h0 : i < b.length
  · by_cases h3 : i + 3 ≤ b.length
    · obtain ⟨a, m, v, r', hr⟩ : ∃ a m v r', b.drop i = a :: m :: v :: r' := by
        have : 3 ≤ (b.drop i).length := by rw [List.length_drop]; omega
        match hd : b.drop i, this with
        | a :: m :: v :: r', _ => exact ⟨a, m, v, r', rfl⟩
      have g0 : (bys b).getD i [] = [.s (.int .u8 a.toNat)] := by rw [bys_getD h0, List.getD_eq_getElem?_getD, ← Nat.add_zero i, ← List.getElem?_drop, hr]; rfl
      have g1 : (bys b).getD (i + 1) [] = [.s (.int .u8 m.toNat)] := by rw [bys_getD (by omega), List.getD_eq_getElem?_getD, ← List.getElem?_drop, hr]; rfl
      have g2 : (bys b).getD (i + 2) [] = [.s (.int .u8 v.toNat)] := by rw [bys_getD (by omega), List.getD_eq_getElem?_getD, ← List.getElem?_drop, hr]; rfl
      have hr' : b.drop (i + 3) = r' := by rw [← List.drop_drop, hr]; rfl
      rw [hr, getT_cons] at hg
      obtain ⟨b1, b2, b3, b4, b5⟩ := bits m
      have hmn := u8_lt m
      have t1 : ((i : Int) + 1).toNat = i + 1 := by omega
      have t2 : ((i : Int) + 2).toNat = i + 2 := by omega
      by_cases hmm : m &&& 28 = 0
      · rw [if_pos hmm] at hg
        repeat' (first | (with_reducible exact trivial) | simp (maxSteps := 2000000) (disch := omega) only [List.length_map, wrap64_u, bys_length, Int.toNat_natCast, g0, g1, g2, t1, t2, bin_rem, bin_quo, tmod_pos, tdiv_pos, b1, b2, b3, b4, b5, hmm, go_sem, seval] | ((with_reducible refine isI ?_ ?_); (kernel_rfl)) | fail)
        exact ⟨(i + 3, acc ++ [trip a m v]), by simp only; omega, ⟨by simp only; rw [hg, hr', Option.map_map]; congr 1; funext z; simp, by simp; omega, by simp only; omega⟩, (sh_weakA (by first | exact rfl | (simp only [go_sem, seval]; exact rfl) | (simp only [go_sem, seval]; done)) (by (repeat' (first | exact trivial | exact rfl | refine le_int ?_ | refine le_bool ?_ | refine le_str ?_ | refine le_sl ?_ | refine le_own ?_ | refine le_osl ?_ | refine le_nsl ?_ | refine ⟨_, rfl, ?_⟩ | refine ⟨?_, ?_⟩ | ((simp [tP, trip]); done) | fail)); first | done | fail) (by (repeat' (first | exact trivial | exact rfl | refine le_int ?_ | refine le_bool ?_ | refine le_str ?_ | refine le_sl ?_ | refine le_own ?_ | refine le_osl ?_ | refine le_nsl ?_ | refine ⟨_, rfl, ?_⟩ | refine ⟨?_, ?_⟩ | ((simp [tP, trip]); done) | fail)); first | done | fail) rfl (by first | exact rfl | (simp only [go_sem, seval]; done) | (simp only [go_sem, seval]; exact rfl)) (by first | exact rfl | (simp only [go_sem, seval]; done) | (simp only [go_sem, seval]; exact rfl)) rfl (by first | exact rfl | (simp only [go_sem, seval]; done) | (simp only [go_sem, seval]; exact rfl)))⟩
      · repeat' (first | (with_reducible exact trivial) | simp (maxSteps := 2000000) (disch := omega) only [wrap64_u, bys_length, g1, t1, bin_rem, bin_quo, tmod_pos, tdiv_pos, b1, hmm, go_sem, seval] | ((with_reducible refine isE ?_); refine endA (by first | exact rfl | (simp only [go_sem, seval]; exact rfl) | (simp only [go_sem, seval]; done)) ?_ (by (repeat' (first | exact trivial | exact rfl | refine ⟨_, rfl, ?_⟩ | refine ⟨?_, ?_⟩ | fail)); first | done | fail) rfl rfl; (repeat' (first | exact trivial | refine le_int ?_ | refine le_bool ?_ | refine le_str ?_ | refine le_sl ?_ | refine le_own ?_ | refine le_osl ?_ | refine le_nsl ?_ | exact rfl | refine ⟨?_, ?_⟩ | fail))) | ((with_reducible refine isI ?_ ?_); (kernel_rfl)) | fail)
    · repeat' (first | (with_reducible exact trivial) | simp (maxSteps := 2000000) (disch := omega) only [bys_length, go_sem, seval] | ((with_reducible refine isE ?_); refine endA (by first | exact rfl | (simp only [go_sem, seval]; exact rfl) | (simp only [go_sem, seval]; done)) ?_ (by (repeat' (first | exact trivial | exact rfl | refine ⟨_, rfl, ?_⟩ | refine ⟨?_, ?_⟩ | fail)); first | done | fail) rfl rfl; (repeat' (first | exact trivial | refine le_int ?_ | refine le_bool ?_ | refine le_str ?_ | refine le_sl ?_ | refine le_own ?_ | refine le_osl ?_ | refine le_nsl ?_ | exact rfl | refine ⟨?_, ?_⟩ | fail))) | ((with_reducible refine isI ?_ ?_); (kernel_rfl)) | fail)
  · have e : b.drop i = [] := List.drop_eq_nil_of_le (by omega)
    rw [e, h] at hg
    simp [getT] at hg
theorem two_at {a b : List T3} {i : Nat} (hi : i < a.length) (hb : i < b.length) : ∃ t u, (a.map tP).getD i [] = tP t ∧ (b.map tP).getD i [] = tP u ∧ (a.take i = b.take i → (t = u ↔ a.take (i + 1) = b.take (i + 1))) := by
  refine ⟨a[i], b[i], ?_, ?_, fun h => ?_⟩
  · rw [tP_getD hi, List.getD_eq_getElem?_getD, List.getElem?_eq_getElem hi]; rfl
  · rw [tP_getD hb, List.getD_eq_getElem?_getD, List.getElem?_eq_getElem hb]; rfl
  · rw [List.take_succ_eq_append_getElem hi, List.take_succ_eq_append_getElem hb, h]
    exact ⟨fun e => by rw [e], fun e => (List.cons.inj (List.append_cancel_left e)).1⟩
end Go.Proofs.YtlijecknkpcgfaaDoor
