/- Layer 22: the law ScriptWeights. Own work. -/
import Derived.Test.YtlijecknkpcgfaaDoorVp
import Derived.Test.YtlijecknkpcgfaaDoorScb
import Derived.Test.YtlijecknkpcgfaaDoorCodl
namespace Go.Proofs.YtlijecknkpcgfaaDoor
open Go Go.Shade
variable {Γ : Globs}
def s7 (n : UInt8) (w0 w1 w2 w3 d : Nat) : Stp := { zS 7 with n := n.toNat, w0 := w0, w1 := w1, w2 := w2, w3 := w3, draw := d }
attribute [go_sem] s7
theorem s7_may (n : UInt8) (w0 w1 w2 w3 d : Nat) : mayV (s7 n w0 w1 w2 w3 d) ↔ cn w0 = w0 ∧ cn w1 = w1 ∧ cn w2 = w2 ∧ cn w3 = w3 := by
  have hn := n.toNat_lt
  constructor
  · rintro ⟨_, (hk | hk) | ⟨hk, _⟩ | ⟨hk, _⟩ | ⟨hk, _⟩ | ⟨hk, _⟩ | ⟨hk, _⟩ | ⟨_, _, h⟩⟩
    all_goals first | exact h | (simp [s7, zS] at hk)
  · intro h
    exact ⟨rfl, .inr (.inr (.inr (.inr (.inr (.inr ⟨rfl, ⟨by simp only [s7]; omega, by simp only [s7]; omega⟩, h⟩)))))⟩
theorem s7_in {n : UInt8} {w0 w1 w2 w3 d : Nat} (h0 : w0 < 18446744073709551616) (h1 : w1 < 18446744073709551616) (h2 : w2 < 18446744073709551616) (h3 : w3 < 18446744073709551616) (h4 : d < 18446744073709551616) : inS (s7 n w0 w1 w2 w3 d) := ⟨h0, h1, h2, h3, h4⟩
theorem wOct4 (a b c d : Nat) : wOct [a, b, c, d] = o8 (cn a) ++ (o8 (cn b) ++ (o8 (cn c) ++ o8 (cn d))) := by simp [wOct]
theorem wOct4_len (a b c d : Nat) : (wOct [a, b, c, d]).length = 32 := by rw [wOct_len]; rfl
theorem fl4_oct {a b c d : Nat} (h0 : a < 18446744073709551616) (h1 : b < 18446744073709551616) (h2 : c < 18446744073709551616) (h3 : d < 18446744073709551616) : fl4 (wOct [a, b, c, d]) = flt [cn a, cn b, cn c, cn d] := by
  have h := fl4_eq (wOct [a, b, c, d])
  rw [List.take_of_length_le (by rw [wOct4_len]; omega)] at h
  have a0 := wAt_o8 (i := 0) (cn_lt h0) [] (o8 (cn b) ++ (o8 (cn c) ++ (o8 (cn d) ++ []))) rfl
  have a1 := wAt_o8 (i := 8) (cn_lt h1) (o8 (cn a)) (o8 (cn c) ++ (o8 (cn d) ++ [])) rfl
  have a2 := wAt_o8 (i := 16) (cn_lt h2) (o8 (cn a) ++ o8 (cn b)) (o8 (cn d) ++ []) rfl
  have a3 := wAt_o8 (i := 24) (cn_lt h3) (o8 (cn a) ++ (o8 (cn b) ++ o8 (cn c))) [] rfl
  simp only [List.append_assoc, List.nil_append, List.append_nil] at a0 a1 a2 a3
  rw [h, W4, wOct4, a0, a1, a2, a3]
theorem s7_put (n : UInt8) (w0 w1 w2 w3 d : Nat) : putS [s7 n w0 w1 w2 w3 d] = 7 :: n :: (wOct [w0, w1, w2, w3] ++ o8 d) := by
  rw [putS_cons, show putS [] = [] from rfl, List.append_nil, wOct4]
  show u8 (7 : Nat) :: u8 (n.toNat : Int) :: _ = _
  rw [u8_to]
  rfl
theorem wOct_cn (a b c d : Nat) : wOct [cn a, cn b, cn c, cn d] = wOct [a, b, c, d] := by rw [wOct4, wOct4, cn_cn, cn_cn, cn_cn, cn_cn]
/-- The weights, so many of them turned. -/
def mix7 (n : UInt8) (w0 w1 w2 w3 d : Nat) : Nat → Stp
  | 0 => s7 n w0 w1 w2 w3 d
  | 1 => s7 n (cn w0) w1 w2 w3 d
  | 2 => s7 n (cn w0) (cn w1) w2 w3 d
  | 3 => s7 n (cn w0) (cn w1) (cn w2) w3 d
  | _ => s7 n (cn w0) (cn w1) (cn w2) (cn w3) d
set_option maxHeartbeats 8000000 in
theorem gLWeights (n : UInt8) {w0 w1 w2 w3 d : Nat} (h0 : w0 < 18446744073709551616) (h1 : w1 < 18446744073709551616) (h2 : w2 < 18446744073709551616) (h3 : w3 < 18446744073709551616) (h4 : d < 18446744073709551616) :
    Go.Shade.Good Tryd.prog Γ 6 [.agg [fA w0, fA w1, fA w2, fA w3], .int .u64 d, .int .u8 n.toNat] [] (.ret (.bool true)) [] := by
  have ha := gAwakeV (Γ := Γ)
  have hl := gWLay (Γ := Γ) [w0, w1, w2, w3] (by simp)
  have hr := gWRead (Γ := Γ) (wOct [w0, w1, w2, w3]) (wOct4_len _ _ _ _)
  rw [fl4_oct h0 h1 h2 h3] at hr
  have mS := s7_may n w0 w1 w2 w3 d
  have mT := (s7_may n (cn w0) (cn w1) (cn w2) (cn w3) d).2 ⟨cn_cn _, cn_cn _, cn_cn _, cn_cn _⟩
  have iS := s7_in (n := n) h0 h1 h2 h3 h4
  have iT := s7_in (n := n) (cn_lt h0) (cn_lt h1) (cn_lt h2) (cn_lt h3) h4
  have pS := gPutS (Γ := Γ) [s7 n w0 w1 w2 w3 d] (by simp) (fun s hs => by rw [List.mem_singleton.1 hs]; exact ⟨iS, by simp [s7, zS]⟩)
  have pT := gPutS (Γ := Γ) [s7 n (cn w0) (cn w1) (cn w2) (cn w3) d] (by simp) (fun s hs => by rw [List.mem_singleton.1 hs]; exact ⟨iT, by simp [s7, zS]⟩)
  rw [resP_ok (fun s hs => by rw [List.mem_singleton.1 hs]; exact mT) (by simp), s7_put, wOct_cn] at pT
  have sm := gSameL (Γ := Γ) [s7 n w0 w1 w2 w3 d] [s7 n (cn w0) (cn w1) (cn w2) (cn w3) d] (by simp)
  have hX := wOct4_len w0 w1 w2 w3
  obtain ⟨X, eX⟩ : ∃ X, wOct [w0, w1, w2, w3] = X := ⟨_, rfl⟩
  rw [eX] at hl hr pT hX
  have hf1 : (flt [cn w0, cn w1, cn w2, cn w3]).length = 4 := rfl
  have e0 : (flt [cn w0, cn w1, cn w2, cn w3]).getD 0 [] = [.s (.float .f64 (cn w0))] := rfl
  have e1 : (flt [cn w0, cn w1, cn w2, cn w3]).getD 1 [] = [.s (.float .f64 (cn w1))] := rfl
  have e2 : (flt [cn w0, cn w1, cn w2, cn w3]).getD 2 [] = [.s (.float .f64 (cn w2))] := rfl
  have e3 : (flt [cn w0, cn w1, cn w2, cn w3]).getD 3 [] = [.s (.float .f64 (cn w3))] := rfl
  refine sh_start mixed F6 rfl ⟨(by first | exact rfl | (simp only [go_sem, seval]; done) | (simp only [go_sem, seval]; exact rfl)), (by first | exact rfl | (simp only [go_sem, seval]; done) | (simp only [go_sem, seval]; exact rfl)), (by first | exact rfl | (simp only [go_sem, seval]; done) | (simp only [go_sem, seval]; exact rfl)), (by first | exact rfl | (simp only [go_sem, seval]; done) | (simp only [go_sem, seval]; exact rfl)), (by first | exact rfl | (simp only [go_sem, seval]; done) | (simp only [go_sem, seval]; exact rfl))⟩ ?_
  repeat' (first | (with_reducible exact trivial) | simp (maxSteps := 2000000) (disch := omega) only [hf1, wrap64_u, go_sem, seval] | ((with_reducible refine isS ?_); first | refine cS (hl) ?_ | refine cS (hr) ?_ | fail) | ((with_reducible refine isI ?_ ?_); (kernel_rfl)) | fail)
  refine sh_loopX mixed (fun i : Nat => ([(7, .ptr 0 0), (8, .sl 1 (bys X)), (9, .sl 1 (flt [cn w0, cn w1, cn w2, cn w3])), (11, .ptr 1 0), (12, .int .i64 i)], [(0, .box (sC (s7 n w0 w1 w2 w3 d)) false), (1, .box (sC (mix7 n w0 w1 w2 w3 d i)) false)])) (fun i => 4 - i) (fun i => i ≤ 4) 0 (by omega)
    wkAu ?_
  intro i hi
  have hk : i = 0 ∨ i = 1 ∨ i = 2 ∨ i = 3 ∨ i = 4 := by omega
  rcases hk with rfl | rfl | rfl | rfl | rfl
  · repeat' (first | (with_reducible exact trivial) | simp (maxSteps := 2000000) (disch := omega) only [mix7, hf1, e0, go_sem, seval] | ((with_reducible refine isI ?_ ?_); (kernel_rfl)) | fail)
    exact ⟨1, by omega, by omega, wkAu⟩
  · repeat' (first | (with_reducible exact trivial) | simp (maxSteps := 2000000) (disch := omega) only [mix7, hf1, e1, go_sem, seval] | ((with_reducible refine isI ?_ ?_); (kernel_rfl)) | fail)
    exact ⟨2, by omega, by omega, wkAu⟩
  · repeat' (first | (with_reducible exact trivial) | simp (maxSteps := 2000000) (disch := omega) only [mix7, hf1, e2, go_sem, seval] | ((with_reducible refine isI ?_ ?_); (kernel_rfl)) | fail)
    exact ⟨3, by omega, by omega, wkAu⟩
  · repeat' (first | (with_reducible exact trivial) | simp (maxSteps := 2000000) (disch := omega) only [mix7, hf1, e3, go_sem, seval] | ((with_reducible refine isI ?_ ?_); (kernel_rfl)) | fail)
    exact ⟨4, by omega, by omega, wkAu⟩
  · have hcut : ((7 :: n :: (X ++ o8 d)).take 34).drop 2 = X := by
      rw [List.take_succ_cons, List.take_succ_cons, List.drop_succ_cons, List.drop_succ_cons, List.drop_zero, List.take_left' hX]
    have hcut2 : ((7 :: n :: (X ++ o8 d)).drop 2).take 32 = X := by
      rw [List.drop_succ_cons, List.drop_succ_cons, List.drop_zero, List.take_left' hX]
    have hlen : (7 :: n :: (X ++ o8 d)).length = 42 := by rw [List.length_cons, List.length_cons, List.length_append, hX, o8_len]
    have o1 := gOctets (Γ := Γ) X X
    rw [decide_eq_true rfl] at o1
    by_cases hm : mayV (s7 n w0 w1 w2 w3 d)
    · obtain ⟨c0, c1, c2, c3⟩ := mS.1 hm
      rw [resP_ok (fun s hs => by rw [List.mem_singleton.1 hs]; exact hm) (by simp), s7_put] at pS
      rw [eX] at pS
      rw [decide_eq_true (by rw [c0, c1, c2, c3])] at sm
      have o2 := gOctets (Γ := Γ) (7 :: n :: (X ++ o8 d)) (7 :: n :: (X ++ o8 d))
      rw [decide_eq_true rfl] at o2
      generalize 7 :: n :: (X ++ o8 d) = Y at *
      repeat' (first | (with_reducible exact trivial) | simp (maxSteps := 2000000) (disch := omega) only [mix7, bys_length, bys_take, bys_drop, hcut, hlen, go_sem, seval] | ((with_reducible refine isS ?_); first | refine cS (pS) ?_ | refine cS (pT) ?_ | refine cS (sm) ?_ | refine cS (o1) ?_ | refine cS (o2) ?_ | refine cS (ha) ?_ | fail) | ((with_reducible refine isE ?_); refine eA ?_; (repeat' (first | exact le_mq0 rfl | exact le_mq0r rfl | exact le_jk50 (by simp only [List.length_cons, List.length_append, mq_len, List.length_nil]) | refine le_mqr ?_ | refine le_mq ?_ | exact trivial | refine le_int ?_ | refine le_bool ?_ | refine le_str ?_ | refine le_sl ?_ | refine le_own ?_ | refine le_osl ?_ | refine le_nsl ?_ | exact rfl | refine ⟨?_, ?_⟩ | fail))) | ((with_reducible refine isI ?_ ?_); (kernel_rfl)) | fail)
    · rw [resP_no (fun k => hm (k _ (List.mem_singleton.2 rfl)))] at pS
      rw [decide_eq_false (fun e => hm (by rw [(List.cons.inj e).1]; exact mT))] at sm
      generalize 7 :: n :: (X ++ o8 d) = Y at *
      repeat' (first | (with_reducible exact trivial) | simp (maxSteps := 2000000) (disch := omega) only [mix7, bys_length, bys_take, bys_drop, hcut, hlen, go_sem, seval] | ((with_reducible refine isS ?_); first | refine cS (pS) ?_ | refine cS (pT) ?_ | refine cS (sm) ?_ | refine cS (o1) ?_ | refine cS (ha) ?_ | fail) | ((with_reducible refine isE ?_); refine eA ?_; (repeat' (first | exact le_mq0 rfl | exact le_mq0r rfl | exact le_jk50 (by simp only [List.length_cons, List.length_append, mq_len, List.length_nil]) | refine le_mqr ?_ | refine le_mq ?_ | exact trivial | refine le_int ?_ | refine le_bool ?_ | refine le_str ?_ | refine le_sl ?_ | refine le_own ?_ | refine le_osl ?_ | refine le_nsl ?_ | exact rfl | refine ⟨?_, ?_⟩ | fail))) | ((with_reducible refine isI ?_ ?_); (kernel_rfl)) | fail)
end Go.Proofs.YtlijecknkpcgfaaDoor
