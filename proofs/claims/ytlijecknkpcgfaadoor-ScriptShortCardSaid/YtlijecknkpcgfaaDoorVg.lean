/- Layer 22: a turn, read. Own work. -/
import Derived.Test.YtlijecknkpcgfaaDoorVf
import Derived.Test.YtlijecknkpcgfaaDoorScb
namespace Go.Proofs.YtlijecknkpcgfaaDoor
open Go Go.Shade
variable {Γ : Globs}
theorem numV_eq : ∀ l : List UInt8, Go.Proofs.numV l = num8 l
  | [] => rfl
  | c :: l => by rw [Go.Proofs.numV, num8, numV_eq l]
abbrev W4 (r : List UInt8) : List Nat := [wAt r 0, wAt r 8, wAt r 16, wAt r 24]
theorem cut_in (r : List UInt8) {i : Nat} (h : i + 8 ≤ 32) : (((r.take 32).drop i).take 8) = (r.drop i).take 8 := by
  rw [List.drop_take, List.take_take, Nat.min_eq_left (by omega)]
theorem fl4_eq (r : List UInt8) : fl4 (r.take 32) = flt (W4 r) := by
  have k : ∀ x : Fin 4, Go.Proofs.flV (r.take 32) x = .float .f64 (wAt r (8 * x.val)) := fun x => by
    have := x.isLt
    rw [Go.Proofs.flV, cut_in r (by omega), numV_eq]
    rfl
  have e : (List.finRange 4) = [0, 1, 2, 3] := by decide
  simp only [fl4, flt, W4, e, List.map_cons, List.map_nil, k]
  rfl
theorem four_cut {r : List UInt8} (h : 32 ≤ r.length) : r.take 32 = o8 (wAt r 0) ++ (o8 (wAt r 8) ++ (o8 (wAt r 16) ++ o8 (wAt r 24))) := by
  rw [o8_wAt (by omega), o8_wAt (by omega), o8_wAt (by omega), o8_wAt (by omega)]
  have c : ∀ i : Nat, (r.drop i).take 8 ++ r.drop (i + 8) = r.drop i := fun i => by rw [← List.drop_drop]; exact List.take_append_drop 8 _
  have e : r = ((r.drop 0).take 8 ++ ((r.drop 8).take 8 ++ ((r.drop 16).take 8 ++ (r.drop 24).take 8))) ++ r.drop 32 := by
    simp only [List.append_assoc]
    rw [c 24, c 16, c 8, c 0]
    rfl
  have hl : ((r.drop 0).take 8 ++ ((r.drop 8).take 8 ++ ((r.drop 16).take 8 ++ (r.drop 24).take 8))).length = 32 := by
    simp only [List.length_append, List.length_take, List.length_drop]
    omega
  conv => lhs; rw [e]
  exact List.take_left' hl
theorem o8_inj {a b : Nat} (ha : a < 18446744073709551616) (hb : b < 18446744073709551616) (h : o8 a = o8 b) : a = b := by rw [← num8_o8 ha, h, num8_o8 hb]
theorem laid_same {r : List UInt8} (h : 32 ≤ r.length) : wOct (W4 r) = r.take 32 ↔ cn (wAt r 0) = wAt r 0 ∧ cn (wAt r 8) = wAt r 8 ∧ cn (wAt r 16) = wAt r 16 ∧ cn (wAt r 24) = wAt r 24 := by
  have e : wOct (W4 r) = o8 (cn (wAt r 0)) ++ (o8 (cn (wAt r 8)) ++ (o8 (cn (wAt r 16)) ++ o8 (cn (wAt r 24)))) := by simp [wOct]
  rw [e, four_cut h]
  have l : ∀ i, cn (wAt r i) < 18446744073709551616 := fun i => cn_lt (wAt_lt r i)
  constructor
  · intro h
    obtain ⟨h0, h⟩ := List.append_inj h rfl
    obtain ⟨h1, h⟩ := List.append_inj h rfl
    obtain ⟨h2, h3⟩ := List.append_inj h rfl
    exact ⟨o8_inj (l _) (wAt_lt _ _) h0, o8_inj (l _) (wAt_lt _ _) h1, o8_inj (l _) (wAt_lt _ _) h2, o8_inj (l _) (wAt_lt _ _) h3⟩
  · rintro ⟨h0, h1, h2, h3⟩
    rw [h0, h1, h2, h3]
theorem wrap64u (x : UInt8) : IntKind.wrap .u64 (x.toNat : Int) = (x.toNat : Int) := by
  have := x.toNat_lt
  exact Go.Proofs.u64_in (by omega) (by omega)
theorem shlU (a : Int) {k : Nat} (h : k < 8) : binE .shl (.p (.s (.int .u64 a))) (.p (.s (.int .i64 (8 * (k : Nat))))) = some (.int .u64 (IntKind.wrap .u64 (a * 2 ^ (8 * k)))) := by
  have e : (8 * (k : Int)).toNat = 8 * k := by omega
  have hb : ¬ (8 * (k : Int)) < 0 := by omega
  simp only [binE, abin, if_neg hb, e, Option.map_some, IntKind.bits]
  rw [Nat.min_eq_left (by omega)]
theorem orU {s k : Nat} (c : UInt8) (hs : s < 2 ^ (8 * k)) (hk : k < 8) : binE .or (.p (.s (.int .u64 (s : Nat)))) (.p (.s (.int .u64 (IntKind.wrap .u64 ((c.toNat : Int) * 2 ^ (8 * k)))))) = some (.int .u64 ((s + c.toNat * 2 ^ (8 * k) : Nat) : Int)) := by
  have h := Go.Proofs.or_val (c := c.toNat) hs c.toNat_lt hk
  rw [wrap64u] at h
  rw [← h]
  rfl
theorem num8_snoc {d : List UInt8} {k : Nat} (h : k < d.length) : num8 (d.take (k + 1)) = num8 (d.take k) + (d.getD k 0).toNat * 2 ^ (8 * k) := by
  have e : d.take (k + 1) = d.take k ++ [d.getD k 0] := by
    rw [List.take_add_one, List.getElem?_eq_getElem h, List.getD_eq_getElem?_getD, List.getElem?_eq_getElem h]
    rfl
  rw [e, ← numV_eq, Go.Proofs.numV_snoc, numV_eq, List.length_take, Nat.min_eq_left (by omega)]
set_option maxHeartbeats 16000000 in
theorem gR7 (r : List UInt8) (hr : r.length ≤ 80000) : Go.Shade.Good Tryd.prog Γ 85 [.ptr 0 0, .ptr 1 0] (rPre r 7) (rdE (rd7 r)) (rdPost (rd7 r)) := by
  match r, hr with
  | [], _ =>
    refine sh_start mixed F85 rfl ⟨(by first | exact rfl | (simp only [go_sem, seval]; done) | (simp only [go_sem, seval]; exact rfl)), (by first | exact rfl | (simp only [go_sem, seval]; done) | (simp only [go_sem, seval]; exact rfl)), (by first | exact rfl | (simp only [go_sem, seval]; done) | (simp only [go_sem, seval]; exact rfl)), (by first | exact rfl | (simp only [go_sem, seval]; done) | (simp only [go_sem, seval]; exact rfl)), (by first | exact rfl | (simp only [go_sem, seval]; done) | (simp only [go_sem, seval]; exact rfl))⟩ ?_
    repeat' (first | (with_reducible exact trivial) | simp (maxSteps := 2000000) (disch := omega) only [go_sem, seval] | ((with_reducible refine isS ?_); first | refine cPn (gOneNo) ?_ | fail) | ((with_reducible refine isT ?_); first | fail | fail) | ((with_reducible refine isX ?_); exact f_panE []) | ((with_reducible refine isI ?_ ?_); (kernel_rfl)) | fail)
  | y :: r, hr =>
    rw [List.length_cons] at hr
    have h1 := gOneE (Γ := Γ) y r (by omega)
    by_cases h32 : 32 ≤ r.length
    · have h2 := gEye (Γ := Γ) 32 r h32 (by omega)
      have h3 := gWRead (Γ := Γ) (r.take 32) (by rw [List.length_take]; omega)
      rw [fl4_eq] at h3
      have h4 := gWLay (Γ := Γ) (W4 r) (by simp [W4])
      have h5 := gEqual (Γ := Γ) (wOct (W4 r)) (r.take 32)
      by_cases hc : wOct (W4 r) = r.take 32
      · rw [decide_eq_true hc] at h5
        have hcs := (laid_same h32).1 hc
        by_cases h40 : 40 ≤ r.length
        · have h6 := gEye (Γ := Γ) 8 (r.drop 32) (by rw [List.length_drop]; omega) (by rw [List.length_drop]; omega)
          rw [List.drop_drop] at h6
          have hd8 : ((r.drop 32).take 8).length = 8 := by rw [List.length_take, List.length_drop]; omega
          rw [rd7, if_pos ⟨h40, hcs⟩]
          have hdr : wAt r 32 = num8 ((r.drop 32).take 8) := rfl
          rw [hdr]
          generalize (r.drop 32).take 8 = d at h6 hd8
          refine sh_start mixed F85 rfl ⟨(by first | exact rfl | (simp only [go_sem, seval]; done) | (simp only [go_sem, seval]; exact rfl)), (by first | exact rfl | (simp only [go_sem, seval]; done) | (simp only [go_sem, seval]; exact rfl)), (by first | exact rfl | (simp only [go_sem, seval]; done) | (simp only [go_sem, seval]; exact rfl)), (by first | exact rfl | (simp only [go_sem, seval]; done) | (simp only [go_sem, seval]; exact rfl)), (by first | exact rfl | (simp only [go_sem, seval]; done) | (simp only [go_sem, seval]; exact rfl))⟩ ?_
          have hf1 : (flt (W4 r)).length = 4 := rfl
          have hf2 : (flt (W4 r)).flatten = [.s (.float .f64 (wAt r 0)), .s (.float .f64 (wAt r 8)), .s (.float .f64 (wAt r 16)), .s (.float .f64 (wAt r 24))] := rfl
          repeat' (first | (with_reducible exact trivial) | simp (maxSteps := 2000000) (disch := omega) only [zS, bys_length, hd8, hf1, hf2, go_sem, seval] | ((with_reducible refine isS ?_); first | refine cSA (h1) ?_ | refine cSA (h2) ?_ | refine cS (h3) ?_ | refine cS (h4) ?_ | refine cS (h5) ?_ | refine cS (gMustOk) ?_ | refine cSA (h6) ?_ | fail) | ((with_reducible refine isT ?_); first | refine cTA (h1) ?_ | refine cTA (h2) ?_ | refine cT (h3) ?_ | refine cT (h4) ?_ | refine cT (h5) ?_ | refine cT (gMustOk) ?_ | refine cTA (h6) ?_ | fail) | ((with_reducible refine isI ?_ ?_); (kernel_rfl)) | fail)
          refine sh_loopX mixed (fun k : Nat => ([(1, .ptr 1 0), (37, .sl 1 (bys d)), (38, .int .i64 8), (39, .int .i64 k)], [(0, .box [.sl 1 (bys (r.drop 40))] false), (1, .box (sC { zS 7 with n := y.toNat, w0 := wAt r 0, w1 := wAt r 8, w2 := wAt r 16, w3 := wAt r 24, draw := num8 (d.take k) }) false)])) (fun k => 8 - k) (fun k => k ≤ 8) 0 (by omega)
            (wkAu (h1 := by (repeat' (first | exact le_mq0 rfl | exact le_mq0r rfl | exact le_jk50 (by simp only [List.length_cons, List.length_append, mq_len, List.length_nil]) | refine le_mqr ?_ | refine le_mq ?_ | exact trivial | exact rfl | refine le_int ?_ | refine le_bool ?_ | refine le_str ?_ | refine le_sl ?_ | refine le_own ?_ | refine le_osl ?_ | refine le_nsl ?_ | refine ⟨_, rfl, ?_⟩ | refine ⟨?_, ?_⟩ | (simp; done) | exact Option.some_ne_none _ | fail)); first | done | fail) (h2 := by (repeat' (first | exact le_mq0 rfl | exact le_mq0r rfl | exact le_jk50 (by simp only [List.length_cons, List.length_append, mq_len, List.length_nil]) | refine le_mqr ?_ | refine le_mq ?_ | exact trivial | exact rfl | refine le_int ?_ | refine le_bool ?_ | refine le_str ?_ | refine le_sl ?_ | refine le_own ?_ | refine le_osl ?_ | refine le_nsl ?_ | refine ⟨_, rfl, ?_⟩ | refine ⟨?_, ?_⟩ | (simp; done) | exact Option.some_ne_none _ | fail)); first | done | fail)) ?_
          intro k hk
          by_cases hk8 : k < 8
          · have hlt := Go.Proofs.numV_lt (d.take k)
            rw [numV_eq, List.length_take, Nat.min_eq_left (by omega)] at hlt
            have hsh := shlU (((d.getD k 0).toNat : Nat) : Int) hk8
            have hor := orU (d.getD k 0) hlt hk8
            have hg := bys_getD (B := d) (i := k) (by omega)
            have hn := num8_snoc (d := d) (k := k) (by omega)
            repeat' (first | (with_reducible exact trivial) | simp (maxSteps := 2000000) (disch := omega) only [zS, bys_length, hd8, Int.toNat_natCast, hg, wrap64u, hsh, hor, go_sem, seval] | ((with_reducible refine isI ?_ ?_); (kernel_rfl)) | fail)
            exact ⟨k + 1, by omega, by omega, (wkAu (h1 := by (repeat' (first | exact le_mq0 rfl | exact le_mq0r rfl | exact le_jk50 (by simp only [List.length_cons, List.length_append, mq_len, List.length_nil]) | refine le_mqr ?_ | refine le_mq ?_ | exact trivial | exact rfl | refine le_int ?_ | refine le_bool ?_ | refine le_str ?_ | refine le_sl ?_ | refine le_own ?_ | refine le_osl ?_ | refine le_nsl ?_ | refine ⟨_, rfl, ?_⟩ | refine ⟨?_, ?_⟩ | ((rw [hn]); done) | exact Option.some_ne_none _ | fail)); first | done | fail) (h2 := by (repeat' (first | exact le_mq0 rfl | exact le_mq0r rfl | exact le_jk50 (by simp only [List.length_cons, List.length_append, mq_len, List.length_nil]) | refine le_mqr ?_ | refine le_mq ?_ | exact trivial | exact rfl | refine le_int ?_ | refine le_bool ?_ | refine le_str ?_ | refine le_sl ?_ | refine le_own ?_ | refine le_osl ?_ | refine le_nsl ?_ | refine ⟨_, rfl, ?_⟩ | refine ⟨?_, ?_⟩ | ((rw [hn]); done) | exact Option.some_ne_none _ | fail)); first | done | fail))⟩
          · obtain rfl : k = 8 := by omega
            have hd : d.take 8 = d := List.take_of_length_le (by omega)
            rw [hd]
            repeat' (first | (with_reducible exact trivial) | simp (maxSteps := 2000000) (disch := omega) only [zS, go_sem, seval] | ((with_reducible refine isE ?_); refine eA ?_; (repeat' (first | exact le_mq0 rfl | exact le_mq0r rfl | exact le_jk50 (by simp only [List.length_cons, List.length_append, mq_len, List.length_nil]) | refine le_mqr ?_ | refine le_mq ?_ | exact trivial | refine le_int ?_ | refine le_bool ?_ | refine le_str ?_ | refine le_sl ?_ | refine le_own ?_ | refine le_osl ?_ | refine le_nsl ?_ | exact rfl | refine ⟨?_, ?_⟩ | fail))) | ((with_reducible refine isI ?_ ?_); (kernel_rfl)) | fail)
        · have h6 := gEyeNo (Γ := Γ) 8 (r.drop 32) (by rw [List.length_drop]; omega) (by rw [List.length_drop]; omega)
          rw [rd7, if_neg (fun k => h40 k.1)]
          refine sh_start mixed F85 rfl ⟨(by first | exact rfl | (simp only [go_sem, seval]; done) | (simp only [go_sem, seval]; exact rfl)), (by first | exact rfl | (simp only [go_sem, seval]; done) | (simp only [go_sem, seval]; exact rfl)), (by first | exact rfl | (simp only [go_sem, seval]; done) | (simp only [go_sem, seval]; exact rfl)), (by first | exact rfl | (simp only [go_sem, seval]; done) | (simp only [go_sem, seval]; exact rfl)), (by first | exact rfl | (simp only [go_sem, seval]; done) | (simp only [go_sem, seval]; exact rfl))⟩ ?_
          have hf1 : (flt (W4 r)).length = 4 := rfl
          have hf2 : (flt (W4 r)).flatten = [.s (.float .f64 (wAt r 0)), .s (.float .f64 (wAt r 8)), .s (.float .f64 (wAt r 16)), .s (.float .f64 (wAt r 24))] := rfl
          repeat' (first | (with_reducible exact trivial) | simp (maxSteps := 2000000) (disch := omega) only [hf1, hf2, go_sem, seval] | ((with_reducible refine isS ?_); first | refine cSA (h1) ?_ | refine cSA (h2) ?_ | refine cS (h3) ?_ | refine cS (h4) ?_ | refine cS (h5) ?_ | refine cS (gMustOk) ?_ | refine cPn (h6) ?_ | fail) | ((with_reducible refine isT ?_); first | refine cTA (h1) ?_ | refine cTA (h2) ?_ | refine cT (h3) ?_ | refine cT (h4) ?_ | refine cT (h5) ?_ | refine cT (gMustOk) ?_ | fail | fail) | ((with_reducible refine isX ?_); exact f_panE []) | ((with_reducible refine isI ?_ ?_); (kernel_rfl)) | fail)
      · rw [decide_eq_false hc] at h5
        rw [rd7, if_neg (fun k => hc ((laid_same h32).2 k.2))]
        refine sh_start mixed F85 rfl ⟨(by first | exact rfl | (simp only [go_sem, seval]; done) | (simp only [go_sem, seval]; exact rfl)), (by first | exact rfl | (simp only [go_sem, seval]; done) | (simp only [go_sem, seval]; exact rfl)), (by first | exact rfl | (simp only [go_sem, seval]; done) | (simp only [go_sem, seval]; exact rfl)), (by first | exact rfl | (simp only [go_sem, seval]; done) | (simp only [go_sem, seval]; exact rfl)), (by first | exact rfl | (simp only [go_sem, seval]; done) | (simp only [go_sem, seval]; exact rfl))⟩ ?_
        repeat' (first | (with_reducible exact trivial) | simp (maxSteps := 2000000) (disch := omega) only [go_sem, seval] | ((with_reducible refine isS ?_); first | refine cSA (h1) ?_ | refine cSA (h2) ?_ | refine cS (h3) ?_ | refine cS (h4) ?_ | refine cS (h5) ?_ | refine cPn (gMustNo) ?_ | fail) | ((with_reducible refine isT ?_); first | refine cTA (h1) ?_ | refine cTA (h2) ?_ | refine cT (h3) ?_ | refine cT (h4) ?_ | refine cT (h5) ?_ | fail | fail) | ((with_reducible refine isX ?_); exact f_panE []) | ((with_reducible refine isI ?_ ?_); (kernel_rfl)) | fail)
    · have h2 := gEyeNo (Γ := Γ) 32 r h32 (by omega)
      rw [rd7, if_neg (fun k => h32 (by omega))]
      refine sh_start mixed F85 rfl ⟨(by first | exact rfl | (simp only [go_sem, seval]; done) | (simp only [go_sem, seval]; exact rfl)), (by first | exact rfl | (simp only [go_sem, seval]; done) | (simp only [go_sem, seval]; exact rfl)), (by first | exact rfl | (simp only [go_sem, seval]; done) | (simp only [go_sem, seval]; exact rfl)), (by first | exact rfl | (simp only [go_sem, seval]; done) | (simp only [go_sem, seval]; exact rfl)), (by first | exact rfl | (simp only [go_sem, seval]; done) | (simp only [go_sem, seval]; exact rfl))⟩ ?_
      repeat' (first | (with_reducible exact trivial) | simp (maxSteps := 2000000) (disch := omega) only [go_sem, seval] | ((with_reducible refine isS ?_); first | refine cSA (h1) ?_ | refine cPn (h2) ?_ | fail) | ((with_reducible refine isT ?_); first | refine cTA (h1) ?_ | fail | fail) | ((with_reducible refine isX ?_); exact f_panE []) | ((with_reducible refine isI ?_ ?_); (kernel_rfl)) | fail)
end Go.Proofs.YtlijecknkpcgfaaDoor
