/- Layer 22: scripts put and got by the program. Own work. -/
import Derived.Test.YtlijecknkpcgfaaDoorVk
import Derived.Test.YtlijecknkpcgfaaDoorScb
namespace Go.Proofs.YtlijecknkpcgfaaDoor
open Go Go.Shade
variable {Γ : Globs}
def sR (s : Stp) : List PV := .s (.int .i64 s.kind) :: .s (.int .i64 s.who) :: .s (.int .i64 s.n) :: .s (.int .u8 s.k.toNat) :: .s (.bool s.him) :: .s (.bool s.on) ::
  (mqP s.m ++ [.s (.int .i64 s.t.f), .s (.int .i64 s.t.level), .s (.bool s.t.ack), .s (.bool s.t.inn), .s (.bool s.t.out), .s (.int .u8 s.t.v.toNat), .sl 1 (bys s.b), .s (.float .f64 s.w0), .s (.float .f64 s.w1), .s (.float .f64 s.w2), .s (.float .f64 s.w3), .s (.int .u64 s.draw)])
theorem sR_map (s : Stp) : (sR s).map AV.p = sC s := by
  simp only [sR, List.map_cons, List.map_append, mqP_map, List.map_nil]
  rfl
theorem sR_len (s : Stp) : (sR s).length = 50 := by simp [sR, mqP_len]
theorem sR_take (s : Stp) : (sR s).take 50 = sR s := List.take_of_length_le (by rw [sR_len]; omega)
theorem min50 : min 50 50 = 50 := rfl
attribute [go_sem] sR_map sR_len sR_take min50 Nat.le_refl
theorem sR_getD {l : List Stp} {i : Nat} (h : i < l.length) : (l.map sR).getD i [] = sR l[i] := by
  rw [List.getD_eq_getElem?_getD, List.getElem?_map, List.getElem?_eq_getElem h]
  rfl
theorem selem_at {l : List Stp} {i : Nat} (h : i < l.length) : ∃ t, t ∈ l ∧ l.take (i + 1) = l.take i ++ [t] ∧ (l.map sR).getD i [] = sR t :=
  ⟨l[i], List.getElem_mem _, List.take_succ_eq_append_getElem h, sR_getD h⟩
def putS (l : List Stp) : List UInt8 := l.flatMap layS
theorem putS_snoc (l : List Stp) (t : Stp) : putS (l ++ [t]) = putS l ++ layS t := by
  rw [putS, List.flatMap_append]
  simp [putS]
theorem layS_len {s : Stp} (h : mayV s) : (layS s).length ≤ 301 := layP_len (mayV_layP h)
theorem putS_len : ∀ {l : List Stp}, (∀ s ∈ l, mayV s) → (putS l).length ≤ 301 * l.length
  | [], _ => by simp [putS]
  | s :: l, h => by
    have h1 := layS_len (h s (by simp))
    have h2 := putS_len (l := l) (fun t ht => h t (by simp [ht]))
    rw [show putS (s :: l) = layS s ++ putS l by simp [putS], List.length_append, List.length_cons]
    omega
def outP (l : List Stp) : List UInt8 := if ∀ s ∈ l, mayV s then (if l.length ≤ 4096 then putS l else []) else []
def stopP (l : List Stp) : Int := if ∀ s ∈ l, mayV s then (if l.length ≤ 4096 then 0 else 3) else 1
def resP (l : List Stp) : AV := .tup [.sl 1 (bys (outP l)), .int .i64 (stopP l)]
set_option maxHeartbeats 8000000 in
theorem gPutS (l : List Stp) (hl : l.length ≤ 10000) (hi : ∀ s ∈ l, inS s ∧ s.b.length ≤ 80000) : Go.Shade.Good Tryd.prog Γ 11 [.sl 50 (l.map sR)] [] (.ret (resP l)) [] := by
  refine sh_start mixed F11 rfl ⟨(by first | exact rfl | (simp only [go_sem, seval]; done) | (simp only [go_sem, seval]; exact rfl)), (by first | exact rfl | (simp only [go_sem, seval]; done) | (simp only [go_sem, seval]; exact rfl)), (by first | exact rfl | (simp only [go_sem, seval]; done) | (simp only [go_sem, seval]; exact rfl)), (by first | exact rfl | (simp only [go_sem, seval]; done) | (simp only [go_sem, seval]; exact rfl)), (by first | exact rfl | (simp only [go_sem, seval]; done) | (simp only [go_sem, seval]; exact rfl))⟩ ?_
  repeat' (first | (with_reducible exact trivial) | simp (maxSteps := 2000000) (disch := omega) only [go_sem, seval] | ((with_reducible refine isS ?_); first | refine cS (gForms) ?_ | fail) | ((with_reducible refine isI ?_ ?_); (kernel_rfl)) | fail)
  refine sh_loopX mixed (fun i : Nat => ([(0, .sl 50 (l.map sR)), (4, .ptr 1 0), (5, .own 0 1 (bys (putS (l.take i)))), (11, .sl 50 (l.map sR)), (12, .int .i64 l.length), (13, .int .i64 i)], [(0, .tok), (1, .box fmL false)])) (fun i => l.length - i) (fun i => i ≤ l.length ∧ ∀ s ∈ l.take i, mayV s) 0 (by simp)
    (weakG_nil 5 9 1 rfl rfl (wkAu (h1 := by (repeat' (first | exact le_mq0 rfl | exact le_mq0r rfl | exact le_jk50 (by simp only [List.length_cons, List.length_append, mq_len, List.length_nil]) | refine le_mqr ?_ | refine le_mq ?_ | exact trivial | exact rfl | refine le_int ?_ | refine le_bool ?_ | refine le_str ?_ | refine le_sl ?_ | refine le_own ?_ | refine le_osl ?_ | refine le_nsl ?_ | refine ⟨_, rfl, ?_⟩ | refine ⟨?_, ?_⟩ | ((simp only [List.length_map]); done) | exact Option.some_ne_none _ | fail)); first | done | fail) (h2 := by (repeat' (first | exact le_mq0 rfl | exact le_mq0r rfl | exact le_jk50 (by simp only [List.length_cons, List.length_append, mq_len, List.length_nil]) | refine le_mqr ?_ | refine le_mq ?_ | exact trivial | exact rfl | refine le_int ?_ | refine le_bool ?_ | refine le_str ?_ | refine le_sl ?_ | refine le_own ?_ | refine le_osl ?_ | refine le_nsl ?_ | refine ⟨_, rfl, ?_⟩ | refine ⟨?_, ?_⟩ | ((simp only [List.length_map]); done) | exact Option.some_ne_none _ | fail)); first | done | fail))) ?_
  rintro i ⟨hi', hm⟩
  have lp : (putS (l.take i)).length ≤ 3010000 := by
    have := putS_len hm
    rw [List.length_take] at this
    omega
  by_cases hlt : i < l.length
  · obtain ⟨s, hs, htk, hg⟩ := selem_at hlt
    obtain ⟨hin, hsb⟩ := hi s hs
    by_cases hv : mayV s
    · have hw := gSMay (Γ := Γ) s hsb (mayV_layP hv)
      rw [okS_may s hin, decide_eq_true hv] at hw
      have hlen := layS_len hv
      repeat' (first | (with_reducible exact trivial) | simp (maxSteps := 2000000) (disch := omega) only [List.length_map, hg, sR_map, bys_length, bys_cat, Int.toNat_natCast, bys_length, bys_cat, go_sem, seval] | ((with_reducible refine isS ?_); first | refine cS (hw) ?_ | fail) | ((with_reducible refine isI ?_ ?_); (kernel_rfl)) | fail)
      exact ⟨i + 1, by omega, ⟨by omega, by rw [htk]; simp only [List.mem_append, List.mem_singleton]; exact fun x hx => hx.elim (hm x) (fun e => e ▸ hv)⟩, (wkAu (h1 := by (repeat' (first | exact le_mq0 rfl | exact le_mq0r rfl | exact le_jk50 (by simp only [List.length_cons, List.length_append, mq_len, List.length_nil]) | refine le_mqr ?_ | refine le_mq ?_ | exact trivial | exact rfl | refine le_int ?_ | refine le_bool ?_ | refine le_str ?_ | refine le_sl ?_ | refine le_own ?_ | refine le_osl ?_ | refine le_nsl ?_ | refine ⟨_, rfl, ?_⟩ | refine ⟨?_, ?_⟩ | ((rw [htk, putS_snoc]); done) | exact Option.some_ne_none _ | fail)); first | done | fail) (h2 := by (repeat' (first | exact le_mq0 rfl | exact le_mq0r rfl | exact le_jk50 (by simp only [List.length_cons, List.length_append, mq_len, List.length_nil]) | refine le_mqr ?_ | refine le_mq ?_ | exact trivial | exact rfl | refine le_int ?_ | refine le_bool ?_ | refine le_str ?_ | refine le_sl ?_ | refine le_own ?_ | refine le_osl ?_ | refine le_nsl ?_ | refine ⟨_, rfl, ?_⟩ | refine ⟨?_, ?_⟩ | ((rw [htk, putS_snoc]); done) | exact Option.some_ne_none _ | fail)); first | done | fail))⟩
    · rw [show resP l = .tup [.sl 1 [], .int .i64 1] by rw [resP, outP, stopP, if_neg (fun h => hv (h s hs)), if_neg (fun h => hv (h s hs))]; rfl]
      cases hp : layP s with
      | none =>
        have hw := gSMayNo (Γ := Γ) s hsb hp
        repeat' (first | (with_reducible exact trivial) | simp (maxSteps := 2000000) (disch := omega) only [List.length_map, hg, sR_map, Int.toNat_natCast, go_sem, seval] | ((with_reducible refine isS ?_); first | refine cS (hw) ?_ | fail) | ((with_reducible refine isE ?_); refine eA ?_; (repeat' (first | exact le_mq0 rfl | exact le_mq0r rfl | exact le_jk50 (by simp only [List.length_cons, List.length_append, mq_len, List.length_nil]) | refine le_mqr ?_ | refine le_mq ?_ | exact trivial | refine le_int ?_ | refine le_bool ?_ | refine le_str ?_ | refine le_sl ?_ | refine le_own ?_ | refine le_osl ?_ | refine le_nsl ?_ | exact rfl | refine ⟨?_, ?_⟩ | fail))) | ((with_reducible refine isI ?_ ?_); (kernel_rfl)) | fail)
      | some b =>
        have hw := gSMay (Γ := Γ) s hsb hp
        rw [okS_may s hin, decide_eq_false hv] at hw
        repeat' (first | (with_reducible exact trivial) | simp (maxSteps := 2000000) (disch := omega) only [List.length_map, hg, sR_map, Int.toNat_natCast, go_sem, seval] | ((with_reducible refine isS ?_); first | refine cS (hw) ?_ | fail) | ((with_reducible refine isE ?_); refine eA ?_; (repeat' (first | exact le_mq0 rfl | exact le_mq0r rfl | exact le_jk50 (by simp only [List.length_cons, List.length_append, mq_len, List.length_nil]) | refine le_mqr ?_ | refine le_mq ?_ | exact trivial | refine le_int ?_ | refine le_bool ?_ | refine le_str ?_ | refine le_sl ?_ | refine le_own ?_ | refine le_osl ?_ | refine le_nsl ?_ | exact rfl | refine ⟨?_, ?_⟩ | fail))) | ((with_reducible refine isI ?_ ?_); (kernel_rfl)) | fail)
  · have ht : l.take i = l := List.take_of_length_le (by omega)
    rw [ht] at hm
    by_cases h4 : l.length ≤ 4096
    · rw [show resP l = .tup [.sl 1 (bys (putS l)), .int .i64 0] by rw [resP, outP, stopP, if_pos hm, if_pos h4, if_pos hm, if_pos h4]]
      repeat' (first | (with_reducible exact trivial) | simp (maxSteps := 2000000) (disch := omega) only [List.length_map, ht, go_sem, seval] | ((with_reducible refine isE ?_); refine eA ?_; (repeat' (first | exact le_mq0 rfl | exact le_mq0r rfl | exact le_jk50 (by simp only [List.length_cons, List.length_append, mq_len, List.length_nil]) | refine le_mqr ?_ | refine le_mq ?_ | exact trivial | refine le_int ?_ | refine le_bool ?_ | refine le_str ?_ | refine le_sl ?_ | refine le_own ?_ | refine le_osl ?_ | refine le_nsl ?_ | exact rfl | refine ⟨?_, ?_⟩ | fail))) | ((with_reducible refine isI ?_ ?_); (kernel_rfl)) | fail)
    · rw [show resP l = .tup [.sl 1 [], .int .i64 3] by rw [resP, outP, stopP, if_pos hm, if_neg h4, if_pos hm, if_neg h4]; rfl]
      repeat' (first | (with_reducible exact trivial) | simp (maxSteps := 2000000) (disch := omega) only [List.length_map, ht, go_sem, seval] | ((with_reducible refine isE ?_); refine eA ?_; (repeat' (first | exact le_mq0 rfl | exact le_mq0r rfl | exact le_jk50 (by simp only [List.length_cons, List.length_append, mq_len, List.length_nil]) | refine le_mqr ?_ | refine le_mq ?_ | exact trivial | refine le_int ?_ | refine le_bool ?_ | refine le_str ?_ | refine le_sl ?_ | refine le_own ?_ | refine le_osl ?_ | refine le_nsl ?_ | exact rfl | refine ⟨?_, ?_⟩ | fail))) | ((with_reducible refine isI ?_ ?_); (kernel_rfl)) | fail)
/-- What is got: so many steps at most. -/
def gtS : Nat → List UInt8 → List Stp × List UInt8 × Bool
  | 0, b => ([], b, true)
  | _ + 1, [] => ([], [], true)
  | n + 1, c :: r => match rdS (c :: r) with
    | none => ([], c :: r, false)
    | some (s, r') => (s :: (gtS n r').1, (gtS n r').2)
theorem gtS_nil : ∀ n, gtS n [] = ([], [], true)
  | 0 => rfl
  | _ + 1 => rfl
theorem rd_less {b r : List UInt8} {s : Stp} (h : rdS b = some (s, r)) : r.length < b.length := by
  obtain ⟨_, _, e⟩ := lay_rd h
  rw [e, layS, List.cons_append, List.length_cons, List.length_append]
  omega
def resG (b : List UInt8) : AV := .tup [.sl 50 ((gtS 4096 b).1.map sR), .int .i64 ((b.length : Int) - ((gtS 4096 b).2.1.length : Int)), .int .i64 (if (gtS 4096 b).2.2 = true then 0 else 2)]
set_option maxHeartbeats 8000000 in
theorem gGetS (b : List UInt8) (hb : b.length ≤ 80000) : Go.Shade.Good Tryd.prog Γ 13 [.sl 1 (bys b)] [] (.ret (resG b)) [] := by
  refine sh_start mixed F13 rfl ⟨(by first | exact rfl | (simp only [go_sem, seval]; done) | (simp only [go_sem, seval]; exact rfl)), (by first | exact rfl | (simp only [go_sem, seval]; done) | (simp only [go_sem, seval]; exact rfl)), (by first | exact rfl | (simp only [go_sem, seval]; done) | (simp only [go_sem, seval]; exact rfl)), (by first | exact rfl | (simp only [go_sem, seval]; done) | (simp only [go_sem, seval]; exact rfl)), (by first | exact rfl | (simp only [go_sem, seval]; done) | (simp only [go_sem, seval]; exact rfl))⟩ ?_
  repeat' (first | (with_reducible exact trivial) | simp (maxSteps := 2000000) (disch := omega) only [go_sem, seval] | ((with_reducible refine isS ?_); first | refine cS (gForms) ?_ | fail) | ((with_reducible refine isI ?_ ?_); (kernel_rfl)) | fail)
  refine sh_loopX mixed (fun x : List Stp × List UInt8 => ([(0, .sl 1 (bys b)), (5, .ptr 1 0), (6, .own 0 50 (x.1.map sR)), (7, .sl 1 (bys x.2))], [(0, .tok), (1, .box fmL false)])) (fun x => x.2.length)
    (fun x => (gtS 4096 b).1 = x.1 ++ (gtS (4096 - x.1.length) x.2).1 ∧ (gtS 4096 b).2 = (gtS (4096 - x.1.length) x.2).2 ∧ x.1.length ≤ 4096 ∧ x.2.length ≤ b.length) ([], b) ⟨rfl, rfl, by simp, by simp⟩
    (weakG_nil 6 9 50 rfl rfl wkAu) ?_
  rintro ⟨acc, r⟩ ⟨h1, h2, h3, h4⟩
  simp only at h1 h2 h3 h4
  match r, h4 with
  | [], _ =>
    rw [show resG b = .tup [.sl 50 (acc.map sR), .int .i64 ((b.length : Int) - (([] : List UInt8).length : Int)), .int .i64 0] by rw [resG, h1, h2, gtS_nil, List.append_nil]; rfl]
    repeat' (first | (with_reducible exact trivial) | simp (maxSteps := 2000000) (disch := omega) only [bys_length, List.length_nil, go_sem, seval] | ((with_reducible refine isE ?_); refine eA ?_; (repeat' (first | exact le_mq0 rfl | exact le_mq0r rfl | exact le_jk50 (by simp only [List.length_cons, List.length_append, mq_len, List.length_nil]) | refine le_mqr ?_ | refine le_mq ?_ | exact trivial | refine le_int ?_ | refine le_bool ?_ | refine le_str ?_ | refine le_sl ?_ | refine le_own ?_ | refine le_osl ?_ | refine le_nsl ?_ | exact rfl | refine ⟨?_, ?_⟩ | fail))) | ((with_reducible refine isI ?_ ?_); (kernel_rfl)) | fail)
  | c :: q, h4 =>
    rw [List.length_cons] at h4
    by_cases hn : acc.length < 4096
    · obtain ⟨m, hm⟩ : ∃ m, 4096 - acc.length = m + 1 := ⟨4095 - acc.length, by omega⟩
      rw [hm] at h1 h2
      have hr := gReads (Γ := Γ) (c :: q) (by rw [List.length_cons]; omega)
      cases hq : rdS (c :: q) with
      | none =>
        rw [hq] at hr
        simp only [resR] at hr
        rw [show resG b = .tup [.sl 50 (acc.map sR), .int .i64 ((b.length : Int) - ((c :: q).length : Int)), .int .i64 2] by simp only [gtS, hq, List.append_nil] at h1 h2; rw [resG, h1, h2]; rfl]
        repeat' (first | (with_reducible exact trivial) | simp (maxSteps := 2000000) (disch := omega) only [bys_length, List.length_map, List.length_cons, go_sem, seval] | ((with_reducible refine isS ?_); first | refine cS (hr) ?_ | fail) | ((with_reducible refine isE ?_); refine eA ?_; (repeat' (first | exact le_mq0 rfl | exact le_mq0r rfl | exact le_jk50 (by simp only [List.length_cons, List.length_append, mq_len, List.length_nil]) | refine le_mqr ?_ | refine le_mq ?_ | exact trivial | refine le_int ?_ | refine le_bool ?_ | refine le_str ?_ | refine le_sl ?_ | refine le_own ?_ | refine le_osl ?_ | refine le_nsl ?_ | exact rfl | refine ⟨?_, ?_⟩ | fail))) | ((with_reducible refine isI ?_ ?_); (kernel_rfl)) | fail)
      | some y =>
        obtain ⟨s, r'⟩ := y
        rw [hq] at hr
        simp only [resR] at hr
        have hless := rd_less hq
        rw [List.length_cons] at hless
        have hm' : 4096 - (acc ++ [s]).length = m := by simp only [List.length_append, List.length_cons, List.length_nil]; omega
        repeat' (first | (with_reducible exact trivial) | simp (maxSteps := 2000000) (disch := omega) only [bys_length, List.length_map, List.length_cons, go_sem, seval] | ((with_reducible refine isS ?_); first | refine cS (hr) ?_ | fail) | ((with_reducible refine isI ?_ ?_); (kernel_rfl)) | fail)
        exact ⟨(acc ++ [s], r'), by simp only [List.length_cons]; omega, ⟨by simp only [hm']; simp only [gtS, hq] at h1; rw [h1, List.append_assoc]; rfl, by simp only [hm']; simp only [gtS, hq] at h2; exact h2, by simp only [List.length_append, List.length_cons, List.length_nil]; omega, by simp only; omega⟩, (wkAu (h1 := by (repeat' (first | exact le_mq0 rfl | exact le_mq0r rfl | exact le_jk50 (by simp only [List.length_cons, List.length_append, mq_len, List.length_nil]) | refine le_mqr ?_ | refine le_mq ?_ | exact trivial | exact rfl | refine le_int ?_ | refine le_bool ?_ | refine le_str ?_ | refine le_sl ?_ | refine le_own ?_ | refine le_osl ?_ | refine le_nsl ?_ | refine ⟨_, rfl, ?_⟩ | refine ⟨?_, ?_⟩ | ((simp [sR]); done) | exact Option.some_ne_none _ | fail)); first | done | fail) (h2 := by (repeat' (first | exact le_mq0 rfl | exact le_mq0r rfl | exact le_jk50 (by simp only [List.length_cons, List.length_append, mq_len, List.length_nil]) | refine le_mqr ?_ | refine le_mq ?_ | exact trivial | exact rfl | refine le_int ?_ | refine le_bool ?_ | refine le_str ?_ | refine le_sl ?_ | refine le_own ?_ | refine le_osl ?_ | refine le_nsl ?_ | refine ⟨_, rfl, ?_⟩ | refine ⟨?_, ?_⟩ | ((simp [sR]); done) | exact Option.some_ne_none _ | fail)); first | done | fail))⟩
    · have hz : 4096 - acc.length = 0 := by omega
      rw [hz] at h1 h2
      rw [show resG b = .tup [.sl 50 (acc.map sR), .int .i64 ((b.length : Int) - ((c :: q).length : Int)), .int .i64 0] by simp only [gtS, List.append_nil] at h1 h2; rw [resG, h1, h2]; rfl]
      repeat' (first | (with_reducible exact trivial) | simp (maxSteps := 2000000) (disch := omega) only [bys_length, List.length_map, List.length_cons, go_sem, seval] | ((with_reducible refine isE ?_); refine eA ?_; (repeat' (first | exact le_mq0 rfl | exact le_mq0r rfl | exact le_jk50 (by simp only [List.length_cons, List.length_append, mq_len, List.length_nil]) | refine le_mqr ?_ | refine le_mq ?_ | exact trivial | refine le_int ?_ | refine le_bool ?_ | refine le_str ?_ | refine le_sl ?_ | refine le_own ?_ | refine le_osl ?_ | refine le_nsl ?_ | exact rfl | refine ⟨?_, ?_⟩ | fail))) | ((with_reducible refine isI ?_ ?_); (kernel_rfl)) | fail)
end Go.Proofs.YtlijecknkpcgfaaDoor
