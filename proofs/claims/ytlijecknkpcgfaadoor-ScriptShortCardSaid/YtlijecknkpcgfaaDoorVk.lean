/- Layer 22: which steps may be: what the program asks. Own work. -/
import Derived.Test.YtlijecknkpcgfaaDoorVi
import Derived.Test.YtlijecknkpcgfaaDoorVj
import Derived.Test.YtlijecknkpcgfaaDoorScb
namespace Go.Proofs.YtlijecknkpcgfaaDoor
open Go Go.Shade
variable {Γ : Globs}
/-- What a step comes to: its octets, and whether they are read as it was. -/
def okS (s : Stp) : Bool := match layP s with
  | none => false
  | some b => decide (rdS b = some (s, []))
theorem mayV_b {s : Stp} (h : mayV s) : s.b.length ≤ 255 := by
  obtain ⟨hp, hf⟩ := h
  by_cases h6 : s.kind = 6
  · rcases hf with (hk | hk) | ⟨hk, _⟩ | ⟨hk, _⟩ | ⟨hk, _⟩ | ⟨hk, _⟩ | ⟨_, h⟩ | ⟨hk, _⟩ <;> first | exact h | omega
  · have : s.b = (partS s).b := congrArg Stp.b hp
    rw [this]
    unfold partS
    repeat' split
    all_goals first | exact absurd ‹_› h6 | simp [zS]
theorem or_two (w : Int) (h0 : 0 ≤ w) (h1 : w ≤ 1) (p q : Bool) : or64 (or64 w (if p = true then 2 else 0)) (if q = true then 4 else 0) = w + (if p = true then 2 else 0) + (if q = true then 4 else 0) := by
  have : w = 0 ∨ w = 1 := by omega
  rcases this with rfl | rfl <;> cases p <;> cases q <;> decide +kernel
theorem layQ_layR {s : Stp} (h : mayV s) : layQ s = layR s := by
  unfold layQ layR lay4
  by_cases h2 : s.kind = 2
  · have hw : 0 ≤ s.who ∧ s.who ≤ 1 := by
      rcases h.2 with (hk | hk) | ⟨hk, _⟩ | ⟨_, h, _⟩ | ⟨hk, _⟩ | ⟨hk, _⟩ | ⟨hk, _⟩ | ⟨hk, _⟩ <;> first | exact h | omega
    rw [if_neg (by omega), if_neg (by omega), if_pos h2, if_neg (by omega), if_neg (by omega), if_pos h2, x2, or_two _ hw.1 hw.2]
  · simp only [if_neg h2, u8_ofNat]
theorem mayV_layP {s : Stp} (h : mayV s) : layP s = some (layS s) := by
  have hb := mayV_b h
  have hl := layQ_layR h
  obtain ⟨_, hf⟩ := h
  have h1 : (0 ≤ s.kind ∧ s.kind < 8) ∧ s.b.length ≤ 255 ∧ (s.kind = 5 → mayT s.t) := by
    rcases hf with (hk | hk) | ⟨hk, _⟩ | ⟨hk, _⟩ | ⟨hk, _⟩ | ⟨hk, _, h⟩ | ⟨hk, _⟩ | ⟨hk, _⟩
    all_goals first | exact ⟨⟨by omega, by omega⟩, hb, fun k => absurd k (by omega)⟩ | exact ⟨⟨by omega, by omega⟩, hb, fun _ => h⟩
  rw [layP, if_pos h1, hl, layS]
theorem okS_may (s : Stp) (hi : inS s) : okS s = decide (mayV s) := by
  by_cases h : mayV s
  · rw [okS, mayV_layP h, decide_eq_true h]
    have := rd_lay h hi []
    rw [List.append_nil] at this
    exact decide_eq_true this
  · rw [decide_eq_false h, okS]
    split
    · rfl
    · rename_i b hb
      exact decide_eq_false fun k => h (lay_rd k).1
theorem layP_len {s : Stp} {b : List UInt8} (h : layP s = some b) : b.length ≤ 301 := by
  unfold layP at h
  split at h
  · rename_i k
    cases h
    have := layQ_len s k.2.1
    rw [List.length_cons]
    omega
  · cases h
set_option maxHeartbeats 4000000 in
theorem gSMayNo (s : Stp) (hb : s.b.length ≤ 80000) (h : layP s = none) : Go.Shade.Good Tryd.prog Γ 24 [fmV, sV s] [] (.ret (.tup [.sl 1 [], .bool false])) [] := by
  have hl := gLays (Γ := Γ) s hb
  rw [h] at hl
  simp only [resL, Option.getD_none, Option.isSome_none, bys_nil] at hl
  refine sh_start mixed F24 rfl ⟨(by first | exact rfl | (simp only [go_sem, seval]; done) | (simp only [go_sem, seval]; exact rfl)), (by first | exact rfl | (simp only [go_sem, seval]; done) | (simp only [go_sem, seval]; exact rfl)), (by first | exact rfl | (simp only [go_sem, seval]; done) | (simp only [go_sem, seval]; exact rfl)), (by first | exact rfl | (simp only [go_sem, seval]; done) | (simp only [go_sem, seval]; exact rfl)), (by first | exact rfl | (simp only [go_sem, seval]; done) | (simp only [go_sem, seval]; exact rfl))⟩ ?_
  repeat' (first | (with_reducible exact trivial) | simp (maxSteps := 2000000) (disch := omega) only [go_sem, seval] | ((with_reducible refine isS ?_); first | refine cS (hl) ?_ | fail) | ((with_reducible refine isE ?_); refine eA ?_; (repeat' (first | exact le_mq0 rfl | exact le_mq0r rfl | exact le_jk50 (by simp only [List.length_cons, List.length_append, mq_len, List.length_nil]) | refine le_mqr ?_ | refine le_mq ?_ | exact trivial | refine le_int ?_ | refine le_bool ?_ | refine le_str ?_ | refine le_sl ?_ | refine le_own ?_ | refine le_osl ?_ | refine le_nsl ?_ | exact rfl | refine ⟨?_, ?_⟩ | fail))) | ((with_reducible refine isI ?_ ?_); (kernel_rfl)) | fail)
set_option maxHeartbeats 4000000 in
theorem gSMay (s : Stp) (hb : s.b.length ≤ 80000) {b : List UInt8} (h : layP s = some b) : Go.Shade.Good Tryd.prog Γ 24 [fmV, sV s] [] (.ret (.tup [.sl 1 (bys b), .bool (okS s)])) [] := by
  have hl := gLays (Γ := Γ) s hb
  rw [h] at hl
  have hlen := layP_len h
  have hr := gReads (Γ := Γ) b (by omega)
  have ho : okS s = decide (rdS b = some (s, [])) := by rw [okS, h]
  rw [ho]
  simp only [resL, Option.getD_some, Option.isSome_some] at hl
  cases hq : rdS b with
  | none =>
    rw [hq] at hr
    have hf : decide ((none : Option (Stp × List UInt8)) = some (s, [])) = false := rfl
    rw [hf]
    simp only [resR] at hr
    refine sh_start mixed F24 rfl ⟨(by first | exact rfl | (simp only [go_sem, seval]; done) | (simp only [go_sem, seval]; exact rfl)), (by first | exact rfl | (simp only [go_sem, seval]; done) | (simp only [go_sem, seval]; exact rfl)), (by first | exact rfl | (simp only [go_sem, seval]; done) | (simp only [go_sem, seval]; exact rfl)), (by first | exact rfl | (simp only [go_sem, seval]; done) | (simp only [go_sem, seval]; exact rfl)), (by first | exact rfl | (simp only [go_sem, seval]; done) | (simp only [go_sem, seval]; exact rfl))⟩ ?_
    repeat' (first | (with_reducible exact trivial) | simp (maxSteps := 2000000) (disch := omega) only [go_sem, seval] | ((with_reducible refine isS ?_); first | refine cS (hl) ?_ | refine cS (hr) ?_ | fail) | ((with_reducible refine isE ?_); refine eA ?_; (repeat' (first | exact le_mq0 rfl | exact le_mq0r rfl | exact le_jk50 (by simp only [List.length_cons, List.length_append, mq_len, List.length_nil]) | refine le_mqr ?_ | refine le_mq ?_ | exact trivial | refine le_int ?_ | refine le_bool ?_ | refine le_str ?_ | refine le_sl ?_ | refine le_own ?_ | refine le_osl ?_ | refine le_nsl ?_ | exact rfl | refine ⟨?_, ?_⟩ | fail))) | ((with_reducible refine isI ?_ ?_); (kernel_rfl)) | fail)
  | some q =>
    obtain ⟨t, r⟩ := q
    rw [hq] at hr
    simp only [resR] at hr
    cases r with
    | nil =>
      have hf : decide (some (t, ([] : List UInt8)) = some (s, [])) = decide (s = t) := decide_eq_decide.2 ⟨fun h => by cases h; rfl, fun h => by rw [h]⟩
      rw [hf]
      refine sh_start mixed F24 rfl ⟨(by first | exact rfl | (simp only [go_sem, seval]; done) | (simp only [go_sem, seval]; exact rfl)), (by first | exact rfl | (simp only [go_sem, seval]; done) | (simp only [go_sem, seval]; exact rfl)), (by first | exact rfl | (simp only [go_sem, seval]; done) | (simp only [go_sem, seval]; exact rfl)), (by first | exact rfl | (simp only [go_sem, seval]; done) | (simp only [go_sem, seval]; exact rfl)), (by first | exact rfl | (simp only [go_sem, seval]; done) | (simp only [go_sem, seval]; exact rfl))⟩ ?_
      repeat' (first | (with_reducible exact trivial) | simp (maxSteps := 2000000) (disch := omega) only [go_sem, seval] | ((with_reducible refine isS ?_); first | refine cS (hl) ?_ | refine cS (hr) ?_ | refine cS (gSameS s t) ?_ | fail) | ((with_reducible refine isE ?_); refine eA ?_; (repeat' (first | exact le_mq0 rfl | exact le_mq0r rfl | exact le_jk50 (by simp only [List.length_cons, List.length_append, mq_len, List.length_nil]) | refine le_mqr ?_ | refine le_mq ?_ | exact trivial | refine le_int ?_ | refine le_bool ?_ | refine le_str ?_ | refine le_sl ?_ | refine le_own ?_ | refine le_osl ?_ | refine le_nsl ?_ | exact rfl | refine ⟨?_, ?_⟩ | fail))) | ((with_reducible refine isI ?_ ?_); (kernel_rfl)) | fail)
    | cons c r =>
      have hf : decide (some (t, c :: r) = some (s, [])) = false := decide_eq_false (by simp)
      rw [hf]
      have hz : ¬ ((r.length : Int) + 1 = 0) := by omega
      refine sh_start mixed F24 rfl ⟨(by first | exact rfl | (simp only [go_sem, seval]; done) | (simp only [go_sem, seval]; exact rfl)), (by first | exact rfl | (simp only [go_sem, seval]; done) | (simp only [go_sem, seval]; exact rfl)), (by first | exact rfl | (simp only [go_sem, seval]; done) | (simp only [go_sem, seval]; exact rfl)), (by first | exact rfl | (simp only [go_sem, seval]; done) | (simp only [go_sem, seval]; exact rfl)), (by first | exact rfl | (simp only [go_sem, seval]; done) | (simp only [go_sem, seval]; exact rfl))⟩ ?_
      repeat' (first | (with_reducible exact trivial) | simp (maxSteps := 2000000) (disch := omega) only [bys_length, List.length_cons, go_sem, seval] | ((with_reducible refine isS ?_); first | refine cS (hl) ?_ | refine cS (hr) ?_ | fail) | ((with_reducible refine isE ?_); refine eA ?_; (repeat' (first | exact le_mq0 rfl | exact le_mq0r rfl | exact le_jk50 (by simp only [List.length_cons, List.length_append, mq_len, List.length_nil]) | refine le_mqr ?_ | refine le_mq ?_ | exact trivial | refine le_int ?_ | refine le_bool ?_ | refine le_str ?_ | refine le_sl ?_ | refine le_own ?_ | refine le_osl ?_ | refine le_nsl ?_ | exact rfl | refine ⟨?_, ?_⟩ | fail))) | ((with_reducible refine isI ?_ ?_); (kernel_rfl)) | fail)
theorem okS_none {s : Stp} (h : layP s = none) : okS s = false := by rw [okS, h]
set_option maxHeartbeats 4000000 in
theorem gCheckS (s : Stp) (hb : s.b.length ≤ 80000) : Go.Shade.Good Tryd.prog Γ 18 [sV s] [] (.ret (.int .i64 (if okS s = true then 0 else 1))) [] := by
  cases h : layP s with
  | none =>
    rw [okS_none h]
    have hm := gSMayNo (Γ := Γ) s hb h
    refine sh_start mixed F18 rfl ⟨(by first | exact rfl | (simp only [go_sem, seval]; done) | (simp only [go_sem, seval]; exact rfl)), (by first | exact rfl | (simp only [go_sem, seval]; done) | (simp only [go_sem, seval]; exact rfl)), (by first | exact rfl | (simp only [go_sem, seval]; done) | (simp only [go_sem, seval]; exact rfl)), (by first | exact rfl | (simp only [go_sem, seval]; done) | (simp only [go_sem, seval]; exact rfl)), (by first | exact rfl | (simp only [go_sem, seval]; done) | (simp only [go_sem, seval]; exact rfl))⟩ ?_
    repeat' (first | (with_reducible exact trivial) | simp (maxSteps := 2000000) (disch := omega) only [go_sem, seval] | ((with_reducible refine isS ?_); first | refine cS (gForms) ?_ | refine cS (hm) ?_ | fail) | ((with_reducible refine isT ?_); first | refine cT (gForms) ?_ | refine cT (hm) ?_ | fail) | ((with_reducible refine isE ?_); refine eA ?_; (repeat' (first | exact le_mq0 rfl | exact le_mq0r rfl | exact le_jk50 (by simp only [List.length_cons, List.length_append, mq_len, List.length_nil]) | refine le_mqr ?_ | refine le_mq ?_ | exact trivial | refine le_int ?_ | refine le_bool ?_ | refine le_str ?_ | refine le_sl ?_ | refine le_own ?_ | refine le_osl ?_ | refine le_nsl ?_ | exact rfl | refine ⟨?_, ?_⟩ | fail))) | ((with_reducible refine isI ?_ ?_); (kernel_rfl)) | fail)
  | some b =>
    have hm := gSMay (Γ := Γ) s hb h
    cases ho : okS s with
    | false =>
      rw [ho] at hm
      refine sh_start mixed F18 rfl ⟨(by first | exact rfl | (simp only [go_sem, seval]; done) | (simp only [go_sem, seval]; exact rfl)), (by first | exact rfl | (simp only [go_sem, seval]; done) | (simp only [go_sem, seval]; exact rfl)), (by first | exact rfl | (simp only [go_sem, seval]; done) | (simp only [go_sem, seval]; exact rfl)), (by first | exact rfl | (simp only [go_sem, seval]; done) | (simp only [go_sem, seval]; exact rfl)), (by first | exact rfl | (simp only [go_sem, seval]; done) | (simp only [go_sem, seval]; exact rfl))⟩ ?_
      repeat' (first | (with_reducible exact trivial) | simp (maxSteps := 2000000) (disch := omega) only [go_sem, seval] | ((with_reducible refine isS ?_); first | refine cS (gForms) ?_ | refine cS (hm) ?_ | fail) | ((with_reducible refine isT ?_); first | refine cT (gForms) ?_ | refine cT (hm) ?_ | fail) | ((with_reducible refine isE ?_); refine eA ?_; (repeat' (first | exact le_mq0 rfl | exact le_mq0r rfl | exact le_jk50 (by simp only [List.length_cons, List.length_append, mq_len, List.length_nil]) | refine le_mqr ?_ | refine le_mq ?_ | exact trivial | refine le_int ?_ | refine le_bool ?_ | refine le_str ?_ | refine le_sl ?_ | refine le_own ?_ | refine le_osl ?_ | refine le_nsl ?_ | exact rfl | refine ⟨?_, ?_⟩ | fail))) | ((with_reducible refine isI ?_ ?_); (kernel_rfl)) | fail)
    | true =>
      rw [ho] at hm
      refine sh_start mixed F18 rfl ⟨(by first | exact rfl | (simp only [go_sem, seval]; done) | (simp only [go_sem, seval]; exact rfl)), (by first | exact rfl | (simp only [go_sem, seval]; done) | (simp only [go_sem, seval]; exact rfl)), (by first | exact rfl | (simp only [go_sem, seval]; done) | (simp only [go_sem, seval]; exact rfl)), (by first | exact rfl | (simp only [go_sem, seval]; done) | (simp only [go_sem, seval]; exact rfl)), (by first | exact rfl | (simp only [go_sem, seval]; done) | (simp only [go_sem, seval]; exact rfl))⟩ ?_
      repeat' (first | (with_reducible exact trivial) | simp (maxSteps := 2000000) (disch := omega) only [go_sem, seval] | ((with_reducible refine isS ?_); first | refine cS (gForms) ?_ | refine cS (hm) ?_ | fail) | ((with_reducible refine isT ?_); first | refine cT (gForms) ?_ | refine cT (hm) ?_ | fail) | ((with_reducible refine isE ?_); refine eA ?_; (repeat' (first | exact le_mq0 rfl | exact le_mq0r rfl | exact le_jk50 (by simp only [List.length_cons, List.length_append, mq_len, List.length_nil]) | refine le_mqr ?_ | refine le_mq ?_ | exact trivial | refine le_int ?_ | refine le_bool ?_ | refine le_str ?_ | refine le_sl ?_ | refine le_own ?_ | refine le_osl ?_ | refine le_nsl ?_ | exact rfl | refine ⟨?_, ?_⟩ | fail))) | ((with_reducible refine isI ?_ ?_); (kernel_rfl)) | fail)
end Go.Proofs.YtlijecknkpcgfaaDoor
