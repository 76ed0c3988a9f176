/- Layer 16: stray answers, and what an answer changes. Own work. -/
import Derived.Test.YtccdnkekmpndiaaMj
namespace Go.Proofs.Ytccdnkekmpndiaa
open Go Go.Shade
variable {Γ : Globs}
theorem eqAk (a b : Asks) : eqAs (0 :: 0 :: 0 :: 0 :: 0 :: 0 :: 0 :: 0 :: 0 :: 0 :: 0 :: 0 :: 0 :: 0 :: 0 :: 0 :: 0 :: 0 :: 0 :: 0 :: 0 :: 0 :: 0 :: 0 :: 0 :: 0 :: 0 :: 0 :: 0 :: 0 :: 0 :: 0 :: 0 :: 0 :: 0 :: 0 :: 0 :: 0 :: 0 :: 0 :: 0 :: 0 :: 0 :: 0 :: 0 :: 0 :: 0 :: 0 :: 0 :: 0 :: 0 :: 0 :: 0 :: 0 :: 0 :: 0 :: 0 :: 0 :: 0 :: 0 :: 0 :: 0 :: 0 :: 0 :: 0 :: 0 :: 0 :: [1, 1, 0]) (.int .i64 a.asked :: .int .i64 a.has :: .int .i64 a.waits :: (mq a.fwd ++ (mq a.got ++ [.bool a.on, .bool a.gotOn, .int .i64 a.masks])))
    (.int .i64 b.asked :: .int .i64 b.has :: .int .i64 b.waits :: (mq b.fwd ++ (mq b.got ++ [.bool b.on, .bool b.gotOn, .int .i64 b.masks]))) = some (decide (a = b)) := by
  rw [eqAs_int, eqAs_int, eqAs_int, eqM, eqM, eqAs_bool, eqAs_bool, eqAs_int, eqAs_nil]
  simp only [Option.map_some, Option.some.injEq]
  rw [show decide (a = b) = decide (a.asked = b.asked ∧ a.has = b.has ∧ a.waits = b.waits ∧ a.fwd = b.fwd ∧ a.got = b.got ∧ a.on = b.on ∧ a.gotOn = b.gotOn ∧ a.masks = b.masks) from decide_eq_decide.2 asks_eq]
  simp [Bool.decide_and]
/-- What an answer does, whatever it is. -/
def answerT (a : Asks) (s : Sub) : Asks × Int := if mayS s then answerF a s else (a, 1)
theorem gAnswerT (a b : Asks) (s : Sub) (e : Int) (h : answerT a s = (b, e)) (hi : inA a) (hl : s.l.length ≤ 1000) : Good Try.prog Γ 17 [aA a, sA s] [] (.ret (.tup [aA b, .int .i64 e])) [] := by
  unfold answerT at h
  by_cases hs : mayS s
  · rw [if_pos hs] at h
    exact gAnswer a b s e h hi hs hl
  · rw [if_neg hs] at h
    cases h
    exact gAnswerNo a s hi hs hl
theorem mayS_kind {s : Sub} (h : mayS s) : (s.kind = 1 ∧ 0 ≤ s.mode ∧ s.mode < 32) ∨ s.kind = 2 ∨ s.kind = 3 := by
  rcases h.2 with ⟨h1, h2, h3⟩ | ⟨h1, _⟩ | ⟨h1, _⟩
  · exact .inl ⟨h1, h2, by omega⟩
  · exact .inr (.inl h1)
  · exact .inr (.inr h1)
/-- Just which answers change something. -/
theorem answer_cases {a b : Asks} {s : Sub} {e : Int} (h : answerT a s = (b, e)) : (e ≠ 0 ∧ 0 < e ∧ e ≤ 5 ∧ b = a) ∨
    (e = 0 ∧ mayA a ∧ s.kind = 1 ∧ 0 ≤ s.mode ∧ s.mode < 32 ∧ ¬ s.mode / 4 % 2 = 0 ∧ 0 < a.waits ∧ b = { a with waits := a.waits - 1, has := s.mode - 4 }) ∨
    (e = 0 ∧ mayA a ∧ s.kind = 2 ∧ ¬ a.masks = 0 ∧ ∃ w, b = gotF a w) := by
  unfold answerT at h
  split at h
  · rename_i hs
    unfold answerF at h
    split at h
    · rename_i ha
      split at h
      · rename_i hc
        cases h
        rcases mayS_kind hs with ⟨_, k1, k2⟩ | k | k
        · exact .inr (.inl ⟨rfl, ha, hc.1, k1, k2, hc.2.1, hc.2.2, rfl⟩)
        · have := hc.1; omega
        · have := hc.1; omega
      · split at h
        · rename_i hc
          cases h
          exact .inr (.inr ⟨rfl, ha, hc.1, hc.2.2, _, rfl⟩)
        · cases h
          exact .inl ⟨by omega, by omega, by omega, rfl⟩
    · cases h
      exact .inl ⟨by omega, by omega, by omega, rfl⟩
  · cases h
    exact .inl ⟨by omega, by omega, by omega, rfl⟩
theorem and27 {n : Int} (h0 : 0 ≤ n) (h1 : n < 32) (h : ¬ (n / 4 % 2 = 0)) : and64 n 27 = n - 4 := all32 (p := fun n => ¬ (n / 4 % 2 = 0) → and64 n 27 = n - 4) (by decide +kernel) h0 h1 h
theorem bits_sub {n : Int} (h0 : 0 ≤ n) (h1 : n < 32) (h : ¬ (n / 4 % 2 = 0)) : isBits (n - 4) := all32 (p := fun n => ¬ (n / 4 % 2 = 0) → isBits (n - 4)) (by decide +kernel) h0 h1 h
set_option maxRecDepth 8000 in
set_option maxHeartbeats 16000000 in
theorem gHad (a : Asks) (s : Sub) (hi : inA a) : Good Try.prog Γ 5 [aA a, sA s] [] (.ret (.bool true)) [] := by
  refine sh_start mixed F5 rfl ⟨(by first | exact rfl | (simp only [go_sem, seval]; done) | (simp only [go_sem, seval]; exact rfl)), (by first | exact rfl | (simp only [go_sem, seval]; done) | (simp only [go_sem, seval]; exact rfl)), (by first | exact rfl | (simp only [go_sem, seval]; done) | (simp only [go_sem, seval]; exact rfl)), (by first | exact rfl | (simp only [go_sem, seval]; done) | (simp only [go_sem, seval]; exact rfl)), (by first | exact rfl | (simp only [go_sem, seval]; done) | (simp only [go_sem, seval]; exact rfl))⟩ ?_
  have hl : (cut180 s).l.length ≤ 1000 := by simp only [cut180, List.length_take]; omega
  have hone := gOne (Γ := Γ) s
  generalize cut180 s = c at hl hone
  rcases he : answerT a c with ⟨b, e⟩
  have hans := gAnswerT (Γ := Γ) a b c e he hi hl
  rcases answer_cases he with ⟨h0, h1, h2, rfl⟩ | ⟨rfl, ha, hk, k0, k1, k2, hw, rfl⟩ | ⟨rfl, ha, hk, hm, w, rfl⟩
  · repeat' (first | (with_reducible exact trivial) | simp (maxSteps := 2000000) (disch := omega) only [eqAk, h0, decide_true, decide_false, go_sem, seval] | ((with_reducible refine isS ?_); first | refine sh_call (hone) [] (by (repeat' (first | exact le_mq0 rfl | exact le_mq0r rfl | refine le_mqr ?_ | refine le_mq ?_ | exact rfl | exact trivial | exact le_nbys | refine ⟨?_, ?_⟩ | fail)); first | done | fail) trivial rfl (by (repeat' (first | exact trivial | exact .inr rfl | exact .inl rfl | refine ⟨?_, ?_⟩ | fail)); first | done | fail) ?_ | refine sh_call (hans) [] (by (repeat' (first | exact le_mq0 rfl | exact le_mq0r rfl | refine le_mqr ?_ | refine le_mq ?_ | exact rfl | exact trivial | exact le_nbys | refine ⟨?_, ?_⟩ | fail)); first | done | fail) trivial rfl (by (repeat' (first | exact trivial | exact .inr rfl | exact .inl rfl | refine ⟨?_, ?_⟩ | fail)); first | done | fail) ?_ | refine sh_call (gAwake) [] (by (repeat' (first | exact le_mq0 rfl | exact le_mq0r rfl | refine le_mqr ?_ | refine le_mq ?_ | exact rfl | exact trivial | exact le_nbys | refine ⟨?_, ?_⟩ | fail)); first | done | fail) trivial rfl (by (repeat' (first | exact trivial | exact .inr rfl | exact .inl rfl | refine ⟨?_, ?_⟩ | fail)); first | done | fail) ?_ | fail) | ((with_reducible refine isE ?_); refine endA (by first | exact rfl | (simp only [go_sem, seval]; exact rfl) | (simp only [go_sem, seval]; done)) ?_ (by (repeat' (first | exact trivial | exact rfl | refine ⟨_, rfl, ?_⟩ | refine ⟨?_, ?_⟩ | fail)); first | done | fail) rfl rfl; (repeat' (first | exact le_mq0 rfl | exact le_mq0r rfl | refine le_mqr ?_ | refine le_mq ?_ | exact trivial | refine le_int ?_ | refine le_bool ?_ | refine le_str ?_ | refine le_sl ?_ | refine le_own ?_ | refine le_osl ?_ | refine le_nsl ?_ | exact rfl | refine ⟨?_, ?_⟩ | fail))) | ((with_reducible refine isI ?_ ?_); (kernel_rfl)) | fail)
  · obtain ⟨w1, w2⟩ := id ha.2.2.1
    obtain ⟨w3, w4⟩ := id ha.2.2.2.1
    have h27 := and27 k0 k1 k2
    obtain ⟨kd, md, v, m, l⟩ := c
    simp only at hk h27 hone hans k0 k1 k2
    subst hk
    obtain ⟨ak, hh, ws, f, g, o, go, ms⟩ := a
    simp only at w1 w2 w3 w4 hans hw
    have e1 : ws - 1 + ms = ws + ms - 1 := by omega
    repeat' (first | (with_reducible exact trivial) | simp (maxSteps := 2000000) (disch := omega) only [h27, e1, decide_true, go_sem, seval] | ((with_reducible refine isS ?_); first | refine sh_call (hone) [] (by (repeat' (first | exact le_mq0 rfl | exact le_mq0r rfl | refine le_mqr ?_ | refine le_mq ?_ | exact rfl | exact trivial | exact le_nbys | refine ⟨?_, ?_⟩ | fail)); first | done | fail) trivial rfl (by (repeat' (first | exact trivial | exact .inr rfl | exact .inl rfl | refine ⟨?_, ?_⟩ | fail)); first | done | fail) ?_ | refine sh_call (hans) [] (by (repeat' (first | exact le_mq0 rfl | exact le_mq0r rfl | refine le_mqr ?_ | refine le_mq ?_ | exact rfl | exact trivial | exact le_nbys | refine ⟨?_, ?_⟩ | fail)); first | done | fail) trivial rfl (by (repeat' (first | exact trivial | exact .inr rfl | exact .inl rfl | refine ⟨?_, ?_⟩ | fail)); first | done | fail) ?_ | refine sh_call (gAwake) [] (by (repeat' (first | exact le_mq0 rfl | exact le_mq0r rfl | refine le_mqr ?_ | refine le_mq ?_ | exact rfl | exact trivial | exact le_nbys | refine ⟨?_, ?_⟩ | fail)); first | done | fail) trivial rfl (by (repeat' (first | exact trivial | exact .inr rfl | exact .inl rfl | refine ⟨?_, ?_⟩ | fail)); first | done | fail) ?_ | fail) | ((with_reducible refine isE ?_); refine endA (by first | exact rfl | (simp only [go_sem, seval]; exact rfl) | (simp only [go_sem, seval]; done)) ?_ (by (repeat' (first | exact trivial | exact rfl | refine ⟨_, rfl, ?_⟩ | refine ⟨?_, ?_⟩ | fail)); first | done | fail) rfl rfl; (repeat' (first | exact le_mq0 rfl | exact le_mq0r rfl | refine le_mqr ?_ | refine le_mq ?_ | exact trivial | refine le_int ?_ | refine le_bool ?_ | refine le_str ?_ | refine le_sl ?_ | refine le_own ?_ | refine le_osl ?_ | refine le_nsl ?_ | exact rfl | refine ⟨?_, ?_⟩ | fail))) | ((with_reducible refine isI ?_ ?_); (kernel_rfl)) | fail)
  · obtain ⟨w1, w2⟩ := id ha.2.2.1
    obtain ⟨w3, w4⟩ := id ha.2.2.2.1
    obtain ⟨kd, md, v, m, l⟩ := c
    simp only at hk hone hans
    subst hk
    obtain ⟨ak, hh, ws, f, g, o, go, ms⟩ := a
    simp only at w1 w2 w3 w4 hm
    unfold gotF at hans
    simp only at hans
    by_cases hm1 : ms = 1
    · subst hm1
      rw [if_pos rfl] at hans
      repeat' (first | (with_reducible exact trivial) | simp (maxSteps := 2000000) (disch := omega) only [Int.add_zero, Int.add_sub_cancel, decide_true, decide_false, go_sem, seval] | ((with_reducible refine isS ?_); first | refine sh_call (hone) [] (by (repeat' (first | exact le_mq0 rfl | exact le_mq0r rfl | refine le_mqr ?_ | refine le_mq ?_ | exact rfl | exact trivial | exact le_nbys | refine ⟨?_, ?_⟩ | fail)); first | done | fail) trivial rfl (by (repeat' (first | exact trivial | exact .inr rfl | exact .inl rfl | refine ⟨?_, ?_⟩ | fail)); first | done | fail) ?_ | refine sh_call (hans) [] (by (repeat' (first | exact le_mq0 rfl | exact le_mq0r rfl | refine le_mqr ?_ | refine le_mq ?_ | exact rfl | exact trivial | exact le_nbys | refine ⟨?_, ?_⟩ | fail)); first | done | fail) trivial rfl (by (repeat' (first | exact trivial | exact .inr rfl | exact .inl rfl | refine ⟨?_, ?_⟩ | fail)); first | done | fail) ?_ | refine sh_call (gAwake) [] (by (repeat' (first | exact le_mq0 rfl | exact le_mq0r rfl | refine le_mqr ?_ | refine le_mq ?_ | exact rfl | exact trivial | exact le_nbys | refine ⟨?_, ?_⟩ | fail)); first | done | fail) trivial rfl (by (repeat' (first | exact trivial | exact .inr rfl | exact .inl rfl | refine ⟨?_, ?_⟩ | fail)); first | done | fail) ?_ | fail) | ((with_reducible refine isE ?_); refine endA (by first | exact rfl | (simp only [go_sem, seval]; exact rfl) | (simp only [go_sem, seval]; done)) ?_ (by (repeat' (first | exact trivial | exact rfl | refine ⟨_, rfl, ?_⟩ | refine ⟨?_, ?_⟩ | fail)); first | done | fail) rfl rfl; (repeat' (first | exact le_mq0 rfl | exact le_mq0r rfl | refine le_mqr ?_ | refine le_mq ?_ | exact trivial | refine le_int ?_ | refine le_bool ?_ | refine le_str ?_ | refine le_sl ?_ | refine le_own ?_ | refine le_osl ?_ | refine le_nsl ?_ | exact rfl | refine ⟨?_, ?_⟩ | fail))) | ((with_reducible refine isI ?_ ?_); (kernel_rfl)) | fail)
    · rw [if_neg hm1] at hans
      have e1 : ws + (ms - 1) = ws + ms - 1 := by omega
      have e2 : ¬ ms - 1 = 0 := by omega
      repeat' (first | (with_reducible exact trivial) | simp (maxSteps := 2000000) (disch := omega) only [e1, e2, decide_true, decide_false, go_sem, seval] | ((with_reducible refine isS ?_); first | refine sh_call (hone) [] (by (repeat' (first | exact le_mq0 rfl | exact le_mq0r rfl | refine le_mqr ?_ | refine le_mq ?_ | exact rfl | exact trivial | exact le_nbys | refine ⟨?_, ?_⟩ | fail)); first | done | fail) trivial rfl (by (repeat' (first | exact trivial | exact .inr rfl | exact .inl rfl | refine ⟨?_, ?_⟩ | fail)); first | done | fail) ?_ | refine sh_call (hans) [] (by (repeat' (first | exact le_mq0 rfl | exact le_mq0r rfl | refine le_mqr ?_ | refine le_mq ?_ | exact rfl | exact trivial | exact le_nbys | refine ⟨?_, ?_⟩ | fail)); first | done | fail) trivial rfl (by (repeat' (first | exact trivial | exact .inr rfl | exact .inl rfl | refine ⟨?_, ?_⟩ | fail)); first | done | fail) ?_ | refine sh_call (gAwake) [] (by (repeat' (first | exact le_mq0 rfl | exact le_mq0r rfl | refine le_mqr ?_ | refine le_mq ?_ | exact rfl | exact trivial | exact le_nbys | refine ⟨?_, ?_⟩ | fail)); first | done | fail) trivial rfl (by (repeat' (first | exact trivial | exact .inr rfl | exact .inl rfl | refine ⟨?_, ?_⟩ | fail)); first | done | fail) ?_ | fail) | ((with_reducible refine isE ?_); refine endA (by first | exact rfl | (simp only [go_sem, seval]; exact rfl) | (simp only [go_sem, seval]; done)) ?_ (by (repeat' (first | exact trivial | exact rfl | refine ⟨_, rfl, ?_⟩ | refine ⟨?_, ?_⟩ | fail)); first | done | fail) rfl rfl; (repeat' (first | exact le_mq0 rfl | exact le_mq0r rfl | refine le_mqr ?_ | refine le_mq ?_ | exact trivial | refine le_int ?_ | refine le_bool ?_ | refine le_str ?_ | refine le_sl ?_ | refine le_own ?_ | refine le_osl ?_ | refine le_nsl ?_ | exact rfl | refine ⟨?_, ?_⟩ | fail))) | ((with_reducible refine isI ?_ ?_); (kernel_rfl)) | fail)
/-- What is taken, whatever it is. -/
def takeT (r : Rules) (s : Sub) : Rules × List Sub × Int := if mayR r ∧ mayS s then takeF r s else (r, [], 1)
theorem gTakeT (r q : Rules) (s : Sub) (e : Int) (t : List Sub) (h : takeT r s = (q, t, e)) (hi : in64 r.mode) (hl : s.l.length ≤ 1000) :
    Good Try.prog Γ 10 [rA r, sA s] [] (.ret (.tup [rA q, .sl 36 (t.map sN), .int .i64 e])) [] := by
  unfold takeT at h
  by_cases hs : mayR r ∧ mayS s
  · rw [if_pos hs] at h
    exact gTake r q s e t h hi hs.1 hs.2 hl
  · rw [if_neg hs] at h
    cases h
    exact gTakeNo r s hi hs hl
theorem mayW (v : Int) (h0 : 251 ≤ v) (h1 : v ≤ 254) : mayS (fwdS v .zero) := (mayS_iff _).2 (.inr (.inl ⟨rfl, rfl, h0, h1, .inr rfl, rfl⟩))
/-- What comes of what is taken. -/
theorem take_cases {r q : Rules} {s : Sub} {t : List Sub} {e : Int} (h : takeT r s = (q, t, e)) : (e ≠ 0 ∧ 0 < e ∧ e ≤ 5 ∧ q = r ∧ t = []) ∨
    (e = 0 ∧ mayR r ∧ mayR q ∧ q.may = r.may ∧ in64 q.mode ∧ ∃ x, t = [x] ∧ mayS x ∧ x.kind = s.kind ∧ x.l = []) := by
  unfold takeT at h
  split at h
  · rename_i hs
    have hk := mayS_kind hs.2
    unfold takeF at h
    split at h
    · rename_i hc
      cases h
      rcases hk with ⟨_, k1, k2⟩ | k | k
      · exact .inr ⟨rfl, hs.1, ⟨⟨k1, k2, hc.2⟩, hs.1.2⟩, rfl, ⟨by show _ ≤ s.mode; omega, by show s.mode ≤ _; omega⟩, _, rfl, mayM _ (by omega) (by omega), hc.1.symm, rfl⟩
      · have := hc.1; omega
      · have := hc.1; omega
    · split at h
      · rename_i hc
        cases h
        have hb := hs.1.1
        exact .inr ⟨rfl, hs.1, ⟨hs.1.1, by simp⟩, rfl, ⟨by have := hb.1; show _ ≤ r.mode; omega, by have := hb.2.1; show r.mode ≤ _; omega⟩, _, rfl, mayW _ (by omega) (by omega), hc.1.symm, rfl⟩
      · split at h
        · rename_i hc
          cases h
          have hb := hs.1.1
          exact .inr ⟨rfl, hs.1, ⟨hs.1.1, by simp⟩, rfl, ⟨by have := hb.1; show _ ≤ r.mode; omega, by have := hb.2.1; show r.mode ≤ _; omega⟩, _, rfl, mayW _ (by omega) (by omega), hc.1.symm, rfl⟩
        · cases h
          exact .inl ⟨by omega, by omega, by omega, rfl, rfl⟩
  · cases h
    exact .inl ⟨by omega, by omega, by omega, rfl, rfl⟩
/-- Asks stay such as may be. -/
theorem answer_may {a b : Asks} {s : Sub} {e : Int} (h : answerT a s = (b, e)) (ha : mayA a) : mayA b ∧ inA b := by
  have key : mayA b := by
    rcases answer_cases h with ⟨_, _, _, rfl⟩ | ⟨_, _, hk, k0, k1, k2, hw, rfl⟩ | ⟨_, _, hk, hm, w, rfl⟩
    · exact ha
    · obtain ⟨h1, h2, h3, h4, h5, h6⟩ := ha
      exact ⟨h1, bits_sub k0 k1 k2, by simp only; omega, h4, h5, h6⟩
    · obtain ⟨h1, h2, h3, h4, h5, h6⟩ := ha
      unfold gotF
      split
      · refine ⟨h1, h2, h3, by simp only; omega, h5, ?_⟩
        simp only
        cases h : (w && a.on) <;> simp
      · exact ⟨h1, h2, h3, by simp only; omega, h5, h6⟩
  refine ⟨key, ?_⟩
  obtain ⟨h1, h2, h3, h4, _⟩ := key
  have := h1.1; have := h1.2.1; have := h2.1; have := h2.2.1
  exact ⟨⟨by omega, by omega⟩, ⟨by omega, by omega⟩, ⟨by omega, by omega⟩, ⟨by omega, by omega⟩⟩
end Go.Proofs.Ytccdnkekmpndiaa
