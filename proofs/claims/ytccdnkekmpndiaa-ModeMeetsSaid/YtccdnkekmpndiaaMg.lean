/- Layers 11 and 16: what the document's own functions come to. Own work. -/
import Derived.Test.YtccdnkekmpndiaaMf
namespace Go.Proofs.Ytccdnkekmpndiaa
open Go Go.Shade
variable {Γ : Globs}
instance (s : Sub) : Decidable (mayS s) := inferInstanceAs (Decidable (_ ∧ _))
theorem mayS_iff (s : Sub) : mayS s ↔ (s.kind = 1 ∧ 0 ≤ s.mode ∧ s.mode ≤ 31 ∧ s.verb = 0 ∧ s.m = .zero ∧ s.l = []) ∨ (s.kind = 2 ∧ s.mode = 0 ∧ 251 ≤ s.verb ∧ s.verb ≤ 254 ∧ (s.verb = 253 ∨ s.m = .zero) ∧ s.l = []) ∨
    (s.kind = 3 ∧ s.mode = 0 ∧ s.verb = 0 ∧ s.m = .zero ∧ s.l.length ≤ 170 ∧ ∀ t ∈ s.l, mayT t) := by
  obtain ⟨kd, md, v, m, l⟩ := s
  unfold mayS
  simp only
  constructor
  · rintro ⟨hp, ⟨rfl, h1, h2⟩ | ⟨rfl, h1, h2⟩ | ⟨rfl, h1, h2⟩⟩
    · rw [sub_eq] at hp
      simp only [parts, if_true] at hp
      obtain ⟨_, _, h3, h4, h5⟩ := hp
      exact .inl ⟨rfl, h1, h2, h3, h4, h5⟩
    · rw [sub_eq] at hp
      simp only [parts] at hp
      rw [if_neg (show ¬ (2 : Int) = 1 by decide), if_pos trivial] at hp
      simp only at hp
      obtain ⟨_, h3, _, h4, h5⟩ := hp
      refine .inr (.inl ⟨rfl, h3, h1, h2, ?_, h5⟩)
      by_cases hv : v = 253
      · exact .inl hv
      · rw [if_neg hv] at h4; exact .inr h4
    · rw [sub_eq] at hp
      simp only [parts] at hp
      rw [if_neg (show ¬ (3 : Int) = 1 by decide), if_neg (show ¬ (3 : Int) = 2 by decide), if_pos trivial] at hp
      simp only at hp
      obtain ⟨_, h3, h4, h5, _⟩ := hp
      exact .inr (.inr ⟨rfl, h3, h4, h5, h2, h1⟩)
  · rintro (⟨rfl, h1, h2, rfl, rfl, rfl⟩ | ⟨rfl, rfl, h1, h2, h3, rfl⟩ | ⟨rfl, rfl, rfl, rfl, h1, h2⟩)
    · exact ⟨rfl, .inl ⟨rfl, h1, h2⟩⟩
    · refine ⟨?_, .inr (.inl ⟨rfl, h1, h2⟩)⟩
      rw [sub_eq]
      simp only [parts]
      rw [if_neg (show ¬ (2 : Int) = 1 by decide), if_pos trivial]
      refine ⟨rfl, rfl, rfl, ?_, rfl⟩
      rcases h3 with h | h
      · rw [if_pos h]
      · split
        · rfl
        · exact h
    · exact ⟨rfl, .inr (.inr ⟨rfl, h2, h1⟩)⟩
set_option maxRecDepth 8000 in
set_option maxHeartbeats 16000000 in
theorem gRMayS (s : Sub) (hl : s.l.length ≤ 1000) : Good Try.prog Γ 13 [sA s] [] (.ret (.bool (decide (mayS s)))) [] := by
  refine sh_start mixed F13 rfl ⟨(by first | exact rfl | (simp only [go_sem, seval]; done) | (simp only [go_sem, seval]; exact rfl)), (by first | exact rfl | (simp only [go_sem, seval]; done) | (simp only [go_sem, seval]; exact rfl)), (by first | exact rfl | (simp only [go_sem, seval]; done) | (simp only [go_sem, seval]; exact rfl)), (by first | exact rfl | (simp only [go_sem, seval]; done) | (simp only [go_sem, seval]; exact rfl)), (by first | exact rfl | (simp only [go_sem, seval]; done) | (simp only [go_sem, seval]; exact rfl))⟩ ?_
  have hi := mayS_iff s
  obtain ⟨kd, md, v, m, l⟩ := s
  simp only at hi hl
  by_cases h1 : kd = 1
  · subst h1
    by_cases c1 : 0 ≤ md <;> by_cases c2 : md ≤ 31 <;> by_cases c3 : v = 0 <;> by_cases c4 : m = .zero <;> by_cases c5 : l = []
    all_goals
      have c5' : ((l.length : Int) = 0) ↔ l = [] := by rw [← List.length_eq_zero_iff]; omega
      first
        | (have : mayS ⟨1, md, v, m, l⟩ := hi.2 (.inl ⟨rfl, c1, c2, c3, c4, c5⟩)
           rw [decide_eq_true this]
           repeat' (first | (with_reducible exact trivial) | simp (maxSteps := 2000000) (disch := omega) only [c1, c2, c3, c4, c5, go_sem, seval] | ((with_reducible refine isE ?_); refine endA (by first | exact rfl | (simp only [go_sem, seval]; exact rfl) | (simp only [go_sem, seval]; done)) ?_ (by (repeat' (first | exact trivial | exact rfl | refine ⟨_, rfl, ?_⟩ | refine ⟨?_, ?_⟩ | fail)); first | done | fail) rfl rfl; (repeat' (first | exact le_mq0 rfl | exact le_mq0r rfl | refine le_mqr ?_ | refine le_mq ?_ | exact trivial | refine le_int ?_ | refine le_bool ?_ | refine le_str ?_ | refine le_sl ?_ | refine le_own ?_ | refine le_osl ?_ | refine le_nsl ?_ | exact rfl | refine ⟨?_, ?_⟩ | fail))) | ((with_reducible refine isI ?_ ?_); (kernel_rfl)) | fail)
           done)
        | (have : ¬ mayS ⟨1, md, v, m, l⟩ := fun k => by
             rcases hi.1 k with ⟨_, k1, k2, k3, k4, k5⟩ | ⟨k, _⟩ | ⟨k, _⟩
             · first | exact c1 k1 | exact c2 k2 | exact c3 k3 | exact c4 k4 | exact c5 k5
             · omega
             · omega
           rw [decide_eq_false this]
           repeat' (first | (with_reducible exact trivial) | simp (maxSteps := 2000000) (disch := omega) only [List.length_map, c1, c2, c3, c4, c5', c5, go_sem, seval] | ((with_reducible refine isE ?_); refine endA (by first | exact rfl | (simp only [go_sem, seval]; exact rfl) | (simp only [go_sem, seval]; done)) ?_ (by (repeat' (first | exact trivial | exact rfl | refine ⟨_, rfl, ?_⟩ | refine ⟨?_, ?_⟩ | fail)); first | done | fail) rfl rfl; (repeat' (first | exact le_mq0 rfl | exact le_mq0r rfl | refine le_mqr ?_ | refine le_mq ?_ | exact trivial | refine le_int ?_ | refine le_bool ?_ | refine le_str ?_ | refine le_sl ?_ | refine le_own ?_ | refine le_osl ?_ | refine le_nsl ?_ | exact rfl | refine ⟨?_, ?_⟩ | fail))) | ((with_reducible refine isI ?_ ?_); (kernel_rfl)) | fail)
           done)
        | (exfalso; omega)
  · by_cases h2 : kd = 2
    · subst h2
      by_cases c1 : md = 0 <;> by_cases c2 : 251 ≤ v <;> by_cases c2' : v ≤ 254 <;> by_cases c3 : v = 253 <;> by_cases c4 : m = .zero <;> by_cases c5 : l = []
      all_goals
        have c5' : ((l.length : Int) = 0) ↔ l = [] := by rw [← List.length_eq_zero_iff]; omega
        first
          | (have : mayS ⟨2, md, v, m, l⟩ := hi.2 (.inr (.inl ⟨rfl, c1, c2, c2', (by first | exact .inl c3 | exact .inr c4), c5⟩))
             rw [decide_eq_true this]
             repeat' (first | (with_reducible exact trivial) | simp (maxSteps := 2000000) (disch := omega) only [c1, c2, c2', c3, c4, c5, go_sem, seval] | ((with_reducible refine isE ?_); refine endA (by first | exact rfl | (simp only [go_sem, seval]; exact rfl) | (simp only [go_sem, seval]; done)) ?_ (by (repeat' (first | exact trivial | exact rfl | refine ⟨_, rfl, ?_⟩ | refine ⟨?_, ?_⟩ | fail)); first | done | fail) rfl rfl; (repeat' (first | exact le_mq0 rfl | exact le_mq0r rfl | refine le_mqr ?_ | refine le_mq ?_ | exact trivial | refine le_int ?_ | refine le_bool ?_ | refine le_str ?_ | refine le_sl ?_ | refine le_own ?_ | refine le_osl ?_ | refine le_nsl ?_ | exact rfl | refine ⟨?_, ?_⟩ | fail))) | ((with_reducible refine isI ?_ ?_); (kernel_rfl)) | fail)
             done)
          | (have : ¬ mayS ⟨2, md, v, m, l⟩ := fun k => by
               rcases hi.1 k with ⟨k, _⟩ | ⟨_, k1, k2, k3, k4, k5⟩ | ⟨k, _⟩
               · omega
               · first | exact c1 k1 | exact c2 k2 | exact c2' k3 | exact k4.elim c3 c4 | exact c5 k5
               · omega
             rw [decide_eq_false this]
             repeat' (first | (with_reducible exact trivial) | simp (maxSteps := 2000000) (disch := omega) only [List.length_map, c1, c2, c2', c3, c4, c5', c5, go_sem, seval] | ((with_reducible refine isE ?_); refine endA (by first | exact rfl | (simp only [go_sem, seval]; exact rfl) | (simp only [go_sem, seval]; done)) ?_ (by (repeat' (first | exact trivial | exact rfl | refine ⟨_, rfl, ?_⟩ | refine ⟨?_, ?_⟩ | fail)); first | done | fail) rfl rfl; (repeat' (first | exact le_mq0 rfl | exact le_mq0r rfl | refine le_mqr ?_ | refine le_mq ?_ | exact trivial | refine le_int ?_ | refine le_bool ?_ | refine le_str ?_ | refine le_sl ?_ | refine le_own ?_ | refine le_osl ?_ | refine le_nsl ?_ | exact rfl | refine ⟨?_, ?_⟩ | fail))) | ((with_reducible refine isI ?_ ?_); (kernel_rfl)) | fail)
             done)
          | (exfalso; omega)
    · by_cases h3 : kd = 3
      · subst h3
        have no : (¬ md = 0 ∨ ¬ v = 0 ∨ ¬ m = .zero ∨ ¬ l.length ≤ 170 ∨ ¬ ∀ t ∈ l, mayT t) → ¬ mayS ⟨3, md, v, m, l⟩ := fun h k => by
          rcases hi.1 k with ⟨k, _⟩ | ⟨k, _⟩ | ⟨_, k1, k2, k3, k4, k5⟩
          · omega
          · omega
          · rcases h with h | h | h | h | h
            · exact h k1
            · exact h k2
            · exact h k3
            · exact h k4
            · exact h k5
        by_cases c1 : md = 0
        · by_cases c3 : v = 0
          · by_cases c4 : m = .zero
            · by_cases c5 : l.length ≤ 170
              · by_cases c6 : ∀ t ∈ l, mayT t
                · rw [decide_eq_true (hi.2 (.inr (.inr ⟨rfl, c1, c3, c4, c5, c6⟩)))]
                  repeat' (first | (with_reducible exact trivial) | simp (maxSteps := 2000000) (disch := omega) only [List.length_map, c1, c3, c4, go_sem, seval] | ((with_reducible refine isS ?_); first | refine sh_call (gRPutOk l c6 (by omega)) [] (by (repeat' (first | exact le_mq0 rfl | exact le_mq0r rfl | refine le_mqr ?_ | refine le_mq ?_ | exact rfl | exact trivial | exact le_nbys | refine ⟨?_, ?_⟩ | fail)); first | done | fail) trivial rfl (by (repeat' (first | exact trivial | exact .inr rfl | exact .inl rfl | refine ⟨?_, ?_⟩ | fail)); first | done | fail) ?_ | fail) | ((with_reducible refine isE ?_); refine endA (by first | exact rfl | (simp only [go_sem, seval]; exact rfl) | (simp only [go_sem, seval]; done)) ?_ (by (repeat' (first | exact trivial | exact rfl | refine ⟨_, rfl, ?_⟩ | refine ⟨?_, ?_⟩ | fail)); first | done | fail) rfl rfl; (repeat' (first | exact le_mq0 rfl | exact le_mq0r rfl | refine le_mqr ?_ | refine le_mq ?_ | exact trivial | refine le_int ?_ | refine le_bool ?_ | refine le_str ?_ | refine le_sl ?_ | refine le_own ?_ | refine le_osl ?_ | refine le_nsl ?_ | exact rfl | refine ⟨?_, ?_⟩ | fail))) | ((with_reducible refine isI ?_ ?_); (kernel_rfl)) | fail)
                · rw [decide_eq_false (no (.inr (.inr (.inr (.inr c6)))))]
                  repeat' (first | (with_reducible exact trivial) | simp (maxSteps := 2000000) (disch := omega) only [List.length_map, c1, c3, c4, go_sem, seval] | ((with_reducible refine isS ?_); first | refine sh_call (gRPutNo l c6 (by omega)) [] (by (repeat' (first | exact le_mq0 rfl | exact le_mq0r rfl | refine le_mqr ?_ | refine le_mq ?_ | exact rfl | exact trivial | exact le_nbys | refine ⟨?_, ?_⟩ | fail)); first | done | fail) trivial rfl (by (repeat' (first | exact trivial | exact .inr rfl | exact .inl rfl | refine ⟨?_, ?_⟩ | fail)); first | done | fail) ?_ | fail) | ((with_reducible refine isE ?_); refine endA (by first | exact rfl | (simp only [go_sem, seval]; exact rfl) | (simp only [go_sem, seval]; done)) ?_ (by (repeat' (first | exact trivial | exact rfl | refine ⟨_, rfl, ?_⟩ | refine ⟨?_, ?_⟩ | fail)); first | done | fail) rfl rfl; (repeat' (first | exact le_mq0 rfl | exact le_mq0r rfl | refine le_mqr ?_ | refine le_mq ?_ | exact trivial | refine le_int ?_ | refine le_bool ?_ | refine le_str ?_ | refine le_sl ?_ | refine le_own ?_ | refine le_osl ?_ | refine le_nsl ?_ | exact rfl | refine ⟨?_, ?_⟩ | fail))) | ((with_reducible refine isI ?_ ?_); (kernel_rfl)) | fail)
              · rw [decide_eq_false (no (.inr (.inr (.inr (.inl c5)))))]
                repeat' (first | (with_reducible exact trivial) | simp (maxSteps := 2000000) (disch := omega) only [List.length_map, c1, c3, c4, go_sem, seval] | ((with_reducible refine isE ?_); refine endA (by first | exact rfl | (simp only [go_sem, seval]; exact rfl) | (simp only [go_sem, seval]; done)) ?_ (by (repeat' (first | exact trivial | exact rfl | refine ⟨_, rfl, ?_⟩ | refine ⟨?_, ?_⟩ | fail)); first | done | fail) rfl rfl; (repeat' (first | exact le_mq0 rfl | exact le_mq0r rfl | refine le_mqr ?_ | refine le_mq ?_ | exact trivial | refine le_int ?_ | refine le_bool ?_ | refine le_str ?_ | refine le_sl ?_ | refine le_own ?_ | refine le_osl ?_ | refine le_nsl ?_ | exact rfl | refine ⟨?_, ?_⟩ | fail))) | ((with_reducible refine isI ?_ ?_); (kernel_rfl)) | fail)
            · rw [decide_eq_false (no (.inr (.inr (.inl c4))))]
              repeat' (first | (with_reducible exact trivial) | simp (maxSteps := 2000000) (disch := omega) only [c1, c3, c4, go_sem, seval] | ((with_reducible refine isE ?_); refine endA (by first | exact rfl | (simp only [go_sem, seval]; exact rfl) | (simp only [go_sem, seval]; done)) ?_ (by (repeat' (first | exact trivial | exact rfl | refine ⟨_, rfl, ?_⟩ | refine ⟨?_, ?_⟩ | fail)); first | done | fail) rfl rfl; (repeat' (first | exact le_mq0 rfl | exact le_mq0r rfl | refine le_mqr ?_ | refine le_mq ?_ | exact trivial | refine le_int ?_ | refine le_bool ?_ | refine le_str ?_ | refine le_sl ?_ | refine le_own ?_ | refine le_osl ?_ | refine le_nsl ?_ | exact rfl | refine ⟨?_, ?_⟩ | fail))) | ((with_reducible refine isI ?_ ?_); (kernel_rfl)) | fail)
          · rw [decide_eq_false (no (.inr (.inl c3)))]
            repeat' (first | (with_reducible exact trivial) | simp (maxSteps := 2000000) (disch := omega) only [c1, c3, go_sem, seval] | ((with_reducible refine isE ?_); refine endA (by first | exact rfl | (simp only [go_sem, seval]; exact rfl) | (simp only [go_sem, seval]; done)) ?_ (by (repeat' (first | exact trivial | exact rfl | refine ⟨_, rfl, ?_⟩ | refine ⟨?_, ?_⟩ | fail)); first | done | fail) rfl rfl; (repeat' (first | exact le_mq0 rfl | exact le_mq0r rfl | refine le_mqr ?_ | refine le_mq ?_ | exact trivial | refine le_int ?_ | refine le_bool ?_ | refine le_str ?_ | refine le_sl ?_ | refine le_own ?_ | refine le_osl ?_ | refine le_nsl ?_ | exact rfl | refine ⟨?_, ?_⟩ | fail))) | ((with_reducible refine isI ?_ ?_); (kernel_rfl)) | fail)
        · rw [decide_eq_false (no (.inl c1))]
          repeat' (first | (with_reducible exact trivial) | simp (maxSteps := 2000000) (disch := omega) only [c1, go_sem, seval] | ((with_reducible refine isE ?_); refine endA (by first | exact rfl | (simp only [go_sem, seval]; exact rfl) | (simp only [go_sem, seval]; done)) ?_ (by (repeat' (first | exact trivial | exact rfl | refine ⟨_, rfl, ?_⟩ | refine ⟨?_, ?_⟩ | fail)); first | done | fail) rfl rfl; (repeat' (first | exact le_mq0 rfl | exact le_mq0r rfl | refine le_mqr ?_ | refine le_mq ?_ | exact trivial | refine le_int ?_ | refine le_bool ?_ | refine le_str ?_ | refine le_sl ?_ | refine le_own ?_ | refine le_osl ?_ | refine le_nsl ?_ | exact rfl | refine ⟨?_, ?_⟩ | fail))) | ((with_reducible refine isI ?_ ?_); (kernel_rfl)) | fail)
      · have : ¬ mayS ⟨kd, md, v, m, l⟩ := fun k => by
          rcases hi.1 k with ⟨k, _⟩ | ⟨k, _⟩ | ⟨k, _⟩
          · exact h1 k
          · exact h2 k
          · exact h3 k
        rw [decide_eq_false this]
        repeat' (first | (with_reducible exact trivial) | simp (maxSteps := 2000000) (disch := omega) only [h1, h2, h3, go_sem, seval] | ((with_reducible refine isE ?_); refine endA (by first | exact rfl | (simp only [go_sem, seval]; exact rfl) | (simp only [go_sem, seval]; done)) ?_ (by (repeat' (first | exact trivial | exact rfl | refine ⟨_, rfl, ?_⟩ | refine ⟨?_, ?_⟩ | fail)); first | done | fail) rfl rfl; (repeat' (first | exact le_mq0 rfl | exact le_mq0r rfl | refine le_mqr ?_ | refine le_mq ?_ | exact trivial | refine le_int ?_ | refine le_bool ?_ | refine le_str ?_ | refine le_sl ?_ | refine le_own ?_ | refine le_osl ?_ | refine le_nsl ?_ | exact rfl | refine ⟨?_, ?_⟩ | fail))) | ((with_reducible refine isI ?_ ?_); (kernel_rfl)) | fail)
end Go.Proofs.Ytccdnkekmpndiaa
