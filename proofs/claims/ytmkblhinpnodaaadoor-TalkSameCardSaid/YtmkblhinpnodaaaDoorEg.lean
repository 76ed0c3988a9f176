/- Layer 13: what the document says. Own work. -/
import Derived.Test.YtmkblhinpnodaaaDoorEf
import Derived.Test.YtmkblhinpnodaaaDoorZ3
import Derived.Test.YtmkblhinpnodaaaDoorZ3
namespace Go.Proofs.YtmkblhinpnodaaaDoor
open Go Go.Shade
variable {Γ : Globs}
theorem gERSameI (b c : List UInt8) (n m : Int) (o p l q : Bool) : Good Tryd.prog Γ 39 [edI b n o l, edI c m p q] [] (.ret (.bool (decide (n = m ∧ b = c ∧ o = p ∧ l = q)))) [] := by
  have hl := gRSame (Γ := Γ) b c n m
  refine sh_start mixed F39 rfl ⟨(by first | exact rfl | (simp only [go_sem, seval]; done) | (simp only [go_sem, seval]; exact rfl)), (by first | exact rfl | (simp only [go_sem, seval]; done) | (simp only [go_sem, seval]; exact rfl)), (by first | exact rfl | (simp only [go_sem, seval]; done) | (simp only [go_sem, seval]; exact rfl)), (by first | exact rfl | (simp only [go_sem, seval]; done) | (simp only [go_sem, seval]; exact rfl)), (by first | exact rfl | (simp only [go_sem, seval]; done) | (simp only [go_sem, seval]; exact rfl))⟩ ?_
  by_cases h : n = m ∧ b = c
  · rw [decide_eq_true h] at hl
    obtain ⟨rfl, rfl⟩ := h
    cases o <;> cases p <;> cases l <;> cases q
    all_goals repeat' (first | (with_reducible exact trivial) | simp (maxSteps := 2000000) (disch := omega) only [go_sem, seval] | ((with_reducible refine isS ?_); first | refine cS (hl) ?_ | fail) | ((with_reducible refine isE ?_); refine eA ?_; (repeat' (first | exact le_tq0 rfl | exact le_tq0r rfl | refine le_tqr rfl ?_ | refine le_tq rfl ?_ | exact trivial | refine le_int ?_ | refine le_bool ?_ | refine le_str ?_ | refine le_sl ?_ | refine le_own ?_ | refine le_osl ?_ | refine le_nsl ?_ | exact rfl | (simp; done) | refine ⟨?_, ?_⟩ | fail))) | ((with_reducible refine isI ?_ ?_); (kernel_rfl)) | fail)
  · rw [decide_eq_false h] at hl
    rw [decide_eq_false (fun e => h ⟨e.1, e.2.1⟩)]
    repeat' (first | (with_reducible exact trivial) | simp (maxSteps := 2000000) (disch := omega) only [go_sem, seval] | ((with_reducible refine isS ?_); first | refine cS (hl) ?_ | fail) | ((with_reducible refine isE ?_); refine eA ?_; (repeat' (first | exact le_tq0 rfl | exact le_tq0r rfl | refine le_tqr rfl ?_ | refine le_tq rfl ?_ | exact trivial | refine le_int ?_ | refine le_bool ?_ | refine le_str ?_ | refine le_sl ?_ | refine le_own ?_ | refine le_osl ?_ | refine le_nsl ?_ | exact rfl | refine ⟨?_, ?_⟩ | fail))) | ((with_reducible refine isI ?_ ?_); (kernel_rfl)) | fail)
theorem ed_iff (s u : Ed) : decide ((s.n : Int) = u.n ∧ s.b = u.b ∧ s.o = u.o ∧ s.l = u.l) = decide (s = u) := by
  apply decide_eq_decide.2
  cases s; cases u
  simp only [Ed.mk.injEq]
  constructor
  · rintro ⟨h1, h2, h3, h4⟩; exact ⟨h2, by omega, h3, h4⟩
  · rintro ⟨h1, h2, h3, h4⟩; exact ⟨by omega, h1, h3, h4⟩
theorem gERSame (s u : Ed) : Good Tryd.prog Γ 39 [edA s, edA u] [] (.ret (.bool (decide (s = u)))) [] := by
  have h := gERSameI (Γ := Γ) s.b u.b s.n u.n s.o u.o s.l u.l
  rwa [ed_iff] at h
/-- An event as it is built: what it has not is nil. -/
def evN (e : Ev) : List PV := [.s (.int .i64 e.kind), .s (.int .i64 e.f), PV.nil]
theorem evN_le {e : Ev} (h : e.b = []) : RowsLe [evN e] [evP e] := by
  unfold evN evP
  rw [h]
  exact ⟨⟨rfl, rfl, rfl, trivial⟩, trivial⟩
theorem sigN (s : Ed) (f : Int) (e : Ev) (hb : e.b = []) (u : Ed) (h : Good Tryd.prog Γ 55 [edA s, .int .i64 f] [] (.ret (.tup [edA u, .sl 3 [evN e]])) []) : Good Tryd.prog Γ 55 [edA s, .int .i64 f] [] (.ret (.tup [edA u, outA [e]])) [] :=
  good_ret (le_tupL (leL_cons (le_same _) (leL_cons (le_rows (evN_le hb)) leL_nil))) rfl h
theorem gERSignal (s : Ed) (f : Int) (hb : s.b.length ≤ 4096) : Good Tryd.prog Γ 55 [edA s, .int .i64 f] [] (.ret (.tup [edA (sigV s f).1, outA [(sigV s f).2]])) [] := by
  by_cases h4 : f = 4
  · rw [show sigV s f = ({ s with l := false }, ⟨3, f, []⟩) by unfold sigV; rw [if_pos (by omega)]]
    subst h4
    refine sigN _ _ _ rfl _ ?_
    refine sh_start mixed F55 rfl ⟨(by first | exact rfl | (simp only [go_sem, seval]; done) | (simp only [go_sem, seval]; exact rfl)), (by first | exact rfl | (simp only [go_sem, seval]; done) | (simp only [go_sem, seval]; exact rfl)), (by first | exact rfl | (simp only [go_sem, seval]; done) | (simp only [go_sem, seval]; exact rfl)), (by first | exact rfl | (simp only [go_sem, seval]; done) | (simp only [go_sem, seval]; exact rfl)), (by first | exact rfl | (simp only [go_sem, seval]; done) | (simp only [go_sem, seval]; exact rfl))⟩ ?_
    repeat' (first | (with_reducible exact trivial) | simp (maxSteps := 2000000) (disch := omega) only [go_sem, seval] | ((with_reducible refine isE ?_); refine eA ?_; (repeat' (first | exact le_tq0 rfl | exact le_tq0r rfl | refine le_tqr rfl ?_ | refine le_tq rfl ?_ | exact trivial | refine le_int ?_ | refine le_bool ?_ | refine le_str ?_ | refine le_sl ?_ | refine le_own ?_ | refine le_osl ?_ | refine le_nsl ?_ | exact rfl | refine ⟨?_, ?_⟩ | fail))) | ((with_reducible refine isI ?_ ?_); (kernel_rfl)) | fail)
  by_cases h5 : f = 5
  · rw [show sigV s f = ({ s with l := false }, ⟨3, f, []⟩) by unfold sigV; rw [if_pos (by omega)]]
    subst h5
    refine sigN _ _ _ rfl _ ?_
    refine sh_start mixed F55 rfl ⟨(by first | exact rfl | (simp only [go_sem, seval]; done) | (simp only [go_sem, seval]; exact rfl)), (by first | exact rfl | (simp only [go_sem, seval]; done) | (simp only [go_sem, seval]; exact rfl)), (by first | exact rfl | (simp only [go_sem, seval]; done) | (simp only [go_sem, seval]; exact rfl)), (by first | exact rfl | (simp only [go_sem, seval]; done) | (simp only [go_sem, seval]; exact rfl)), (by first | exact rfl | (simp only [go_sem, seval]; done) | (simp only [go_sem, seval]; exact rfl))⟩ ?_
    repeat' (first | (with_reducible exact trivial) | simp (maxSteps := 2000000) (disch := omega) only [go_sem, seval] | ((with_reducible refine isE ?_); refine eA ?_; (repeat' (first | exact le_tq0 rfl | exact le_tq0r rfl | refine le_tqr rfl ?_ | refine le_tq rfl ?_ | exact trivial | refine le_int ?_ | refine le_bool ?_ | refine le_str ?_ | refine le_sl ?_ | refine le_own ?_ | refine le_osl ?_ | refine le_nsl ?_ | exact rfl | refine ⟨?_, ?_⟩ | fail))) | ((with_reducible refine isI ?_ ?_); (kernel_rfl)) | fail)
  by_cases h6 : f = 6
  · rw [show sigV s f = ({ s with l := false }, ⟨3, f, []⟩) by unfold sigV; rw [if_pos (by omega)]]
    subst h6
    refine sigN _ _ _ rfl _ ?_
    refine sh_start mixed F55 rfl ⟨(by first | exact rfl | (simp only [go_sem, seval]; done) | (simp only [go_sem, seval]; exact rfl)), (by first | exact rfl | (simp only [go_sem, seval]; done) | (simp only [go_sem, seval]; exact rfl)), (by first | exact rfl | (simp only [go_sem, seval]; done) | (simp only [go_sem, seval]; exact rfl)), (by first | exact rfl | (simp only [go_sem, seval]; done) | (simp only [go_sem, seval]; exact rfl)), (by first | exact rfl | (simp only [go_sem, seval]; done) | (simp only [go_sem, seval]; exact rfl))⟩ ?_
    repeat' (first | (with_reducible exact trivial) | simp (maxSteps := 2000000) (disch := omega) only [go_sem, seval] | ((with_reducible refine isE ?_); refine eA ?_; (repeat' (first | exact le_tq0 rfl | exact le_tq0r rfl | refine le_tqr rfl ?_ | refine le_tq rfl ?_ | exact trivial | refine le_int ?_ | refine le_bool ?_ | refine le_str ?_ | refine le_sl ?_ | refine le_own ?_ | refine le_osl ?_ | refine le_nsl ?_ | exact rfl | refine ⟨?_, ?_⟩ | fail))) | ((with_reducible refine isI ?_ ?_); (kernel_rfl)) | fail)
  by_cases h8 : f = 8
  · by_cases hl : 0 < s.b.length
    · rw [show sigV s f = (.zero, ⟨2, 0, s.b⟩) by unfold sigV; rw [if_neg (by omega), if_pos ⟨h8, hl⟩]]
      subst h8
      refine sh_start mixed F55 rfl ⟨(by first | exact rfl | (simp only [go_sem, seval]; done) | (simp only [go_sem, seval]; exact rfl)), (by first | exact rfl | (simp only [go_sem, seval]; done) | (simp only [go_sem, seval]; exact rfl)), (by first | exact rfl | (simp only [go_sem, seval]; done) | (simp only [go_sem, seval]; exact rfl)), (by first | exact rfl | (simp only [go_sem, seval]; done) | (simp only [go_sem, seval]; exact rfl)), (by first | exact rfl | (simp only [go_sem, seval]; done) | (simp only [go_sem, seval]; exact rfl))⟩ ?_
      repeat' (first | (with_reducible exact trivial) | simp (maxSteps := 2000000) (disch := omega) only [bys_length, go_sem, seval] | ((with_reducible refine isE ?_); refine eA ?_; (repeat' (first | exact le_tq0 rfl | exact le_tq0r rfl | refine le_tqr rfl ?_ | refine le_tq rfl ?_ | exact trivial | refine le_int ?_ | refine le_bool ?_ | refine le_str ?_ | refine le_sl ?_ | refine le_own ?_ | refine le_osl ?_ | refine le_nsl ?_ | exact rfl | refine ⟨?_, ?_⟩ | fail))) | ((with_reducible refine isI ?_ ?_); (kernel_rfl)) | fail)
    · rw [show sigV s f = (.zero, ⟨3, f, []⟩) by unfold sigV; rw [if_neg (by omega), if_neg (fun h => hl h.2)]]
      subst h8
      refine sigN _ _ _ rfl _ ?_
      refine sh_start mixed F55 rfl ⟨(by first | exact rfl | (simp only [go_sem, seval]; done) | (simp only [go_sem, seval]; exact rfl)), (by first | exact rfl | (simp only [go_sem, seval]; done) | (simp only [go_sem, seval]; exact rfl)), (by first | exact rfl | (simp only [go_sem, seval]; done) | (simp only [go_sem, seval]; exact rfl)), (by first | exact rfl | (simp only [go_sem, seval]; done) | (simp only [go_sem, seval]; exact rfl)), (by first | exact rfl | (simp only [go_sem, seval]; done) | (simp only [go_sem, seval]; exact rfl))⟩ ?_
      repeat' (first | (with_reducible exact trivial) | simp (maxSteps := 2000000) (disch := omega) only [bys_length, go_sem, seval] | ((with_reducible refine isE ?_); refine eA ?_; (repeat' (first | exact le_tq0 rfl | exact le_tq0r rfl | refine le_tqr rfl ?_ | refine le_tq rfl ?_ | exact trivial | refine le_int ?_ | refine le_bool ?_ | refine le_str ?_ | refine le_sl ?_ | refine le_own ?_ | refine le_osl ?_ | refine le_nsl ?_ | exact rfl | refine ⟨?_, ?_⟩ | fail))) | ((with_reducible refine isI ?_ ?_); (kernel_rfl)) | fail)
  · rw [show sigV s f = (.zero, ⟨3, f, []⟩) by unfold sigV; rw [if_neg (by omega), if_neg (fun h => h8 h.1)]]
    refine sigN _ _ _ rfl _ ?_
    refine sh_start mixed F55 rfl ⟨(by first | exact rfl | (simp only [go_sem, seval]; done) | (simp only [go_sem, seval]; exact rfl)), (by first | exact rfl | (simp only [go_sem, seval]; done) | (simp only [go_sem, seval]; exact rfl)), (by first | exact rfl | (simp only [go_sem, seval]; done) | (simp only [go_sem, seval]; exact rfl)), (by first | exact rfl | (simp only [go_sem, seval]; done) | (simp only [go_sem, seval]; exact rfl)), (by first | exact rfl | (simp only [go_sem, seval]; done) | (simp only [go_sem, seval]; exact rfl))⟩ ?_
    repeat' (first | (with_reducible exact trivial) | simp (maxSteps := 2000000) (disch := omega) only [h4, h5, h6, h8, go_sem, seval] | ((with_reducible refine isE ?_); refine eA ?_; (repeat' (first | exact le_tq0 rfl | exact le_tq0r rfl | refine le_tqr rfl ?_ | refine le_tq rfl ?_ | exact trivial | refine le_int ?_ | refine le_bool ?_ | refine le_str ?_ | refine le_sl ?_ | refine le_own ?_ | refine le_osl ?_ | refine le_nsl ?_ | exact rfl | refine ⟨?_, ?_⟩ | fail))) | ((with_reducible refine isI ?_ ?_); (kernel_rfl)) | fail)
theorem gERTyped (s : Ed) (room : Int) (k : UInt8) (hs : s.ok) : Good Tryd.prog Γ 54 [edA s, .int .i64 room, .int .u8 k.toNat] [] (.ret (.tup [edA { (typedV s room k).1 with l := false }, outA [], .bool (typedV s room k).2.2])) [] := by
  obtain ⟨d, m, ok, ht⟩ : ∃ d m ok, typeW s.b s.n room s.o k = (d, m, ok) := ⟨_, _, _, rfl⟩
  have hty := gRType (Γ := Γ) s.b s.n room s.o k hs.1 hs.2
  rw [typeR_W ht] at hty
  unfold typedV
  rw [ht]
  refine sh_start mixed F54 rfl ⟨(by first | exact rfl | (simp only [go_sem, seval]; done) | (simp only [go_sem, seval]; exact rfl)), (by first | exact rfl | (simp only [go_sem, seval]; done) | (simp only [go_sem, seval]; exact rfl)), (by first | exact rfl | (simp only [go_sem, seval]; done) | (simp only [go_sem, seval]; exact rfl)), (by first | exact rfl | (simp only [go_sem, seval]; done) | (simp only [go_sem, seval]; exact rfl)), (by first | exact rfl | (simp only [go_sem, seval]; done) | (simp only [go_sem, seval]; exact rfl))⟩ ?_
  repeat' (first | (with_reducible exact trivial) | simp (maxSteps := 2000000) (disch := omega) only [go_sem, seval] | ((with_reducible refine isS ?_); first | refine cS (hty) ?_ | fail) | ((with_reducible refine isE ?_); refine eA ?_; (repeat' (first | exact le_tq0 rfl | exact le_tq0r rfl | refine le_tqr rfl ?_ | refine le_tq rfl ?_ | exact trivial | refine le_int ?_ | refine le_bool ?_ | refine le_str ?_ | refine le_sl ?_ | refine le_own ?_ | refine le_osl ?_ | refine le_nsl ?_ | exact rfl | refine ⟨?_, ?_⟩ | fail))) | ((with_reducible refine isI ?_ ?_); (kernel_rfl)) | fail)
set_option maxHeartbeats 1000000 in
theorem gERKey (t : Tbl) (room : Int) (s : Ed) (k : UInt8) (hs : s.ok) {s' : Ed} {l : List Ev} {bell : Bool} (h : keyV t room s k = (s', l, bell)) :
    Good Tryd.prog Γ 38 [.agg (tq t), .int .i64 room, edA s, .int .u8 k.toNat] [] (.ret (.tup [edA s', outA l, .bool bell])) [] := by
  obtain ⟨b, n, o, lt⟩ := s
  have hm := gRMeaning (Γ := Γ) t k
  have hty := gERTyped (Γ := Γ) ⟨b, n, o, lt⟩ room k hs
  unfold keyV at h
  simp only at h
  have hle := meaning_le t k
  generalize meaning t k = f at h hm hle
  cases lt
  · rw [if_neg (by decide)] at h
    unfold meanV at h
    by_cases h0 : f = 0 ∨ f = 17 ∨ f = 18
    · rw [if_pos h0] at h
      rw [show ({ (typedV ⟨b, n, o, false⟩ room k).1 with l := false } : Ed) = (typedV ⟨b, n, o, false⟩ room k).1 from rfl, h] at hty
      have hl : l = [] := by unfold typedV at h; cases h; rfl
      subst hl
      rcases h0 with rfl | rfl | rfl
      all_goals
        refine sh_start mixed F38 rfl ⟨(by first | exact rfl | (simp only [go_sem, seval]; done) | (simp only [go_sem, seval]; exact rfl)), (by first | exact rfl | (simp only [go_sem, seval]; done) | (simp only [go_sem, seval]; exact rfl)), (by first | exact rfl | (simp only [go_sem, seval]; done) | (simp only [go_sem, seval]; exact rfl)), (by first | exact rfl | (simp only [go_sem, seval]; done) | (simp only [go_sem, seval]; exact rfl)), (by first | exact rfl | (simp only [go_sem, seval]; done) | (simp only [go_sem, seval]; exact rfl))⟩ ?_
        repeat' (first | (with_reducible exact trivial) | simp (maxSteps := 2000000) (disch := omega) only [go_sem, seval] | ((with_reducible refine isS ?_); first | refine cS (hm) ?_ | refine cS (hty) ?_ | fail) | ((with_reducible refine isT ?_); first | refine cT (hm) ?_ | refine cT (hty) ?_ | fail) | ((with_reducible refine isE ?_); refine eA ?_; (repeat' (first | exact le_tq0 rfl | exact le_tq0r rfl | refine le_tqr rfl ?_ | refine le_tq rfl ?_ | exact trivial | refine le_int ?_ | refine le_bool ?_ | refine le_str ?_ | refine le_sl ?_ | refine le_own ?_ | refine le_osl ?_ | refine le_nsl ?_ | exact rfl | refine ⟨?_, ?_⟩ | fail))) | ((with_reducible refine isI ?_ ?_); (kernel_rfl)) | fail)
    rw [if_neg h0] at h
    have k0' : ¬ (f : Int) = 0 := fun e => h0 (.inl (by omega))
    have k17' : ¬ (f : Int) = 17 := fun e => h0 (.inr (.inl (by omega)))
    have k18' : ¬ (f : Int) = 18 := fun e => h0 (.inr (.inr (by omega)))
    by_cases h31 : f = 31
    · rw [if_pos h31] at h
      cases h
      subst h31
      refine sh_start mixed F38 rfl ⟨(by first | exact rfl | (simp only [go_sem, seval]; done) | (simp only [go_sem, seval]; exact rfl)), (by first | exact rfl | (simp only [go_sem, seval]; done) | (simp only [go_sem, seval]; exact rfl)), (by first | exact rfl | (simp only [go_sem, seval]; done) | (simp only [go_sem, seval]; exact rfl)), (by first | exact rfl | (simp only [go_sem, seval]; done) | (simp only [go_sem, seval]; exact rfl)), (by first | exact rfl | (simp only [go_sem, seval]; done) | (simp only [go_sem, seval]; exact rfl))⟩ ?_
      repeat' (first | (with_reducible exact trivial) | simp (maxSteps := 2000000) (disch := omega) only [go_sem, seval] | ((with_reducible refine isS ?_); first | refine cS (hm) ?_ | fail) | ((with_reducible refine isT ?_); first | refine cT (hm) ?_ | fail) | ((with_reducible refine isE ?_); refine eA ?_; (repeat' (first | exact le_tq0 rfl | exact le_tq0r rfl | refine le_tqr rfl ?_ | refine le_tq rfl ?_ | exact trivial | refine le_int ?_ | refine le_bool ?_ | refine le_str ?_ | refine le_sl ?_ | refine le_own ?_ | refine le_osl ?_ | refine le_nsl ?_ | exact rfl | refine ⟨?_, ?_⟩ | fail))) | ((with_reducible refine isI ?_ ?_); (kernel_rfl)) | fail)
    rw [if_neg h31] at h
    have k31 : ¬ (f : Int) = 31 := by omega
    by_cases h9 : f ≤ 9
    · rw [if_pos h9] at h
      cases h
      have hsg := gERSignal (Γ := Γ) ⟨b, n, o, false⟩ f hs.1
      generalize sigV ⟨b, n, o, false⟩ f = sg at hsg
      refine sh_start mixed F38 rfl ⟨(by first | exact rfl | (simp only [go_sem, seval]; done) | (simp only [go_sem, seval]; exact rfl)), (by first | exact rfl | (simp only [go_sem, seval]; done) | (simp only [go_sem, seval]; exact rfl)), (by first | exact rfl | (simp only [go_sem, seval]; done) | (simp only [go_sem, seval]; exact rfl)), (by first | exact rfl | (simp only [go_sem, seval]; done) | (simp only [go_sem, seval]; exact rfl)), (by first | exact rfl | (simp only [go_sem, seval]; done) | (simp only [go_sem, seval]; exact rfl))⟩ ?_
      repeat' (first | (with_reducible exact trivial) | simp (maxSteps := 2000000) (disch := omega) only [k0', k17', k18', k31, go_sem, seval] | ((with_reducible refine isS ?_); first | refine cS (hm) ?_ | refine cS (hsg) ?_ | fail) | ((with_reducible refine isT ?_); first | refine cT (hm) ?_ | refine cT (hsg) ?_ | fail) | ((with_reducible refine isE ?_); refine eA ?_; (repeat' (first | exact le_tq0 rfl | exact le_tq0r rfl | refine le_tqr rfl ?_ | refine le_tq rfl ?_ | exact trivial | refine le_int ?_ | refine le_bool ?_ | refine le_str ?_ | refine le_sl ?_ | refine le_own ?_ | refine le_osl ?_ | refine le_nsl ?_ | exact rfl | refine ⟨?_, ?_⟩ | fail))) | ((with_reducible refine isI ?_ ?_); (kernel_rfl)) | fail)
    rw [if_neg h9] at h
    by_cases h14 : f = 14
    · rw [if_pos h14] at h
      cases h
      subst h14
      refine sh_start mixed F38 rfl ⟨(by first | exact rfl | (simp only [go_sem, seval]; done) | (simp only [go_sem, seval]; exact rfl)), (by first | exact rfl | (simp only [go_sem, seval]; done) | (simp only [go_sem, seval]; exact rfl)), (by first | exact rfl | (simp only [go_sem, seval]; done) | (simp only [go_sem, seval]; exact rfl)), (by first | exact rfl | (simp only [go_sem, seval]; done) | (simp only [go_sem, seval]; exact rfl)), (by first | exact rfl | (simp only [go_sem, seval]; done) | (simp only [go_sem, seval]; exact rfl))⟩ ?_
      repeat' (first | (with_reducible exact trivial) | simp (maxSteps := 2000000) (disch := omega) only [go_sem, seval] | ((with_reducible refine isS ?_); first | refine cS (hm) ?_ | fail) | ((with_reducible refine isT ?_); first | refine cT (hm) ?_ | fail) | ((with_reducible refine isE ?_); refine eA ?_; (repeat' (first | exact le_tq0 rfl | exact le_tq0r rfl | refine le_tqr rfl ?_ | refine le_tq rfl ?_ | exact trivial | refine le_int ?_ | refine le_bool ?_ | refine le_str ?_ | refine le_sl ?_ | refine le_own ?_ | refine le_osl ?_ | refine le_nsl ?_ | exact rfl | refine ⟨?_, ?_⟩ | fail))) | ((with_reducible refine isI ?_ ?_); (kernel_rfl)) | fail)
    rw [if_neg h14] at h
    have k14 : ¬ (f : Int) = 14 := by omega
    by_cases h25 : f = 25 ∨ f = 26
    · rw [if_pos h25] at h
      cases h
      rcases h25 with rfl | rfl
      all_goals
        refine sh_start mixed F38 rfl ⟨(by first | exact rfl | (simp only [go_sem, seval]; done) | (simp only [go_sem, seval]; exact rfl)), (by first | exact rfl | (simp only [go_sem, seval]; done) | (simp only [go_sem, seval]; exact rfl)), (by first | exact rfl | (simp only [go_sem, seval]; done) | (simp only [go_sem, seval]; exact rfl)), (by first | exact rfl | (simp only [go_sem, seval]; done) | (simp only [go_sem, seval]; exact rfl)), (by first | exact rfl | (simp only [go_sem, seval]; done) | (simp only [go_sem, seval]; exact rfl))⟩ ?_
        repeat' (first | (with_reducible exact trivial) | simp (maxSteps := 2000000) (disch := omega) only [go_sem, seval] | ((with_reducible refine isS ?_); first | refine cS (hm) ?_ | fail) | ((with_reducible refine isT ?_); first | refine cT (hm) ?_ | fail) | ((with_reducible refine isE ?_); refine eA ?_; (repeat' (first | exact le_tq0 rfl | exact le_tq0r rfl | refine le_tqr rfl ?_ | refine le_tq rfl ?_ | exact trivial | refine le_int ?_ | refine le_bool ?_ | refine le_str ?_ | refine le_sl ?_ | refine le_own ?_ | refine le_osl ?_ | refine le_nsl ?_ | exact rfl | refine ⟨?_, ?_⟩ | fail))) | ((with_reducible refine isI ?_ ?_); (kernel_rfl)) | fail)
    rw [if_neg h25] at h
    have k25 : ¬ (f : Int) = 25 := by omega
    have k26 : ¬ (f : Int) = 26 := by omega
    obtain ⟨d, m, ok, hd⟩ : ∃ d m ok, doW b n f = (d, m, ok) := ⟨_, _, _, rfl⟩
    simp only [hd] at h
    cases h
    have hdo := gRDo (Γ := Γ) b n f hs.1 hs.2
    rw [doR_W hd] at hdo
    refine sh_start mixed F38 rfl ⟨(by first | exact rfl | (simp only [go_sem, seval]; done) | (simp only [go_sem, seval]; exact rfl)), (by first | exact rfl | (simp only [go_sem, seval]; done) | (simp only [go_sem, seval]; exact rfl)), (by first | exact rfl | (simp only [go_sem, seval]; done) | (simp only [go_sem, seval]; exact rfl)), (by first | exact rfl | (simp only [go_sem, seval]; done) | (simp only [go_sem, seval]; exact rfl)), (by first | exact rfl | (simp only [go_sem, seval]; done) | (simp only [go_sem, seval]; exact rfl))⟩ ?_
    repeat' (first | (with_reducible exact trivial) | simp (maxSteps := 2000000) (disch := omega) only [k0', k17', k18', k31, k14, k25, k26, go_sem, seval] | ((with_reducible refine isS ?_); first | refine cS (hm) ?_ | refine cS (hdo) ?_ | fail) | ((with_reducible refine isT ?_); first | refine cT (hm) ?_ | refine cT (hdo) ?_ | fail) | ((with_reducible refine isE ?_); refine eA ?_; (repeat' (first | exact le_tq0 rfl | exact le_tq0r rfl | refine le_tqr rfl ?_ | refine le_tq rfl ?_ | exact trivial | refine le_int ?_ | refine le_bool ?_ | refine le_str ?_ | refine le_sl ?_ | refine le_own ?_ | refine le_osl ?_ | refine le_nsl ?_ | exact rfl | refine ⟨?_, ?_⟩ | fail))) | ((with_reducible refine isI ?_ ?_); (kernel_rfl)) | fail)
  · rw [if_pos rfl] at h
    rw [show ({ (typedV ⟨b, n, o, true⟩ room k).1 with l := false } : Ed) = (typedV ⟨b, n, o, false⟩ room k).1 from rfl, show (typedV ⟨b, n, o, true⟩ room k).2.2 = (typedV ⟨b, n, o, false⟩ room k).2.2 from rfl, h] at hty
    have hl : l = [] := by unfold typedV at h; cases h; rfl
    subst hl
    refine sh_start mixed F38 rfl ⟨(by first | exact rfl | (simp only [go_sem, seval]; done) | (simp only [go_sem, seval]; exact rfl)), (by first | exact rfl | (simp only [go_sem, seval]; done) | (simp only [go_sem, seval]; exact rfl)), (by first | exact rfl | (simp only [go_sem, seval]; done) | (simp only [go_sem, seval]; exact rfl)), (by first | exact rfl | (simp only [go_sem, seval]; done) | (simp only [go_sem, seval]; exact rfl)), (by first | exact rfl | (simp only [go_sem, seval]; done) | (simp only [go_sem, seval]; exact rfl))⟩ ?_
    repeat' (first | (with_reducible exact trivial) | simp (maxSteps := 2000000) (disch := omega) only [go_sem, seval] | ((with_reducible refine isS ?_); first | refine cS (hm) ?_ | refine cS (hty) ?_ | fail) | ((with_reducible refine isT ?_); first | refine cT (hm) ?_ | refine cT (hty) ?_ | fail) | ((with_reducible refine isE ?_); refine eA ?_; (repeat' (first | exact le_tq0 rfl | exact le_tq0r rfl | refine le_tqr rfl ?_ | refine le_tq rfl ?_ | exact trivial | refine le_int ?_ | refine le_bool ?_ | refine le_str ?_ | refine le_sl ?_ | refine le_own ?_ | refine le_osl ?_ | refine le_nsl ?_ | exact rfl | refine ⟨?_, ?_⟩ | fail))) | ((with_reducible refine isI ?_ ?_); (kernel_rfl)) | fail)
end Go.Proofs.YtmkblhinpnodaaaDoor
