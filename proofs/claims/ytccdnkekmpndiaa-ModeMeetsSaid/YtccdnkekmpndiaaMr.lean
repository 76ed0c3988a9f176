/- Layer 16: what both have at rest: the statement's walk. Own work. -/
import Derived.Test.YtccdnkekmpndiaaMra
import Derived.Test.YtccdnkekmpndiaaMrb
import Derived.Test.YtccdnkekmpndiaaMrc
import Derived.Test.YtccdnkekmpndiaaMrd
import Derived.Test.YtccdnkekmpndiaaMre
namespace Go.Proofs.Ytccdnkekmpndiaa
open Go Go.Shade
variable {Γ : Globs}
set_option maxRecDepth 8000 in
set_option maxHeartbeats 64000000 in
theorem gMeets (may : Bool) (l : List MAct) (hl : ∀ x ∈ l, in64 x.A.mode) (hb : l.length ≤ 281474976710656) : Good Try.prog Γ 7 [.bool may, .sl 37 (l.map cP)] [] (.ret (.bool true)) [] := by
  refine sh_start mixed F7 rfl ⟨(by first | exact rfl | (simp only [go_sem, seval]; done) | (simp only [go_sem, seval]; exact rfl)), (by first | exact rfl | (simp only [go_sem, seval]; done) | (simp only [go_sem, seval]; exact rfl)), (by first | exact rfl | (simp only [go_sem, seval]; done) | (simp only [go_sem, seval]; exact rfl)), (by first | exact rfl | (simp only [go_sem, seval]; done) | (simp only [go_sem, seval]; exact rfl)), (by first | exact rfl | (simp only [go_sem, seval]; done) | (simp only [go_sem, seval]; exact rfl))⟩ ?_
  repeat' (first | (with_reducible exact trivial) | simp (maxSteps := 2000000) (disch := omega) only [go_sem, seval] | ((with_reducible refine isI ?_ ?_); (kernel_rfl)) | fail)
  refine sh_loopX mixed (stM may l) (fun x => l.length + 200 - x.i) (okM may l.length) ⟨0, asksZ, rulesZ may, [], [], [0], 0, 0⟩ (okM0 may l.length)
    (weakG_nil 7 2 36 rfl rfl (weakG_nil 8 4 36 rfl rfl (sh_weakA (by first | (simp only [go_sem, seval]; exact rfl) | exact rfl | (simp only [go_sem, seval]; done)) (by (repeat' (first | exact le_mq0 rfl | exact le_mq0r rfl | refine le_mqr ?_ | refine le_mq ?_ | exact trivial | exact rfl | refine le_int ?_ | refine le_bool ?_ | refine le_str ?_ | refine le_sl ?_ | refine le_own ?_ | refine le_osl ?_ | refine le_nsl ?_ | refine ⟨_, rfl, ?_⟩ | refine ⟨?_, ?_⟩ | fail)); first | done | fail) (by (repeat' (first | exact le_mq0 rfl | exact le_mq0r rfl | refine le_mqr ?_ | refine le_mq ?_ | exact trivial | exact rfl | refine le_int ?_ | refine le_bool ?_ | refine le_str ?_ | refine le_sl ?_ | refine le_own ?_ | refine le_osl ?_ | refine le_nsl ?_ | refine ⟨_, rfl, ?_⟩ | refine ⟨?_, ?_⟩ | fail)); first | done | fail) rfl (by first | exact rfl | (simp only [go_sem, seval]; done) | (simp only [go_sem, seval]; exact rfl)) (by first | exact rfl | (simp only [go_sem, seval]; done) | (simp only [go_sem, seval]; exact rfl)) rfl (by first | exact rfl | (simp only [go_sem, seval]; done) | (simp only [go_sem, seval]; exact rfl))))) ?_
  rintro ⟨i, a, r, to, fr, had, asked, said⟩ ⟨hI, hA, hB⟩
  simp only at hI hA hB
  by_cases d : i < l.length ∧ i < 60
  · obtain ⟨d1, d2⟩ := d
    obtain ⟨x, hx, hg⟩ := cP_at d1
    have hxm := hl x hx
    obtain ⟨cm, tc, am, ams, aon, amk⟩ := x
    simp only at hxm
    cases cm
    · rcases he : askF a ⟨am, ams, aon, amk⟩ with ⟨b, m, e⟩
      by_cases h0 : e = 0
      · subst h0
        exact rAsk may l hb i a r to fr had asked said hI hA hB d1 d2 false tc am ams aon amk hg hxm b m he _ _
      · exact rAskNo may l hb i a r to fr had asked said hI hA hB d1 d2 false tc am ams aon amk hg hxm b m e he h0 _ _
    · cases tc
      · cases fr with
        | nil => exact rNoC may l hb i a r to had asked said hI hA hB d1 d2 true false am ams aon amk hg _ _
        | cons s fr => exact rAnsA may l hb i a r s to fr had asked said hI hA hB d1 d2 true false am ams aon amk hg _ _
      · cases to with
        | nil => exact rNoT may l hb i a r fr had asked said hI hA hB d1 d2 true true am ams aon amk hg _ _
        | cons s to => exact rTakeA may l hb i a r s to fr had asked said hI hA hB d1 d2 true true am ams aon amk hg _ _
  · have hR : l.length ≤ i ∨ (i < l.length ∧ 60 ≤ i) := by omega
    cases to with
    | cons s to => exact rTakeB may l hb i a r s to fr had asked said hI hA hB hR _ _
    | nil =>
      cases fr with
      | cons s fr => exact rAnsB may l hb i a r s fr had asked said hI hA hB hR _ _
      | nil =>
        have hi200 : i < l.length + 200 := by simp only [List.length_nil] at hB; omega
        obtain ⟨e1, e2, e3, e4, e5, e6, e7⟩ := inv_end hI
        obtain ⟨ak, hh, ws, fw, gt, ao, go, ms⟩ := a
        simp only at e1 e2 e3 e4 e5 e6
        subst e1 e2 e3 e5 e6 e4
        have b5 := hI.ma.2.2.2.2.1
        simp only at b5
        simp only [stM]
        have hls : said ≤ 200 := by omega
        rcases hR with d1 | ⟨d1, d2⟩
        all_goals
          cases may <;> cases ao
          all_goals
            first
              | (have hz : fw = .zero := by simpa using b5
                 subst hz)
              | skip
            repeat' (first | (with_reducible exact trivial) | simp (maxSteps := 2000000) (disch := omega) only [List.length_map, List.length_nil, List.map_nil, eqM', decide_true, eq_self, go_sem, seval] | ((with_reducible refine isS ?_); first | refine sh_call (gAwake) [] (by (repeat' (first | exact le_mq0 rfl | exact le_mq0r rfl | refine le_mqr ?_ | refine le_mq ?_ | exact rfl | exact trivial | exact le_nbys | refine ⟨?_, ?_⟩ | fail)); first | done | fail) trivial rfl (by (repeat' (first | exact trivial | exact .inr rfl | exact .inl rfl | refine ⟨?_, ?_⟩ | fail)); first | done | fail) ?_ | fail) | ((with_reducible refine isT ?_); first | refine sh_callT (gAwake) [] (by (repeat' (first | exact le_mq0 rfl | exact le_mq0r rfl | refine le_mqr ?_ | refine le_mq ?_ | exact rfl | exact trivial | exact le_nbys | refine ⟨?_, ?_⟩ | fail)); first | done | fail) trivial rfl (by (repeat' (first | exact trivial | exact .inr rfl | exact .inl rfl | refine ⟨?_, ?_⟩ | fail)); first | done | fail) ?_ | fail) | ((with_reducible refine isE ?_); refine endA (by first | (simp only [go_sem, seval]; exact rfl) | exact rfl | (simp only [go_sem, seval]; done)) ?_ (by (repeat' (first | exact trivial | exact rfl | refine ⟨_, rfl, ?_⟩ | refine ⟨?_, ?_⟩ | fail)); first | done | fail) rfl rfl; (repeat' (first | exact le_mq0 rfl | exact le_mq0r rfl | refine le_mqr ?_ | refine le_mq ?_ | exact trivial | refine le_int ?_ | refine le_bool ?_ | refine le_str ?_ | refine le_sl ?_ | refine le_own ?_ | refine le_osl ?_ | refine le_nsl ?_ | exact rfl | refine ⟨?_, ?_⟩ | fail))) | ((with_reducible refine isI ?_ ?_); (kernel_rfl)) | fail)
end Go.Proofs.Ytccdnkekmpndiaa
