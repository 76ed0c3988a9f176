/- Layer 15: a key is typed, as the document says. Own work. -/
import Derived.Test.YtmkblhinpnodaaaDoorWc
import Derived.Test.YtmkblhinpnodaaaDoorZ3
namespace Go.Proofs.YtmkblhinpnodaaaDoor
open Go Go.Shade
variable {Γ : Globs}
abbrev hwA (c : UInt8) (edit fwd : Bool) : AV := .agg [.int .u8 c.toNat, .bool edit, .bool fwd]
set_option maxHeartbeats 4000000 in
theorem gRTType (t : Tbl) (room : Int) (k : Tk) (c : UInt8) (edit fwd : Bool) (hs : k.s.ok) {k' : Tk} {ks : List UInt8} {sg : Nat} {bl : Bool} (h : typeK t room k c edit fwd = (k', ks, sg, bl)) :
    Good Tryd.prog Γ 17 [.agg (tq t), .int .i64 room, tkA k, hwA c edit fwd] [] (.ret (.tup [tkA k', tyA ks sg bl])) [] := by
  have hc := gERMayI (Γ := Γ) k.s.b k.s.n k.s.o k.s.l
  rw [decide_eq_true ⟨hs.1, by omega, by have := hs.2; omega⟩] at hc
  obtain ⟨s, hd⟩ := k
  simp only at hs hc
  obtain ⟨nx, ev, be, hk⟩ : ∃ nx ev be, keyV t room s c = (nx, ev, be) := ⟨_, _, _, rfl⟩
  have hnx : nx.ok := by have := key_ok (t := t) (room := room) (k := c) hs; rw [hk] at this; exact this
  have hkey := gERKey (Γ := Γ) t room s c hs hk
  have hev := key_one t s room c
  rw [hk] at hev
  simp only at hev
  have hz1 := gERSame (Γ := Γ) s .zero
  have hz2 := gERSame (Γ := Γ) nx .zero
  have hm := gRMeaning (Γ := Γ) t c
  have hrl := (renew_len t s hs.2).2
  have hrn := (renew_len t nx hnx.2).2
  have hsl := hs.1
  have hnl := hnx.1
  have hr1 := gRRenew (Γ := Γ) t s hs
  have hr2 := gRRenew (Γ := Γ) t nx hnx
  unfold typeK at h
  rw [hk] at h
  simp only at h
  by_cases hh : holdsV ⟨s, hd⟩ edit ev
  · rw [if_pos hh] at h
    obtain ⟨rfl, h2, rfl⟩ := hh
    simp only at h2
    cases fwd
    · rw [if_neg (by simp)] at h
      cases h
      cases hd
      · have h2 : s = .zero := h2.resolve_left (by simp)
        rw [decide_eq_true h2] at hz1
        refine sh_start mixed F17 rfl ⟨(by first | exact rfl | (simp only [go_sem, seval]; done) | (simp only [go_sem, seval]; exact rfl)), (by first | exact rfl | (simp only [go_sem, seval]; done) | (simp only [go_sem, seval]; exact rfl)), (by first | exact rfl | (simp only [go_sem, seval]; done) | (simp only [go_sem, seval]; exact rfl)), (by first | exact rfl | (simp only [go_sem, seval]; done) | (simp only [go_sem, seval]; exact rfl)), (by first | exact rfl | (simp only [go_sem, seval]; done) | (simp only [go_sem, seval]; exact rfl))⟩ ?_
        repeat' (first | (with_reducible exact trivial) | simp (maxSteps := 2000000) (disch := omega) only [List.map_nil, List.length_nil, go_sem, seval] | ((with_reducible refine isS ?_); first | refine cS (hc) ?_ | refine cS (hkey) ?_ | refine cS (hz1) ?_ | fail) | ((with_reducible refine isT ?_); first | refine cT (hc) ?_ | refine cT (hkey) ?_ | refine cT (hz1) ?_ | fail) | ((with_reducible refine isE ?_); refine eA ?_; (repeat' (first | exact le_tq0 rfl | exact le_tq0r rfl | refine le_tqr rfl ?_ | refine le_tq rfl ?_ | exact trivial | refine le_int ?_ | refine le_bool ?_ | refine le_str ?_ | refine le_sl ?_ | refine le_own ?_ | refine le_osl ?_ | refine le_nsl ?_ | exact rfl | refine ⟨?_, ?_⟩ | fail))) | ((with_reducible refine isI ?_ ?_); (kernel_rfl)) | fail)
      · refine sh_start mixed F17 rfl ⟨(by first | exact rfl | (simp only [go_sem, seval]; done) | (simp only [go_sem, seval]; exact rfl)), (by first | exact rfl | (simp only [go_sem, seval]; done) | (simp only [go_sem, seval]; exact rfl)), (by first | exact rfl | (simp only [go_sem, seval]; done) | (simp only [go_sem, seval]; exact rfl)), (by first | exact rfl | (simp only [go_sem, seval]; done) | (simp only [go_sem, seval]; exact rfl)), (by first | exact rfl | (simp only [go_sem, seval]; done) | (simp only [go_sem, seval]; exact rfl))⟩ ?_
        repeat' (first | (with_reducible exact trivial) | simp (maxSteps := 2000000) (disch := omega) only [List.map_nil, List.length_nil, go_sem, seval] | ((with_reducible refine isS ?_); first | refine cS (hc) ?_ | refine cS (hkey) ?_ | fail) | ((with_reducible refine isT ?_); first | refine cT (hc) ?_ | refine cT (hkey) ?_ | fail) | ((with_reducible refine isE ?_); refine eA ?_; (repeat' (first | exact le_tq0 rfl | exact le_tq0r rfl | refine le_tqr rfl ?_ | refine le_tq rfl ?_ | exact trivial | refine le_int ?_ | refine le_bool ?_ | refine le_str ?_ | refine le_sl ?_ | refine le_own ?_ | refine le_osl ?_ | refine le_nsl ?_ | exact rfl | refine ⟨?_, ?_⟩ | fail))) | ((with_reducible refine isI ?_ ?_); (kernel_rfl)) | fail)
    · by_cases hz : nx = .zero
      · rw [if_neg (fun e => e.2 hz)] at h
        cases h
        rw [decide_eq_true hz] at hz2
        cases hd
        · have h2 : s = .zero := h2.resolve_left (by simp)
          rw [decide_eq_true h2] at hz1
          refine sh_start mixed F17 rfl ⟨(by first | exact rfl | (simp only [go_sem, seval]; done) | (simp only [go_sem, seval]; exact rfl)), (by first | exact rfl | (simp only [go_sem, seval]; done) | (simp only [go_sem, seval]; exact rfl)), (by first | exact rfl | (simp only [go_sem, seval]; done) | (simp only [go_sem, seval]; exact rfl)), (by first | exact rfl | (simp only [go_sem, seval]; done) | (simp only [go_sem, seval]; exact rfl)), (by first | exact rfl | (simp only [go_sem, seval]; done) | (simp only [go_sem, seval]; exact rfl))⟩ ?_
          repeat' (first | (with_reducible exact trivial) | simp (maxSteps := 2000000) (disch := omega) only [List.map_nil, List.length_nil, go_sem, seval] | ((with_reducible refine isS ?_); first | refine cS (hc) ?_ | refine cS (hkey) ?_ | refine cS (hz1) ?_ | refine cS (hz2) ?_ | fail) | ((with_reducible refine isT ?_); first | refine cT (hc) ?_ | refine cT (hkey) ?_ | refine cT (hz1) ?_ | refine cT (hz2) ?_ | fail) | ((with_reducible refine isE ?_); refine eA ?_; (repeat' (first | exact le_tq0 rfl | exact le_tq0r rfl | refine le_tqr rfl ?_ | refine le_tq rfl ?_ | exact trivial | refine le_int ?_ | refine le_bool ?_ | refine le_str ?_ | refine le_sl ?_ | refine le_own ?_ | refine le_osl ?_ | refine le_nsl ?_ | exact rfl | refine ⟨?_, ?_⟩ | fail))) | ((with_reducible refine isI ?_ ?_); (kernel_rfl)) | fail)
        · refine sh_start mixed F17 rfl ⟨(by first | exact rfl | (simp only [go_sem, seval]; done) | (simp only [go_sem, seval]; exact rfl)), (by first | exact rfl | (simp only [go_sem, seval]; done) | (simp only [go_sem, seval]; exact rfl)), (by first | exact rfl | (simp only [go_sem, seval]; done) | (simp only [go_sem, seval]; exact rfl)), (by first | exact rfl | (simp only [go_sem, seval]; done) | (simp only [go_sem, seval]; exact rfl)), (by first | exact rfl | (simp only [go_sem, seval]; done) | (simp only [go_sem, seval]; exact rfl))⟩ ?_
          repeat' (first | (with_reducible exact trivial) | simp (maxSteps := 2000000) (disch := omega) only [List.map_nil, List.length_nil, go_sem, seval] | ((with_reducible refine isS ?_); first | refine cS (hc) ?_ | refine cS (hkey) ?_ | refine cS (hz2) ?_ | fail) | ((with_reducible refine isT ?_); first | refine cT (hc) ?_ | refine cT (hkey) ?_ | refine cT (hz2) ?_ | fail) | ((with_reducible refine isE ?_); refine eA ?_; (repeat' (first | exact le_tq0 rfl | exact le_tq0r rfl | refine le_tqr rfl ?_ | refine le_tq rfl ?_ | exact trivial | refine le_int ?_ | refine le_bool ?_ | refine le_str ?_ | refine le_sl ?_ | refine le_own ?_ | refine le_osl ?_ | refine le_nsl ?_ | exact rfl | refine ⟨?_, ?_⟩ | fail))) | ((with_reducible refine isI ?_ ?_); (kernel_rfl)) | fail)
      · rw [if_pos ⟨rfl, hz⟩] at h
        cases h
        rw [decide_eq_false hz] at hz2
        cases hd
        · have h2 : s = .zero := h2.resolve_left (by simp)
          rw [decide_eq_true h2] at hz1
          refine sh_start mixed F17 rfl ⟨(by first | exact rfl | (simp only [go_sem, seval]; done) | (simp only [go_sem, seval]; exact rfl)), (by first | exact rfl | (simp only [go_sem, seval]; done) | (simp only [go_sem, seval]; exact rfl)), (by first | exact rfl | (simp only [go_sem, seval]; done) | (simp only [go_sem, seval]; exact rfl)), (by first | exact rfl | (simp only [go_sem, seval]; done) | (simp only [go_sem, seval]; exact rfl)), (by first | exact rfl | (simp only [go_sem, seval]; done) | (simp only [go_sem, seval]; exact rfl))⟩ ?_
          repeat' (first | (with_reducible exact trivial) | simp (maxSteps := 2000000) (disch := omega) only [List.map_nil, List.length_nil, go_sem, seval] | ((with_reducible refine isS ?_); first | refine cS (hc) ?_ | refine cS (hkey) ?_ | refine cS (hz1) ?_ | refine cS (hz2) ?_ | refine cS (hr2) ?_ | fail) | ((with_reducible refine isT ?_); first | refine cT (hc) ?_ | refine cT (hkey) ?_ | refine cT (hz1) ?_ | refine cT (hz2) ?_ | refine cT (hr2) ?_ | fail) | ((with_reducible refine isE ?_); refine eA ?_; (repeat' (first | exact le_tq0 rfl | exact le_tq0r rfl | refine le_tqr rfl ?_ | refine le_tq rfl ?_ | exact trivial | refine le_int ?_ | refine le_bool ?_ | refine le_str ?_ | refine le_sl ?_ | refine le_own ?_ | refine le_osl ?_ | refine le_nsl ?_ | exact rfl | refine ⟨?_, ?_⟩ | fail))) | ((with_reducible refine isI ?_ ?_); (kernel_rfl)) | fail)
        · refine sh_start mixed F17 rfl ⟨(by first | exact rfl | (simp only [go_sem, seval]; done) | (simp only [go_sem, seval]; exact rfl)), (by first | exact rfl | (simp only [go_sem, seval]; done) | (simp only [go_sem, seval]; exact rfl)), (by first | exact rfl | (simp only [go_sem, seval]; done) | (simp only [go_sem, seval]; exact rfl)), (by first | exact rfl | (simp only [go_sem, seval]; done) | (simp only [go_sem, seval]; exact rfl)), (by first | exact rfl | (simp only [go_sem, seval]; done) | (simp only [go_sem, seval]; exact rfl))⟩ ?_
          repeat' (first | (with_reducible exact trivial) | simp (maxSteps := 2000000) (disch := omega) only [List.map_nil, List.length_nil, go_sem, seval] | ((with_reducible refine isS ?_); first | refine cS (hc) ?_ | refine cS (hkey) ?_ | refine cS (hz2) ?_ | refine cS (hr2) ?_ | fail) | ((with_reducible refine isT ?_); first | refine cT (hc) ?_ | refine cT (hkey) ?_ | refine cT (hz2) ?_ | refine cT (hr2) ?_ | fail) | ((with_reducible refine isE ?_); refine eA ?_; (repeat' (first | exact le_tq0 rfl | exact le_tq0r rfl | refine le_tqr rfl ?_ | refine le_tq rfl ?_ | exact trivial | refine le_int ?_ | refine le_bool ?_ | refine le_str ?_ | refine le_sl ?_ | refine le_own ?_ | refine le_osl ?_ | refine le_nsl ?_ | exact rfl | refine ⟨?_, ?_⟩ | fail))) | ((with_reducible refine isI ?_ ?_); (kernel_rfl)) | fail)
  · rw [if_neg hh] at h
    cases h
    obtain ⟨b, n, o, l⟩ := s
    generalize hRe : renewV t ⟨b, n, o, l⟩ = R at hr1 hrl
    have hsg : sigK t ⟨b, n, o, l⟩ c = if l = false ∧ meaning t c ≤ 9 then meaning t c else 0 := rfl
    rw [hsg]
    generalize meaning t c = f at hm
    have he : ∃ z, Good Tryd.prog Γ 39 [edA ⟨b, n, o, l⟩, edA .zero] [] (.ret (.bool z)) [] ∧ (edit = false ∨ (edit = true ∧ hd = false ∧ z = false) ∨ (edit = true ∧ hd = false ∧ z = true ∧ ∃ e, ev = [e]) ∨ (edit = true ∧ hd = true ∧ ∃ e, ev = [e])) := by
      refine ⟨_, hz1, ?_⟩
      cases edit
      · exact .inl rfl
      · right
        cases hd
        · by_cases hz : (⟨b, n, o, l⟩ : Ed) = .zero
          · right; left
            refine ⟨rfl, rfl, decide_eq_true hz, ?_⟩
            rcases one_cases hev with rfl | he
            · exact absurd ⟨rfl, .inr hz, rfl⟩ hh
            · exact he
          · exact .inl ⟨rfl, rfl, decide_eq_false hz⟩
        · right; right
          refine ⟨rfl, rfl, ?_⟩
          rcases one_cases hev with rfl | he
          · exact absurd ⟨rfl, .inl rfl, rfl⟩ hh
          · exact he
    obtain ⟨z, hzz, he⟩ := he
    clear hz1 hsg hh
    have hl : (l = true ∧ (if l = false ∧ f ≤ 9 then f else 0) = 0) ∨ (l = false ∧ f ≤ 9 ∧ (if l = false ∧ f ≤ 9 then f else 0) = f) ∨ (l = false ∧ ¬ f ≤ 9 ∧ (if l = false ∧ f ≤ 9 then f else 0) = 0) := by
      cases l
      · by_cases hf : f ≤ 9
        · exact .inr (.inl ⟨rfl, hf, if_pos ⟨rfl, hf⟩⟩)
        · exact .inr (.inr ⟨rfl, hf, if_neg (fun e => hf e.2)⟩)
      · exact .inl ⟨rfl, if_neg (by simp)⟩
    generalize (if l = false ∧ f ≤ 9 then f else 0) = sg at hl ⊢
    cases hd <;> cases z <;> rcases he with rfl | ⟨rfl, he, hz⟩ | ⟨rfl, he, hz, e, rfl⟩ | ⟨rfl, he, e, rfl⟩
    all_goals try cases he
    all_goals try cases hz
    all_goals first | rw [if_neg (show ¬ (false = true) by simp)] | rw [if_pos rfl]
    all_goals rcases hl with ⟨rfl, rfl⟩ | ⟨rfl, hf, rfl⟩ | ⟨rfl, hf, rfl⟩
    all_goals
      refine sh_start mixed F17 rfl ⟨(by first | exact rfl | (simp only [go_sem, seval]; done) | (simp only [go_sem, seval]; exact rfl)), (by first | exact rfl | (simp only [go_sem, seval]; done) | (simp only [go_sem, seval]; exact rfl)), (by first | exact rfl | (simp only [go_sem, seval]; done) | (simp only [go_sem, seval]; exact rfl)), (by first | exact rfl | (simp only [go_sem, seval]; done) | (simp only [go_sem, seval]; exact rfl)), (by first | exact rfl | (simp only [go_sem, seval]; done) | (simp only [go_sem, seval]; exact rfl))⟩ ?_
      repeat' (first | (with_reducible exact trivial) | simp (maxSteps := 2000000) (disch := omega) only [by1_nil, bys_cat, bys_length, List.map_cons, List.map_nil, List.length_cons, List.length_nil, go_sem, seval] | ((with_reducible refine isS ?_); first | refine cS (hc) ?_ | refine cS (hkey) ?_ | refine cS (hzz) ?_ | refine cS (hm) ?_ | refine cS (hr1) ?_ | fail) | ((with_reducible refine isT ?_); first | refine cT (hc) ?_ | refine cT (hkey) ?_ | refine cT (hzz) ?_ | refine cT (hm) ?_ | refine cT (hr1) ?_ | fail) | ((with_reducible refine isE ?_); refine eA ?_; (repeat' (first | exact le_tq0 rfl | exact le_tq0r rfl | refine le_tqr rfl ?_ | refine le_tq rfl ?_ | exact trivial | refine le_int ?_ | refine le_bool ?_ | refine le_str ?_ | refine le_sl ?_ | refine le_own ?_ | refine le_osl ?_ | refine le_nsl ?_ | exact rfl | (rfl; done) | refine ⟨?_, ?_⟩ | fail))) | ((with_reducible refine isI ?_ ?_); (kernel_rfl)) | fail)
theorem gRTTypeNo (t : Tbl) (room : Int) (b : List UInt8) (n : Int) (o l h : Bool) (c : UInt8) (edit fwd : Bool) (hs : ¬ mayL b n) : Good Tryd.prog Γ 17 [.agg (tq t), .int .i64 room, tkI b n o l h, hwA c edit fwd] [] (.ret (.tup [tkI b n o l h, tyA [] 0 false])) [] := by
  have hc := gERMayI (Γ := Γ) b n o l
  rw [decide_eq_false hs] at hc
  refine sh_start mixed F17 rfl ⟨(by first | exact rfl | (simp only [go_sem, seval]; done) | (simp only [go_sem, seval]; exact rfl)), (by first | exact rfl | (simp only [go_sem, seval]; done) | (simp only [go_sem, seval]; exact rfl)), (by first | exact rfl | (simp only [go_sem, seval]; done) | (simp only [go_sem, seval]; exact rfl)), (by first | exact rfl | (simp only [go_sem, seval]; done) | (simp only [go_sem, seval]; exact rfl)), (by first | exact rfl | (simp only [go_sem, seval]; done) | (simp only [go_sem, seval]; exact rfl))⟩ ?_
  repeat' (first | (with_reducible exact trivial) | simp (maxSteps := 2000000) (disch := omega) only [go_sem, seval] | ((with_reducible refine isS ?_); first | refine cS (hc) ?_ | fail) | ((with_reducible refine isT ?_); first | refine cT (hc) ?_ | fail) | ((with_reducible refine isE ?_); refine eA ?_; (repeat' (first | exact le_tq0 rfl | exact le_tq0r rfl | refine le_tqr rfl ?_ | refine le_tq rfl ?_ | exact trivial | refine le_int ?_ | refine le_bool ?_ | refine le_str ?_ | refine le_sl ?_ | refine le_own ?_ | refine le_osl ?_ | refine le_nsl ?_ | exact rfl | refine ⟨?_, ?_⟩ | fail))) | ((with_reducible refine isI ?_ ?_); (kernel_rfl)) | fail)
end Go.Proofs.YtmkblhinpnodaaaDoor
