/- Layer 15: a key is typed. Own work. -/
import Derived.Test.YtmkblhinpnodaaaDoorWb
import Derived.Test.YtmkblhinpnodaaaDoorZ3
namespace Go.Proofs.YtmkblhinpnodaaaDoor
open Go Go.Shade
variable {Γ : Globs}
set_option maxHeartbeats 4000000 in
theorem gTType (t : Tbl) (room : Int) (k : Tk) (c : UInt8) (edit fwd : Bool) (hs : k.s.ok) {k' : Tk} {ks : List UInt8} {sg : Nat} {bl : Bool} (h : typeK t room k c edit fwd = (k', ks, sg, bl)) :
    Good Tryd.prog Γ 11 [.agg (tq t), .int .i64 room, tkA k, .int .u8 c.toNat, .bool edit, .bool fwd] [] (.ret (.tup [tkA k', tyA ks sg bl])) [] := by
  have hc := gTCheck (Γ := Γ) k hs
  obtain ⟨s, hd⟩ := k
  simp only at hs
  obtain ⟨nx, ev, be, hk⟩ : ∃ nx ev be, keyV t room s c = (nx, ev, be) := ⟨_, _, _, rfl⟩
  have hnx : nx.ok := by have := key_ok (t := t) (room := room) (k := c) hs; rw [hk] at this; exact this
  have hkey := gEKey (Γ := Γ) t room s c hs hk
  have hev := key_one t s room c
  rw [hk] at hev
  simp only at hev
  have hz1 := gTZero (Γ := Γ) s
  have hz2 := gTZero (Γ := Γ) nx
  have hsg := gTSignal (Γ := Γ) t s c
  have hrl := (renew_len t s hs.2).2
  have hrn := (renew_len t nx hnx.2).2
  have hsl := hs.1
  have hnl := hnx.1
  unfold typeK at h
  rw [hk] at h
  simp only at h
  by_cases hh : holdsV ⟨s, hd⟩ edit ev
  · rw [if_pos hh] at h
    obtain ⟨rfl, h2, rfl⟩ := hh
    simp only at h2
    have hp := gFlowPass (Γ := Γ) t nx s hd hnx
    have h2 : ∃ z, Good Tryd.prog Γ 32 [edA s] [] (.ret (.bool z)) [] ∧ (hd = true ∨ (hd = false ∧ z = true)) := by
      refine ⟨_, hz1, ?_⟩
      cases hd
      · exact .inr ⟨rfl, decide_eq_true (h2.resolve_left (by simp))⟩
      · exact .inl rfl
    have hw : ∃ y, Good Tryd.prog Γ 32 [edA nx] [] (.ret (.bool y)) [] ∧ ((fwd = true ∧ y = false ∧ k' = ⟨nx, false⟩ ∧ ks = renewV t nx ∧ sg = 0 ∧ be = bl) ∨ (fwd = false ∧ k' = ⟨nx, true⟩ ∧ ks = [] ∧ sg = 0 ∧ be = bl) ∨ (fwd = true ∧ y = true ∧ k' = ⟨nx, true⟩ ∧ ks = [] ∧ sg = 0 ∧ be = bl)) := by
      refine ⟨_, hz2, ?_⟩
      by_cases hw : fwd = true ∧ nx ≠ .zero
      · rw [if_pos hw] at h
        cases h
        exact .inl ⟨hw.1, decide_eq_false hw.2, rfl, rfl, rfl, rfl⟩
      · rw [if_neg hw] at h
        cases h
        cases fwd
        · exact .inr (.inl ⟨rfl, rfl, rfl, rfl, rfl⟩)
        · exact .inr (.inr ⟨rfl, decide_eq_true (Classical.not_not.1 fun e => hw ⟨rfl, e⟩), rfl, rfl, rfl, rfl⟩)
    clear h hz1 hz2
    obtain ⟨z, hz1, h2⟩ := h2
    obtain ⟨y, hz2, hw⟩ := hw
    rcases h2 with rfl | ⟨rfl, rfl⟩ <;> rcases hw with ⟨rfl, rfl, rfl, rfl, rfl, rfl⟩ | ⟨rfl, rfl, rfl, rfl, rfl⟩ | ⟨rfl, rfl, rfl, rfl, rfl, rfl⟩
    all_goals
      refine sh_start mixed F11 rfl ⟨(by first | exact rfl | (simp only [go_sem, seval]; done) | (simp only [go_sem, seval]; exact rfl)), (by first | exact rfl | (simp only [go_sem, seval]; done) | (simp only [go_sem, seval]; exact rfl)), (by first | exact rfl | (simp only [go_sem, seval]; done) | (simp only [go_sem, seval]; exact rfl)), (by first | exact rfl | (simp only [go_sem, seval]; done) | (simp only [go_sem, seval]; exact rfl)), (by first | exact rfl | (simp only [go_sem, seval]; done) | (simp only [go_sem, seval]; exact rfl))⟩ ?_
      repeat' (first | (with_reducible exact trivial) | simp (maxSteps := 2000000) (disch := omega) only [tz62_len, List.map_nil, List.length_nil, go_sem, seval] | ((with_reducible refine isS ?_); first | refine cS (hc) ?_ | refine cS (hkey) ?_ | refine cS (hz1) ?_ | refine cS (hz2) ?_ | refine cSA (hp) ?_ | fail) | ((with_reducible refine isT ?_); first | refine cT (hc) ?_ | refine cT (hkey) ?_ | refine cT (hz1) ?_ | refine cT (hz2) ?_ | refine cTA (hp) ?_ | fail) | ((with_reducible refine isE ?_); refine eA ?_; (repeat' (first | exact le_tq0 rfl | exact le_tq0r rfl | refine le_tqr rfl ?_ | refine le_tq rfl ?_ | exact trivial | refine le_int ?_ | refine le_bool ?_ | refine le_str ?_ | refine le_sl ?_ | refine le_own ?_ | refine le_osl ?_ | refine le_nsl ?_ | exact rfl | refine ⟨?_, ?_⟩ | fail))) | ((with_reducible refine isI ?_ ?_); (kernel_rfl)) | fail)
  · rw [if_neg hh] at h
    cases h
    have hp := gFlowPass (Γ := Γ) t s s true hs
    generalize hRe : renewV t s = R at hp hrl
    have he : ∃ z, Good Tryd.prog Γ 32 [edA s] [] (.ret (.bool z)) [] ∧ (edit = false ∨ (edit = true ∧ hd = false ∧ z = false) ∨ (edit = true ∧ hd = false ∧ z = true ∧ ∃ e, ev = [e]) ∨ (edit = true ∧ hd = true ∧ ∃ e, ev = [e])) := by
      refine ⟨_, hz1, ?_⟩
      cases edit
      · exact .inl rfl
      · right
        cases hd
        · by_cases hz : s = .zero
          · right; left
            refine ⟨rfl, rfl, decide_eq_true hz, ?_⟩
            rcases one_cases hev with rfl | he
            · exact absurd ⟨rfl, .inr hz, rfl⟩ hh
            · exact he
          · exact .inl ⟨rfl, rfl, decide_eq_false hz⟩
        · right; right
          refine ⟨rfl, rfl, ?_⟩
          rcases one_cases hev with rfl | he
          · exact absurd ⟨rfl, .inl rfl, rfl⟩ hh
          · exact he
    obtain ⟨z, hzz, he⟩ := he
    clear hz1 hh
    cases hd <;> rcases he with rfl | ⟨rfl, he, hz⟩ | ⟨rfl, he, hz, e, rfl⟩ | ⟨rfl, he, e, rfl⟩
    all_goals try cases he
    all_goals try cases hz
    all_goals first | rw [if_neg (show ¬ (false = true) by simp)] | rw [if_pos rfl]
    all_goals
      refine sh_start mixed F11 rfl ⟨(by first | exact rfl | (simp only [go_sem, seval]; done) | (simp only [go_sem, seval]; exact rfl)), (by first | exact rfl | (simp only [go_sem, seval]; done) | (simp only [go_sem, seval]; exact rfl)), (by first | exact rfl | (simp only [go_sem, seval]; done) | (simp only [go_sem, seval]; exact rfl)), (by first | exact rfl | (simp only [go_sem, seval]; done) | (simp only [go_sem, seval]; exact rfl)), (by first | exact rfl | (simp only [go_sem, seval]; done) | (simp only [go_sem, seval]; exact rfl))⟩ ?_
      repeat' (first | (with_reducible exact trivial) | simp (maxSteps := 2000000) (disch := omega) only [tz62_len, by1_nil, bys_cat, bys_length, List.map_cons, List.map_nil, List.length_cons, List.length_nil, go_sem, seval] | ((with_reducible refine isS ?_); first | refine cS (hc) ?_ | refine cS (hkey) ?_ | refine cS (hsg) ?_ | refine cS (hzz) ?_ | refine cSA (hp) ?_ | fail) | ((with_reducible refine isT ?_); first | refine cT (hc) ?_ | refine cT (hkey) ?_ | refine cT (hsg) ?_ | refine cT (hzz) ?_ | refine cTA (hp) ?_ | fail) | ((with_reducible refine isE ?_); refine eA ?_; (repeat' (first | exact le_tq0 rfl | exact le_tq0r rfl | refine le_tqr rfl ?_ | refine le_tq rfl ?_ | exact trivial | refine le_int ?_ | refine le_bool ?_ | refine le_str ?_ | refine le_sl ?_ | refine le_own ?_ | refine le_osl ?_ | refine le_nsl ?_ | exact rfl | (rfl; done) | refine ⟨?_, ?_⟩ | fail))) | ((with_reducible refine isI ?_ ?_); (kernel_rfl)) | fail)
theorem gTTypeNo (t : Tbl) (room : Int) (b : List UInt8) (n : Int) (o l h : Bool) (c : UInt8) (edit fwd : Bool) (hs : ¬ mayL b n) : Good Tryd.prog Γ 11 [.agg (tq t), .int .i64 room, tkI b n o l h, .int .u8 c.toNat, .bool edit, .bool fwd] [] (.ret (.tup [tkI b n o l h, tyA [] 0 false])) [] := by
  have hc := gTCheckI (Γ := Γ) b n o l h
  rw [if_neg hs] at hc
  refine sh_start mixed F11 rfl ⟨(by first | exact rfl | (simp only [go_sem, seval]; done) | (simp only [go_sem, seval]; exact rfl)), (by first | exact rfl | (simp only [go_sem, seval]; done) | (simp only [go_sem, seval]; exact rfl)), (by first | exact rfl | (simp only [go_sem, seval]; done) | (simp only [go_sem, seval]; exact rfl)), (by first | exact rfl | (simp only [go_sem, seval]; done) | (simp only [go_sem, seval]; exact rfl)), (by first | exact rfl | (simp only [go_sem, seval]; done) | (simp only [go_sem, seval]; exact rfl))⟩ ?_
  repeat' (first | (with_reducible exact trivial) | simp (maxSteps := 2000000) (disch := omega) only [go_sem, seval] | ((with_reducible refine isS ?_); first | refine cS (hc) ?_ | fail) | ((with_reducible refine isT ?_); first | refine cT (hc) ?_ | fail) | ((with_reducible refine isE ?_); refine eA ?_; (repeat' (first | exact le_tq0 rfl | exact le_tq0r rfl | refine le_tqr rfl ?_ | refine le_tq rfl ?_ | exact trivial | refine le_int ?_ | refine le_bool ?_ | refine le_str ?_ | refine le_sl ?_ | refine le_own ?_ | refine le_osl ?_ | refine le_nsl ?_ | exact rfl | refine ⟨?_, ?_⟩ | fail))) | ((with_reducible refine isI ?_ ?_); (kernel_rfl)) | fail)
/-! The document's -/
theorem gRTPass (t : Tbl) (k : Tk) (hs : k.s.ok) : Good Tryd.prog Γ 16 [.agg (tq t), tkA k] [] (.ret (.tup [tkA (passV t k).1, .sl 1 (bys (passV t k).2)])) [] := by
  have hc := gERMayI (Γ := Γ) k.s.b k.s.n k.s.o k.s.l
  rw [decide_eq_true ⟨hs.1, by omega, by have := hs.2; omega⟩] at hc
  have hr := gRRenew (Γ := Γ) t k.s hs
  obtain ⟨s, h⟩ := k
  simp only at hs hc hr
  unfold passV
  cases h
  · rw [if_neg (by simp)]
    refine sh_start mixed F16 rfl ⟨(by first | exact rfl | (simp only [go_sem, seval]; done) | (simp only [go_sem, seval]; exact rfl)), (by first | exact rfl | (simp only [go_sem, seval]; done) | (simp only [go_sem, seval]; exact rfl)), (by first | exact rfl | (simp only [go_sem, seval]; done) | (simp only [go_sem, seval]; exact rfl)), (by first | exact rfl | (simp only [go_sem, seval]; done) | (simp only [go_sem, seval]; exact rfl)), (by first | exact rfl | (simp only [go_sem, seval]; done) | (simp only [go_sem, seval]; exact rfl))⟩ ?_
    repeat' (first | (with_reducible exact trivial) | simp (maxSteps := 2000000) (disch := omega) only [go_sem, seval] | ((with_reducible refine isS ?_); first | refine cS (hc) ?_ | fail) | ((with_reducible refine isT ?_); first | refine cT (hc) ?_ | fail) | ((with_reducible refine isE ?_); refine eA ?_; (repeat' (first | exact le_tq0 rfl | exact le_tq0r rfl | refine le_tqr rfl ?_ | refine le_tq rfl ?_ | exact trivial | refine le_int ?_ | refine le_bool ?_ | refine le_str ?_ | refine le_sl ?_ | refine le_own ?_ | refine le_osl ?_ | refine le_nsl ?_ | exact rfl | refine ⟨?_, ?_⟩ | fail))) | ((with_reducible refine isI ?_ ?_); (kernel_rfl)) | fail)
  · rw [if_pos rfl]
    refine sh_start mixed F16 rfl ⟨(by first | exact rfl | (simp only [go_sem, seval]; done) | (simp only [go_sem, seval]; exact rfl)), (by first | exact rfl | (simp only [go_sem, seval]; done) | (simp only [go_sem, seval]; exact rfl)), (by first | exact rfl | (simp only [go_sem, seval]; done) | (simp only [go_sem, seval]; exact rfl)), (by first | exact rfl | (simp only [go_sem, seval]; done) | (simp only [go_sem, seval]; exact rfl)), (by first | exact rfl | (simp only [go_sem, seval]; done) | (simp only [go_sem, seval]; exact rfl))⟩ ?_
    repeat' (first | (with_reducible exact trivial) | simp (maxSteps := 2000000) (disch := omega) only [go_sem, seval] | ((with_reducible refine isS ?_); first | refine cS (hc) ?_ | refine cS (hr) ?_ | fail) | ((with_reducible refine isT ?_); first | refine cT (hc) ?_ | refine cT (hr) ?_ | fail) | ((with_reducible refine isE ?_); refine eA ?_; (repeat' (first | exact le_tq0 rfl | exact le_tq0r rfl | refine le_tqr rfl ?_ | refine le_tq rfl ?_ | exact trivial | refine le_int ?_ | refine le_bool ?_ | refine le_str ?_ | refine le_sl ?_ | refine le_own ?_ | refine le_osl ?_ | refine le_nsl ?_ | exact rfl | refine ⟨?_, ?_⟩ | fail))) | ((with_reducible refine isI ?_ ?_); (kernel_rfl)) | fail)
theorem gRTPassNo (t : Tbl) (b : List UInt8) (n : Int) (o l h : Bool) (hs : ¬ mayL b n) : Good Tryd.prog Γ 16 [.agg (tq t), tkI b n o l h] [] (.ret (.tup [tkI b n o l h, .sl 1 []])) [] := by
  have hc := gERMayI (Γ := Γ) b n o l
  rw [decide_eq_false hs] at hc
  refine sh_start mixed F16 rfl ⟨(by first | exact rfl | (simp only [go_sem, seval]; done) | (simp only [go_sem, seval]; exact rfl)), (by first | exact rfl | (simp only [go_sem, seval]; done) | (simp only [go_sem, seval]; exact rfl)), (by first | exact rfl | (simp only [go_sem, seval]; done) | (simp only [go_sem, seval]; exact rfl)), (by first | exact rfl | (simp only [go_sem, seval]; done) | (simp only [go_sem, seval]; exact rfl)), (by first | exact rfl | (simp only [go_sem, seval]; done) | (simp only [go_sem, seval]; exact rfl))⟩ ?_
  repeat' (first | (with_reducible exact trivial) | simp (maxSteps := 2000000) (disch := omega) only [go_sem, seval] | ((with_reducible refine isS ?_); first | refine cS (hc) ?_ | fail) | ((with_reducible refine isT ?_); first | refine cT (hc) ?_ | fail) | ((with_reducible refine isE ?_); refine eA ?_; (repeat' (first | exact le_tq0 rfl | exact le_tq0r rfl | refine le_tqr rfl ?_ | refine le_tq rfl ?_ | exact trivial | refine le_int ?_ | refine le_bool ?_ | refine le_str ?_ | refine le_sl ?_ | refine le_own ?_ | refine le_osl ?_ | refine le_nsl ?_ | exact rfl | refine ⟨?_, ?_⟩ | fail))) | ((with_reducible refine isI ?_ ?_); (kernel_rfl)) | fail)
end Go.Proofs.YtmkblhinpnodaaaDoor
