/- Layer 15: TalkTells, TalkPass. Own work. -/
import Derived.Test.YtmkblhinpnodaaaDoorWd
import Derived.Test.YtmkblhinpnodaaaDoorZ3
import Derived.Test.YtmkblhinpnodaaaDoorWl
namespace Go.Proofs.YtmkblhinpnodaaaDoor
open Go Go.Shade
variable {Γ : Globs}
set_option maxHeartbeats 4000000 in
theorem gLTTells (t : Tbl) (room : Int) (b : List UInt8) (n : Int) (o l h : Bool) (c : UInt8) (edit fwd : Bool) : Good Tryd.prog ΓT 5 [dtA t room, tkI b n o l h, hwA c edit fwd] [] (.ret (.bool true)) [] := by
  have h0 := gTOne (Γ := ΓT) b n o l h
  generalize fewL b = a at h0
  have hck := gTCheckI (Γ := ΓT) a n o l h
  have hmy := gERMayI (Γ := ΓT) a n o l
  by_cases hm : mayL a n
  · rw [if_pos hm] at hck
    rw [decide_eq_true hm] at hmy
    obtain ⟨hb, hn1, hn2⟩ := hm
    obtain ⟨m, rfl⟩ : ∃ k : Nat, n = k := ⟨n.toNat, by omega⟩
    have hs : Ed.ok ⟨a, m, o, l⟩ := ⟨hb, by simp only; omega⟩
    obtain ⟨k', ks, sg, bl, hty⟩ : ∃ k' ks sg bl, typeK t room ⟨⟨a, m, o, l⟩, h⟩ c edit fwd = (k', ks, sg, bl) := ⟨_, _, _, _, rfl⟩
    have g1 := gTType (Γ := ΓT) t room ⟨⟨a, m, o, l⟩, h⟩ c edit fwd hs hty
    have g2 := gRTType (Γ := ΓT) t room ⟨⟨a, m, o, l⟩, h⟩ c edit fwd hs hty
    have g4 := gRTPass (Γ := ΓT) t ⟨⟨a, m, o, l⟩, h⟩ hs
    have s2 := gRTSame (Γ := ΓT) k' k'
    rw [decide_eq_true rfl] at s2
    have o2 := gOctets (Γ := ΓT) ks ks
    rw [decide_eq_true rfl] at o2
    have s3 := gTSame (Γ := ΓT) ⟨⟨a, m, o, l⟩, false⟩ k'
    have s4 := gRTSame (Γ := ΓT) ⟨⟨a, m, o, l⟩, false⟩ k'
    have s1 := gRTSame (Γ := ΓT) ⟨⟨a, m, o, l⟩, false⟩ ⟨⟨a, m, o, l⟩, false⟩
    rw [decide_eq_true rfl] at s1
    generalize decide ((⟨⟨a, m, o, l⟩, false⟩ : Tk) = k') = y at s3 s4
    cases h
    · have g3 := gTPassN (Γ := ΓT) t ⟨a, m, o, l⟩ hs
      have o1 := gOctets (Γ := ΓT) [] []
      rw [decide_eq_true rfl] at o1
      cases y
      all_goals
        refine sh_start mixed F5 rfl ⟨(by first | exact rfl | (simp only [go_sem, seval]; done) | (simp only [go_sem, seval]; exact rfl)), (by first | exact rfl | (simp only [go_sem, seval]; done) | (simp only [go_sem, seval]; exact rfl)), (by first | exact rfl | (simp only [go_sem, seval]; done) | (simp only [go_sem, seval]; exact rfl)), (by first | exact rfl | (simp only [go_sem, seval]; done) | (simp only [go_sem, seval]; exact rfl)), (by first | exact rfl | (simp only [go_sem, seval]; done) | (simp only [go_sem, seval]; exact rfl))⟩ ?_
        repeat' (first | (with_reducible exact trivial) | simp (maxSteps := 2000000) (disch := omega) only [go_sem, seval] | ((with_reducible refine isS ?_); first | refine cS (h0) ?_ | refine cS (hck) ?_ | refine cS (hmy) ?_ | refine cS (g1) ?_ | refine cS (g2) ?_ | refine cS (g3) ?_ | refine cS (g4) ?_ | refine cS (s1) ?_ | refine cS (s2) ?_ | refine cS (o1) ?_ | refine cS (o2) ?_ | refine cS (s3) ?_ | refine cS (s4) ?_ | refine cS (gTAwake) ?_ | fail) | ((with_reducible refine isT ?_); first | refine cT (h0) ?_ | refine cT (hck) ?_ | refine cT (hmy) ?_ | refine cT (g1) ?_ | refine cT (g2) ?_ | refine cT (g3) ?_ | refine cT (g4) ?_ | refine cT (s1) ?_ | refine cT (s2) ?_ | refine cT (o1) ?_ | refine cT (o2) ?_ | refine cT (s3) ?_ | refine cT (s4) ?_ | refine cT (gTAwake) ?_ | fail) | ((with_reducible refine isE ?_); refine eA ?_; (repeat' (first | exact le_tq0 rfl | exact le_tq0r rfl | refine le_tqr rfl ?_ | refine le_tq rfl ?_ | exact trivial | refine le_int ?_ | refine le_bool ?_ | refine le_str ?_ | refine le_sl ?_ | refine le_own ?_ | refine le_osl ?_ | refine le_nsl ?_ | exact rfl | refine ⟨?_, ?_⟩ | fail))) | ((with_reducible refine isI ?_ ?_); (kernel_rfl)) | fail)
    · have g3 := gTPassH (Γ := ΓT) t ⟨a, m, o, l⟩ hs
      unfold passV at g4
      rw [if_pos rfl] at g4
      simp only at g4
      generalize renewV t ⟨a, m, o, l⟩ = R at g3 g4
      have o1 := gOctets (Γ := ΓT) R R
      rw [decide_eq_true rfl] at o1
      cases y
      all_goals
        refine sh_start mixed F5 rfl ⟨(by first | exact rfl | (simp only [go_sem, seval]; done) | (simp only [go_sem, seval]; exact rfl)), (by first | exact rfl | (simp only [go_sem, seval]; done) | (simp only [go_sem, seval]; exact rfl)), (by first | exact rfl | (simp only [go_sem, seval]; done) | (simp only [go_sem, seval]; exact rfl)), (by first | exact rfl | (simp only [go_sem, seval]; done) | (simp only [go_sem, seval]; exact rfl)), (by first | exact rfl | (simp only [go_sem, seval]; done) | (simp only [go_sem, seval]; exact rfl))⟩ ?_
        repeat' (first | (with_reducible exact trivial) | simp (maxSteps := 2000000) (disch := omega) only [go_sem, seval] | ((with_reducible refine isS ?_); first | refine cS (h0) ?_ | refine cS (hck) ?_ | refine cS (hmy) ?_ | refine cS (g1) ?_ | refine cS (g2) ?_ | refine cS (g3) ?_ | refine cS (g4) ?_ | refine cS (s1) ?_ | refine cS (s2) ?_ | refine cS (o1) ?_ | refine cS (o2) ?_ | refine cS (s3) ?_ | refine cS (s4) ?_ | refine cS (gTAwake) ?_ | fail) | ((with_reducible refine isT ?_); first | refine cT (h0) ?_ | refine cT (hck) ?_ | refine cT (hmy) ?_ | refine cT (g1) ?_ | refine cT (g2) ?_ | refine cT (g3) ?_ | refine cT (g4) ?_ | refine cT (s1) ?_ | refine cT (s2) ?_ | refine cT (o1) ?_ | refine cT (o2) ?_ | refine cT (s3) ?_ | refine cT (s4) ?_ | refine cT (gTAwake) ?_ | fail) | ((with_reducible refine isE ?_); refine eA ?_; (repeat' (first | exact le_tq0 rfl | exact le_tq0r rfl | refine le_tqr rfl ?_ | refine le_tq rfl ?_ | exact trivial | refine le_int ?_ | refine le_bool ?_ | refine le_str ?_ | refine le_sl ?_ | refine le_own ?_ | refine le_osl ?_ | refine le_nsl ?_ | exact rfl | refine ⟨?_, ?_⟩ | fail))) | ((with_reducible refine isI ?_ ?_); (kernel_rfl)) | fail)
  · rw [if_neg hm] at hck
    rw [decide_eq_false hm] at hmy
    have g1 := gTTypeNo (Γ := ΓT) t room a n o l h c edit fwd hm
    have g2 := gRTTypeNo (Γ := ΓT) t room a n o l h c edit fwd hm
    have g3 := gTPassNo (Γ := ΓT) t a n o l h hm
    have g4 := gRTPassNo (Γ := ΓT) t a n o l h hm
    have s1 := gTSameI (Γ := ΓT) a a n n o o l l h h
    rw [decide_eq_true ⟨⟨rfl, rfl, rfl, rfl⟩, rfl⟩] at s1
    have s2 := gRTSameI (Γ := ΓT) a a n n o o l l h h
    rw [decide_eq_true ⟨⟨rfl, rfl, rfl, rfl⟩, rfl⟩] at s2
    have o1 := gOctets (Γ := ΓT) [] []
    rw [decide_eq_true rfl] at o1
    refine sh_start mixed F5 rfl ⟨(by first | exact rfl | (simp only [go_sem, seval]; done) | (simp only [go_sem, seval]; exact rfl)), (by first | exact rfl | (simp only [go_sem, seval]; done) | (simp only [go_sem, seval]; exact rfl)), (by first | exact rfl | (simp only [go_sem, seval]; done) | (simp only [go_sem, seval]; exact rfl)), (by first | exact rfl | (simp only [go_sem, seval]; done) | (simp only [go_sem, seval]; exact rfl)), (by first | exact rfl | (simp only [go_sem, seval]; done) | (simp only [go_sem, seval]; exact rfl))⟩ ?_
    repeat' (first | (with_reducible exact trivial) | simp (maxSteps := 2000000) (disch := omega) only [go_sem, seval] | ((with_reducible refine isS ?_); first | refine cS (h0) ?_ | refine cS (hck) ?_ | refine cS (hmy) ?_ | refine cS (g1) ?_ | refine cS (g2) ?_ | refine cS (g3) ?_ | refine cS (g4) ?_ | refine cS (s1) ?_ | refine cS (s2) ?_ | refine cS (o1) ?_ | refine cS (gTAwake) ?_ | fail) | ((with_reducible refine isT ?_); first | refine cT (h0) ?_ | refine cT (hck) ?_ | refine cT (hmy) ?_ | refine cT (g1) ?_ | refine cT (g2) ?_ | refine cT (g3) ?_ | refine cT (g4) ?_ | refine cT (s1) ?_ | refine cT (s2) ?_ | refine cT (o1) ?_ | refine cT (gTAwake) ?_ | fail) | ((with_reducible refine isE ?_); refine eA ?_; (repeat' (first | exact le_tq0 rfl | exact le_tq0r rfl | refine le_tqr rfl ?_ | refine le_tq rfl ?_ | exact trivial | refine le_int ?_ | refine le_bool ?_ | refine le_str ?_ | refine le_sl ?_ | refine le_own ?_ | refine le_osl ?_ | refine le_nsl ?_ | exact rfl | refine ⟨?_, ?_⟩ | fail))) | ((with_reducible refine isI ?_ ?_); (kernel_rfl)) | fail)
set_option maxHeartbeats 4000000 in
theorem gLTPass (t : Tbl) (b : List UInt8) (n : Int) (o l h : Bool) : Good Tryd.prog ΓT 6 [.agg (tq t), tkI b n o l h] [] (.ret (.bool true)) [] := by
  have h0 := gTOne (Γ := ΓT) b n o l h
  generalize fewL b = a at h0
  have hck := gTCheckI (Γ := ΓT) a n o l h
  by_cases hm : mayL a n
  · rw [if_pos hm] at hck
    obtain ⟨hb, hn1, hn2⟩ := hm
    obtain ⟨m, rfl⟩ : ∃ k : Nat, n = k := ⟨n.toNat, by omega⟩
    have hs : Ed.ok ⟨a, m, o, l⟩ := ⟨hb, by simp only; omega⟩
    have g1 := gTPassN (Γ := ΓT) t ⟨a, m, o, l⟩ hs
    have g2 := gTPassH (Γ := ΓT) t ⟨a, m, o, l⟩ hs
    have s1 := gESame (Γ := ΓT) ⟨a, m, o, l⟩ ⟨a, m, o, l⟩
    rw [decide_eq_true rfl] at s1
    have s2 := gTSame (Γ := ΓT) ⟨⟨a, m, o, l⟩, false⟩ ⟨⟨a, m, o, l⟩, false⟩
    rw [decide_eq_true rfl] at s2
    cases h
    · refine sh_start mixed F6 rfl ⟨(by first | exact rfl | (simp only [go_sem, seval]; done) | (simp only [go_sem, seval]; exact rfl)), (by first | exact rfl | (simp only [go_sem, seval]; done) | (simp only [go_sem, seval]; exact rfl)), (by first | exact rfl | (simp only [go_sem, seval]; done) | (simp only [go_sem, seval]; exact rfl)), (by first | exact rfl | (simp only [go_sem, seval]; done) | (simp only [go_sem, seval]; exact rfl)), (by first | exact rfl | (simp only [go_sem, seval]; done) | (simp only [go_sem, seval]; exact rfl))⟩ ?_
      repeat' (first | (with_reducible exact trivial) | simp (maxSteps := 2000000) (disch := omega) only [go_sem, seval] | ((with_reducible refine isS ?_); first | refine cS (h0) ?_ | refine cS (hck) ?_ | refine cS (g1) ?_ | refine cS (s1) ?_ | refine cS (s2) ?_ | refine cS (gTAwake) ?_ | fail) | ((with_reducible refine isE ?_); refine eA ?_; (repeat' (first | exact le_tq0 rfl | exact le_tq0r rfl | refine le_tqr rfl ?_ | refine le_tq rfl ?_ | exact trivial | refine le_int ?_ | refine le_bool ?_ | refine le_str ?_ | refine le_sl ?_ | refine le_own ?_ | refine le_osl ?_ | refine le_nsl ?_ | exact rfl | refine ⟨?_, ?_⟩ | fail))) | ((with_reducible refine isI ?_ ?_); (kernel_rfl)) | fail)
    · refine sh_start mixed F6 rfl ⟨(by first | exact rfl | (simp only [go_sem, seval]; done) | (simp only [go_sem, seval]; exact rfl)), (by first | exact rfl | (simp only [go_sem, seval]; done) | (simp only [go_sem, seval]; exact rfl)), (by first | exact rfl | (simp only [go_sem, seval]; done) | (simp only [go_sem, seval]; exact rfl)), (by first | exact rfl | (simp only [go_sem, seval]; done) | (simp only [go_sem, seval]; exact rfl)), (by first | exact rfl | (simp only [go_sem, seval]; done) | (simp only [go_sem, seval]; exact rfl))⟩ ?_
      repeat' (first | (with_reducible exact trivial) | simp (maxSteps := 2000000) (disch := omega) only [go_sem, seval] | ((with_reducible refine isS ?_); first | refine cS (h0) ?_ | refine cS (hck) ?_ | refine cS (g1) ?_ | refine cS (g2) ?_ | refine cS (s1) ?_ | refine cS (s2) ?_ | refine cS (gTAwake) ?_ | fail) | ((with_reducible refine isE ?_); refine eA ?_; (repeat' (first | exact le_tq0 rfl | exact le_tq0r rfl | refine le_tqr rfl ?_ | refine le_tq rfl ?_ | exact trivial | refine le_int ?_ | refine le_bool ?_ | refine le_str ?_ | refine le_sl ?_ | refine le_own ?_ | refine le_osl ?_ | refine le_nsl ?_ | exact rfl | refine ⟨?_, ?_⟩ | fail))) | ((with_reducible refine isI ?_ ?_); (kernel_rfl)) | fail)
  · rw [if_neg hm] at hck
    have g1 := gTPassNo (Γ := ΓT) t a n o l h hm
    have s1 := gTSameI (Γ := ΓT) a a n n o o l l h h
    rw [decide_eq_true ⟨⟨rfl, rfl, rfl, rfl⟩, rfl⟩] at s1
    refine sh_start mixed F6 rfl ⟨(by first | exact rfl | (simp only [go_sem, seval]; done) | (simp only [go_sem, seval]; exact rfl)), (by first | exact rfl | (simp only [go_sem, seval]; done) | (simp only [go_sem, seval]; exact rfl)), (by first | exact rfl | (simp only [go_sem, seval]; done) | (simp only [go_sem, seval]; exact rfl)), (by first | exact rfl | (simp only [go_sem, seval]; done) | (simp only [go_sem, seval]; exact rfl)), (by first | exact rfl | (simp only [go_sem, seval]; done) | (simp only [go_sem, seval]; exact rfl))⟩ ?_
    repeat' (first | (with_reducible exact trivial) | simp (maxSteps := 2000000) (disch := omega) only [List.length_nil, go_sem, seval] | ((with_reducible refine isS ?_); first | refine cS (h0) ?_ | refine cS (hck) ?_ | refine cS (g1) ?_ | refine cS (s1) ?_ | refine cS (gTAwake) ?_ | fail) | ((with_reducible refine isE ?_); refine eA ?_; (repeat' (first | exact le_tq0 rfl | exact le_tq0r rfl | refine le_tqr rfl ?_ | refine le_tq rfl ?_ | exact trivial | refine le_int ?_ | refine le_bool ?_ | refine le_str ?_ | refine le_sl ?_ | refine le_own ?_ | refine le_osl ?_ | refine le_nsl ?_ | exact rfl | refine ⟨?_, ?_⟩ | fail))) | ((with_reducible refine isI ?_ ?_); (kernel_rfl)) | fail)
end Go.Proofs.YtmkblhinpnodaaaDoor
