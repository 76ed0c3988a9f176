/- Layer 15: alike talks; the chapter's examples. Own work. -/
import Derived.Test.YtmkblhinpnodaaaDoorWc
import Derived.Test.YtmkblhinpnodaaaDoorZ3
namespace Go.Proofs.YtmkblhinpnodaaaDoor
open Go Go.Shade
variable {Γ : Globs}
abbrev hwB (c : UInt8) (edit fwd : Bool) : AV := .agg [.int .u8 c.toNat, .bool edit, .bool fwd]
theorem tk_iff (k m : Tk) : decide ((((k.s.n : Nat) : Int) = m.s.n ∧ k.s.b = m.s.b ∧ k.s.o = m.s.o ∧ k.s.l = m.s.l) ∧ k.h = m.h) = decide (k = m) := by
  apply decide_eq_decide.2
  obtain ⟨⟨b, n, o, l⟩, h⟩ := k
  obtain ⟨⟨c, m, p, q⟩, g⟩ := m
  simp only [Tk.mk.injEq, Ed.mk.injEq]
  constructor
  · rintro ⟨⟨h1, h2, h3, h4⟩, h5⟩; exact ⟨⟨h2, by omega, h3, h4⟩, h5⟩
  · rintro ⟨⟨h1, h2, h3, h4⟩, h5⟩; exact ⟨⟨by omega, h1, h3, h4⟩, h5⟩
theorem gTSame (k m : Tk) : Good Tryd.prog Γ 22 [tkA k, tkA m] [] (.ret (.bool (decide (k = m)))) [] := by
  have h := gTSameI (Γ := Γ) k.s.b m.s.b k.s.n m.s.n k.s.o m.s.o k.s.l m.s.l k.h m.h
  rwa [tk_iff] at h
theorem gRTSame (k m : Tk) : Good Tryd.prog Γ 20 [tkA k, tkA m] [] (.ret (.bool (decide (k = m)))) [] := by
  have h := gRTSameI (Γ := Γ) k.s.b m.s.b k.s.n m.s.n k.s.o m.s.o k.s.l m.s.l k.h m.h
  rwa [tk_iff] at h
theorem tx1 : typeK stdT 99 .zero 97 true false = (⟨⟨[97], 1, false, false⟩, true⟩, [], 0, false) := by decide +kernel
theorem tx2 : typeK stdT 99 ⟨⟨[97], 1, false, false⟩, true⟩ 98 false false = (⟨⟨[97, 98], 2, false, false⟩, false⟩, [97, 98], 0, false) := by decide +kernel
theorem tx3 : typeK stdT 99 ⟨⟨[97], 1, false, false⟩, true⟩ 3 true false = (⟨.zero, false⟩, [97, 3], 3, false) := by decide +kernel
set_option maxHeartbeats 1000000 in
theorem gTAwake : Good Tryd.prog ΓT 13 [] [] (.ret (.bool true)) [] := by
  have h1 := gTType (Γ := ΓT) stdT 99 .zero 97 true false zero_ok tx1
  have h2 := gTType (Γ := ΓT) stdT 99 ⟨⟨[97], 1, false, false⟩, true⟩ 98 false false ⟨by decide, by decide⟩ tx2
  have h3 := gTType (Γ := ΓT) stdT 99 ⟨⟨[97], 1, false, false⟩, true⟩ 3 true false ⟨by decide, by decide⟩ tx3
  have hst := gStandard
  generalize stdT = st at h1 h2 h3 hst
  refine sh_start mixed F13 rfl ⟨(by first | exact rfl | (simp only [go_sem, seval]; done) | (simp only [go_sem, seval]; exact rfl)), (by first | exact rfl | (simp only [go_sem, seval]; done) | (simp only [go_sem, seval]; exact rfl)), (by first | exact rfl | (simp only [go_sem, seval]; done) | (simp only [go_sem, seval]; exact rfl)), (by first | exact rfl | (simp only [go_sem, seval]; done) | (simp only [go_sem, seval]; exact rfl)), (by first | exact rfl | (simp only [go_sem, seval]; done) | (simp only [go_sem, seval]; exact rfl))⟩ ?_
  repeat' (first | (with_reducible exact trivial) | simp (maxSteps := 2000000) (disch := omega) only [List.length_nil, go_sem, seval] | ((with_reducible refine isS ?_); first | refine cS (hst) ?_ | refine cS (h1) ?_ | refine cS (h2) ?_ | refine cS (h3) ?_ | fail) | ((with_reducible refine isE ?_); refine eA ?_; (repeat' (first | exact le_tq0 rfl | exact le_tq0r rfl | refine le_tqr rfl ?_ | refine le_tq rfl ?_ | exact trivial | refine le_int ?_ | refine le_bool ?_ | refine le_str ?_ | refine le_sl ?_ | refine le_own ?_ | refine le_osl ?_ | refine le_nsl ?_ | exact rfl | refine ⟨?_, ?_⟩ | fail))) | ((with_reducible refine isI ?_ ?_); (kernel_rfl)) | fail)
theorem gTOne (b : List UInt8) (n : Int) (o l h : Bool) : Good Tryd.prog Γ 14 [tkI b n o l h] [] (.ret (tkI (fewL b) n o l h)) [] := by
  have g := gEOne (Γ := Γ) b n o l
  generalize fewL b = a at g ⊢
  refine sh_start mixed F14 rfl ⟨(by first | exact rfl | (simp only [go_sem, seval]; done) | (simp only [go_sem, seval]; exact rfl)), (by first | exact rfl | (simp only [go_sem, seval]; done) | (simp only [go_sem, seval]; exact rfl)), (by first | exact rfl | (simp only [go_sem, seval]; done) | (simp only [go_sem, seval]; exact rfl)), (by first | exact rfl | (simp only [go_sem, seval]; done) | (simp only [go_sem, seval]; exact rfl)), (by first | exact rfl | (simp only [go_sem, seval]; done) | (simp only [go_sem, seval]; exact rfl))⟩ ?_
  repeat' (first | (with_reducible exact trivial) | simp (maxSteps := 2000000) (disch := omega) only [go_sem, seval] | ((with_reducible refine isS ?_); first | refine cS (g) ?_ | fail) | ((with_reducible refine isT ?_); first | refine cT (g) ?_ | fail) | ((with_reducible refine isE ?_); refine eA ?_; (repeat' (first | exact le_tq0 rfl | exact le_tq0r rfl | refine le_tqr rfl ?_ | refine le_tq rfl ?_ | exact trivial | refine le_int ?_ | refine le_bool ?_ | refine le_str ?_ | refine le_sl ?_ | refine le_own ?_ | refine le_osl ?_ | refine le_nsl ?_ | exact rfl | refine ⟨?_, ?_⟩ | fail))) | ((with_reducible refine isI ?_ ?_); (kernel_rfl)) | fail)
abbrev dtA (t : Tbl) (room : Int) : AV := .agg (tq t ++ [.int .i64 room])
end Go.Proofs.YtmkblhinpnodaaaDoor
