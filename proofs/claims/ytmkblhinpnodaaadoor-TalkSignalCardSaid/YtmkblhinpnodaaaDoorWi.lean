/- Layer 15: TalkSignal. Own work. -/
import Derived.Test.YtmkblhinpnodaaaDoorWm
import Derived.Test.YtmkblhinpnodaaaDoorZ3
namespace Go.Proofs.YtmkblhinpnodaaaDoor
open Go Go.Shade
variable {Γ : Globs}
theorem take_last (a : List UInt8) (c : UInt8) : (a ++ [c]).take a.length = a := List.take_left
theorem last_at' (a : List UInt8) (c : UInt8) : (a ++ [c]).getD a.length 0 = c := by
  rw [List.getD_eq_getElem?_getD, List.getElem?_append_right (Nat.le_refl _)]; simp
set_option maxHeartbeats 8000000 in
theorem gLSignal (t : Tbl) (room : Int) (l : List Stp) (hc : UInt8) (he hf : Bool) : Good Tryd.prog ΓT 8 [dtA t room, .sl 4 (l.map stP), hwB hc he hf] [] (.ret (.bool true)) [] := by
  refine sh_start mixed F8 rfl ⟨(by first | exact rfl | (simp only [go_sem, seval]; done) | (simp only [go_sem, seval]; exact rfl)), (by first | exact rfl | (simp only [go_sem, seval]; done) | (simp only [go_sem, seval]; exact rfl)), (by first | exact rfl | (simp only [go_sem, seval]; done) | (simp only [go_sem, seval]; exact rfl)), (by first | exact rfl | (simp only [go_sem, seval]; done) | (simp only [go_sem, seval]; exact rfl)), (by first | exact rfl | (simp only [go_sem, seval]; done) | (simp only [go_sem, seval]; exact rfl))⟩ ?_
  repeat' (first | (with_reducible exact trivial) | simp (maxSteps := 2000000) (disch := omega) only [go_sem, seval] | ((with_reducible refine isI ?_ ?_); (kernel_rfl)) | fail)
  refine sh_loopX mixed (fun x : Nat × Tk => ([(1, .sl 4 (l.map stP)), (3, .ptr 0 0), (5, .ptr 1 0), (7, .ptr 2 0), (8, .ptr 3 0), (9, .int .i64 x.1)],
    [(0, .box (tq t ++ [.int .i64 room]) false), (1, .box [.int .u8 hc.toNat, .bool he, .bool hf] false), (2, .box [.sl 1 (bys x.2.s.b), .int .i64 x.2.s.n, .bool x.2.s.o, .bool x.2.s.l, .bool x.2.h] false),
      (3, .box [.sl 1 (bys (farV x.2).b), .int .i64 (farV x.2).n, .bool (farV x.2).o, .bool (farV x.2).l] false)])) (fun x => 30 - x.1)
    (fun x => x.1 ≤ l.length ∧ x.1 ≤ 30 ∧ Rch t room x.2.s) (0, .zero) ⟨Nat.zero_le _, Nat.zero_le _, rch_zero t room⟩ wkAu ?_
  rintro ⟨i, k⟩ ⟨hi, hi6, hr⟩
  simp only at hi hi6 hr
  have hcs : (i < l.length ∧ i < 30) ∨ (¬ i < l.length) ∨ (i < l.length ∧ ¬ i < 30) := by omega
  rcases hcs with ⟨hl, h60⟩ | hl
  · have hg := stp_at hl
    generalize l[i] = x at hg
    obtain ⟨c, e, f, p⟩ := x
    have hrk := rch_key (k := c) hr
    obtain ⟨s, h⟩ := k
    simp only at hr hrk
    have hz : p = false ∨ (p = true ∧ h = false) ∨ (p = true ∧ h = true) := by cases p <;> cases h <;> simp
    rcases hz with rfl | ⟨rfl, rfl⟩ | ⟨rfl, rfl⟩
    · obtain ⟨k', ks, sg, bl, hty⟩ : ∃ k' ks sg bl, typeK t room ⟨s, h⟩ c e f = (k', ks, sg, bl) := ⟨_, _, _, _, rfl⟩
      have gty := gTType (Γ := ΓT) t room ⟨s, h⟩ c e f hr.ok hty
      have hfar := (type_far (k := ⟨s, h⟩) hr c e f).1
      have hks := (typeK_s t room ⟨s, h⟩ c e f).1
      have hlk := type_len (k := ⟨s, h⟩) hr c e f
      rw [hty] at hfar hks hlk
      simp only at hfar hks hlk
      obtain ⟨ev, fb, hp⟩ : ∃ ev n, playV t room (farV ⟨s, h⟩) ks = (farV k', ev, n) := ⟨_, _, Prod.ext hfar rfl⟩
      have gpl := gEPlay (Γ := ΓT) t room (farV ⟨s, h⟩) ks (far_ok (k := ⟨s, h⟩) hr) (by omega) hp
      rw [← hks] at hrk
      generalize hF : farV k' = F at gpl
      generalize hF0 : farV ⟨s, h⟩ = F0 at gpl ⊢
      repeat' (first | (with_reducible exact trivial) | simp (maxSteps := 2000000) (disch := omega) only [List.length_map, hg, stP, Int.toNat_natCast, bys_length, go_sem, seval] | ((with_reducible refine isS ?_); first | refine cS (gty) ?_ | refine cS (gpl) ?_ | fail) | ((with_reducible refine isT ?_); first | refine cT (gty) ?_ | refine cT (gpl) ?_ | fail) | ((with_reducible refine isI ?_ ?_); (kernel_rfl)) | fail)
      refine ⟨(i + 1, k'), by simp only; omega, ⟨by simp only; omega, by simp only; omega, hrk⟩, ?_⟩
      simp only [hF]
      exact (wkAu (h1 := by (repeat' (first | exact le_tq0 rfl | exact le_tq0r rfl | refine le_tqr rfl ?_ | refine le_tq rfl ?_ | exact trivial | exact rfl | refine le_int ?_ | refine le_bool ?_ | refine le_str ?_ | refine le_sl ?_ | refine le_own ?_ | refine le_osl ?_ | refine le_nsl ?_ | refine ⟨_, rfl, ?_⟩ | refine ⟨?_, ?_⟩ | (omega; done) | exact Option.some_ne_none _ | fail)); first | done | fail) (h2 := by (repeat' (first | exact le_tq0 rfl | exact le_tq0r rfl | refine le_tqr rfl ?_ | refine le_tq rfl ?_ | exact trivial | exact rfl | refine le_int ?_ | refine le_bool ?_ | refine le_str ?_ | refine le_sl ?_ | refine le_own ?_ | refine le_osl ?_ | refine le_nsl ?_ | refine ⟨_, rfl, ?_⟩ | refine ⟨?_, ?_⟩ | (omega; done) | exact Option.some_ne_none _ | fail)); first | done | fail))
    · have gps := gTPassN (Γ := ΓT) t s hr.ok
      obtain ⟨k', ks, sg, bl, hty⟩ : ∃ k' ks sg bl, typeK t room ⟨s, false⟩ c e f = (k', ks, sg, bl) := ⟨_, _, _, _, rfl⟩
      have gty := gTType (Γ := ΓT) t room ⟨s, false⟩ c e f hr.ok hty
      have hfar := (type_far (k := ⟨s, false⟩) hr c e f).1
      have hks := (typeK_s t room ⟨s, false⟩ c e f).1
      have hlk := type_len (k := ⟨s, false⟩) hr c e f
      rw [hty] at hfar hks hlk
      simp only at hfar hks hlk
      obtain ⟨ev, fb, hp⟩ : ∃ ev n, playV t room (farV ⟨s, false⟩) ks = (farV k', ev, n) := ⟨_, _, Prod.ext hfar rfl⟩
      have gpl := gEPlay (Γ := ΓT) t room (farV ⟨s, false⟩) ks (far_ok (k := ⟨s, false⟩) hr) (by omega) hp
      rw [← hks] at hrk
      generalize hF : farV k' = F at gpl
      generalize hF0 : farV ⟨s, false⟩ = F0 at gpl ⊢
      repeat' (first | (with_reducible exact trivial) | simp (maxSteps := 2000000) (disch := omega) only [List.length_map, hg, stP, Int.toNat_natCast, bys_length, go_sem, seval] | ((with_reducible refine isS ?_); first | refine cS (gps) ?_ | refine cS (gty) ?_ | refine cS (gpl) ?_ | fail) | ((with_reducible refine isT ?_); first | refine cT (gps) ?_ | refine cT (gty) ?_ | refine cT (gpl) ?_ | fail) | ((with_reducible refine isI ?_ ?_); (kernel_rfl)) | fail)
      refine ⟨(i + 1, k'), by simp only; omega, ⟨by simp only; omega, by simp only; omega, hrk⟩, ?_⟩
      simp only [hF]
      exact (wkAu (h1 := by (repeat' (first | exact le_tq0 rfl | exact le_tq0r rfl | refine le_tqr rfl ?_ | refine le_tq rfl ?_ | exact trivial | exact rfl | refine le_int ?_ | refine le_bool ?_ | refine le_str ?_ | refine le_sl ?_ | refine le_own ?_ | refine le_osl ?_ | refine le_nsl ?_ | refine ⟨_, rfl, ?_⟩ | refine ⟨?_, ?_⟩ | (omega; done) | exact Option.some_ne_none _ | fail)); first | done | fail) (h2 := by (repeat' (first | exact le_tq0 rfl | exact le_tq0r rfl | refine le_tqr rfl ?_ | refine le_tq rfl ?_ | exact trivial | exact rfl | refine le_int ?_ | refine le_bool ?_ | refine le_str ?_ | refine le_sl ?_ | refine le_own ?_ | refine le_osl ?_ | refine le_nsl ?_ | refine ⟨_, rfl, ?_⟩ | refine ⟨?_, ?_⟩ | (omega; done) | exact Option.some_ne_none _ | fail)); first | done | fail))
    · have gps := gTPassH (Γ := ΓT) t s hr.ok
      obtain ⟨k', ks, sg, bl, hty⟩ : ∃ k' ks sg bl, typeK t room ⟨s, false⟩ c e f = (k', ks, sg, bl) := ⟨_, _, _, _, rfl⟩
      have gty := gTType (Γ := ΓT) t room ⟨s, false⟩ c e f hr.ok hty
      have hfar := (both_far (k := ⟨s, true⟩) hr c e f).1
      rw [show passV t ⟨s, true⟩ = (⟨s, false⟩, renewV t s) from rfl] at hfar
      have hks := (typeK_s t room ⟨s, false⟩ c e f).1
      have hlk := type_len (k := ⟨s, false⟩) hr c e f
      simp only at hfar hks
      rw [hty] at hfar hks hlk
      simp only at hfar hks hlk
      obtain ⟨ev, fb, hp⟩ : ∃ ev n, playV t room (farV ⟨s, true⟩) (renewV t s ++ ks) = (farV k', ev, n) := ⟨_, _, Prod.ext hfar rfl⟩
      have hRl := renew_len_le hr
      have gpl := gEPlay (Γ := ΓT) t room (farV ⟨s, true⟩) (renewV t s ++ ks) (far_ok (k := ⟨s, true⟩) hr) (by rw [List.length_append]; omega) hp
      generalize renewV t s = R at gps gpl hRl
      rw [← hks] at hrk
      generalize hF : farV k' = F at gpl
      generalize hF0 : farV ⟨s, true⟩ = F0 at gpl ⊢
      repeat' (first | (with_reducible exact trivial) | simp (maxSteps := 2000000) (disch := omega) only [List.length_map, hg, stP, Int.toNat_natCast, bys_length, bys_cat, go_sem, seval] | ((with_reducible refine isS ?_); first | refine cS (gps) ?_ | refine cS (gty) ?_ | refine cS (gpl) ?_ | fail) | ((with_reducible refine isT ?_); first | refine cT (gps) ?_ | refine cT (gty) ?_ | refine cT (gpl) ?_ | fail) | ((with_reducible refine isI ?_ ?_); (kernel_rfl)) | fail)
      refine ⟨(i + 1, k'), by simp only; omega, ⟨by simp only; omega, by simp only; omega, hrk⟩, ?_⟩
      simp only [hF]
      exact (wkAu (h1 := by (repeat' (first | exact le_tq0 rfl | exact le_tq0r rfl | refine le_tqr rfl ?_ | refine le_tq rfl ?_ | exact trivial | exact rfl | refine le_int ?_ | refine le_bool ?_ | refine le_str ?_ | refine le_sl ?_ | refine le_own ?_ | refine le_osl ?_ | refine le_nsl ?_ | refine ⟨_, rfl, ?_⟩ | refine ⟨?_, ?_⟩ | (omega; done) | exact Option.some_ne_none _ | fail)); first | done | fail) (h2 := by (repeat' (first | exact le_tq0 rfl | exact le_tq0r rfl | refine le_tqr rfl ?_ | refine le_tq rfl ?_ | exact trivial | exact rfl | refine le_int ?_ | refine le_bool ?_ | refine le_str ?_ | refine le_sl ?_ | refine le_own ?_ | refine le_osl ?_ | refine le_nsl ?_ | refine ⟨_, rfl, ?_⟩ | refine ⟨?_, ?_⟩ | (omega; done) | exact Option.some_ne_none _ | fail)); first | done | fail))
  · clear hi hi6
    obtain ⟨k', ks, sg, bl, hty⟩ : ∃ k' ks sg bl, typeK t room k hc he hf = (k', ks, sg, bl) := ⟨_, _, _, _, rfl⟩
    have gty := gTType (Γ := ΓT) t room k hc he hf hr.ok hty
    have hlk := type_len hr hc he hf
    have hst := sig_type hr hc he hf
    have hfo := far_ok hr
    rw [hty] at hlk hst
    simp only at hlk hst
    by_cases h0 : sg = 0
    · subst h0
      rcases hl with hl | ⟨hl, h60⟩
      all_goals repeat' (first | (with_reducible exact trivial) | simp (maxSteps := 2000000) (disch := omega) only [List.length_map, go_sem, seval] | ((with_reducible refine isS ?_); first | refine cS (gty) ?_ | refine cS (gTAwake) ?_ | fail) | ((with_reducible refine isT ?_); first | refine cT (gty) ?_ | refine cT (gTAwake) ?_ | fail) | ((with_reducible refine isE ?_); refine eA ?_; (repeat' (first | exact le_tq0 rfl | exact le_tq0r rfl | refine le_tqr rfl ?_ | refine le_tq rfl ?_ | exact trivial | refine le_int ?_ | refine le_bool ?_ | refine le_str ?_ | refine le_sl ?_ | refine le_own ?_ | refine le_osl ?_ | refine le_nsl ?_ | exact rfl | refine ⟨?_, ?_⟩ | fail))) | ((with_reducible refine isI ?_ ?_); (kernel_rfl)) | fail)
    · obtain ⟨fn, rfl, f1, f9, a, rfl, hp, hk⟩ := hst h0
      rw [List.length_append, List.length_singleton] at hlk
      have gpl := gEPlay (Γ := ΓT) t room (farV k) a hfo (by omega) hp
      have gkey := gEKey (Γ := ΓT) t room k.s hc hr.ok hk
      have gsg := gESignal (Γ := ΓT) k.s sg hr.ok (by omega) (by omega)
      obtain ⟨u, e, hue⟩ : ∃ u e, sigV k.s sg = (u, e) := ⟨_, _, rfl⟩
      rw [hue] at gkey gsg
      simp only at gkey gsg
      have su := gESame (Γ := ΓT) u u
      rw [decide_eq_true rfl] at su
      have al := gEAlike (Γ := ΓT) [e] [e] (by simp) (by simp)
      rw [decide_eq_true rfl] at al
      have hla := last_at' a hc
      have hta := take_last a hc
      have hkl : (bys (a ++ [hc])).length = a.length + 1 := by rw [bys_length, List.length_append, List.length_singleton]
      generalize a ++ [hc] = K at gty hla hta hkl
      have hgl := bys_at (b := K) (i := a.length) (by rw [bys_length] at hkl; omega)
      rw [hla] at hgl
      have hcl : (((a.length + 1 : Nat) : Int) - 1).toNat = a.length := by omega
      generalize farV k = F0 at gpl ⊢
      rcases hl with hl | ⟨hl, h60⟩
      all_goals repeat' (first | (with_reducible exact trivial) | simp (maxSteps := 2000000) (disch := omega) only [List.length_map, hkl, hgl, hcl, hta, List.map_nil, List.map_cons, List.length_cons, List.length_nil, go_sem, seval] | ((with_reducible refine isS ?_); first | refine cS (gty) ?_ | refine cS (gpl) ?_ | refine cS (gkey) ?_ | refine cS (gsg) ?_ | refine cS (su) ?_ | refine cS (al) ?_ | refine cS (gTAwake) ?_ | fail) | ((with_reducible refine isT ?_); first | refine cT (gty) ?_ | refine cT (gpl) ?_ | refine cT (gkey) ?_ | refine cT (gsg) ?_ | refine cT (su) ?_ | refine cT (al) ?_ | refine cT (gTAwake) ?_ | fail) | ((with_reducible refine isE ?_); refine eA ?_; (repeat' (first | exact le_tq0 rfl | exact le_tq0r rfl | refine le_tqr rfl ?_ | refine le_tq rfl ?_ | exact trivial | refine le_int ?_ | refine le_bool ?_ | refine le_str ?_ | refine le_sl ?_ | refine le_own ?_ | refine le_osl ?_ | refine le_nsl ?_ | exact rfl | refine ⟨?_, ?_⟩ | fail))) | ((with_reducible refine isI ?_ ?_); (kernel_rfl)) | fail)
end Go.Proofs.YtmkblhinpnodaaaDoor
