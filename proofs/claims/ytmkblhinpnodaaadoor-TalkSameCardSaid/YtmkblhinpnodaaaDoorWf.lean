/- Layer 15: TalkSame. Own work. -/
import Derived.Test.YtmkblhinpnodaaaDoorWm
import Derived.Test.YtmkblhinpnodaaaDoorZ3
namespace Go.Proofs.YtmkblhinpnodaaaDoor
open Go Go.Shade
set_option maxHeartbeats 8000000 in
theorem gLTSame (t : Tbl) (room : Int) (l : List Stp) : Good Tryd.prog ΓT 7 [dtA t room, .sl 4 (l.map stP)] [] (.ret (.bool true)) [] := by
  refine sh_start mixed F7 rfl ⟨(by first | exact rfl | (simp only [go_sem, seval]; done) | (simp only [go_sem, seval]; exact rfl)), (by first | exact rfl | (simp only [go_sem, seval]; done) | (simp only [go_sem, seval]; exact rfl)), (by first | exact rfl | (simp only [go_sem, seval]; done) | (simp only [go_sem, seval]; exact rfl)), (by first | exact rfl | (simp only [go_sem, seval]; done) | (simp only [go_sem, seval]; exact rfl)), (by first | exact rfl | (simp only [go_sem, seval]; done) | (simp only [go_sem, seval]; exact rfl))⟩ ?_
  repeat' (first | (with_reducible exact trivial) | simp (maxSteps := 2000000) (disch := omega) only [List.length_map, go_sem, seval] | ((with_reducible refine isI ?_ ?_); (kernel_rfl)) | fail)
  refine sh_loopX mixed (fun x : Nat × Tk × List Ev => ([(1, .sl 4 (l.map stP)), (2, .ptr 0 0), (5, .ptr 1 0), (6, .ptr 2 0), (7, .ptr 3 0), (8, .own 4 3 (x.2.2.map evP)), (9, .own 5 3 (x.2.2.map evP)), (10, .int .i64 x.1)],
    [(0, .box (tq t ++ [.int .i64 room]) false), (1, .box [.sl 1 (bys x.2.1.s.b), .int .i64 x.2.1.s.n, .bool x.2.1.s.o, .bool x.2.1.s.l, .bool x.2.1.h] false), (2, .box [.sl 1 (bys x.2.1.s.b), .int .i64 x.2.1.s.n, .bool x.2.1.s.o, .bool x.2.1.s.l] false),
      (3, .box [.sl 1 (bys (farV x.2.1).b), .int .i64 (farV x.2.1).n, .bool (farV x.2.1).o, .bool (farV x.2.1).l] false), (4, .tok), (5, .tok)])) (fun x => 60 - x.1)
    (fun x => x.1 ≤ l.length ∧ x.1 ≤ 60 ∧ Rch t room x.2.1.s ∧ x.2.2.length ≤ x.1) (0, .zero, []) ⟨Nat.zero_le _, Nat.zero_le _, rch_zero t room, Nat.le_refl _⟩ (weakG_nil 8 4 3 rfl rfl (weakG_nil 9 5 3 rfl rfl wkAu)) ?_
  rintro ⟨i, k, w⟩ ⟨hi, hi6, hr, hw⟩
  simp only at hi hi6 hr hw
  have hc : (i < l.length ∧ i < 60) ∨ (¬ i < l.length) ∨ (i < l.length ∧ ¬ i < 60) := by omega
  rcases hc with ⟨hl, h60⟩ | hl | ⟨hl, h60⟩
  · have hg := stp_at hl
    generalize l[i] = x at hg
    obtain ⟨c, e, f, p⟩ := x
    have hev := key_one t k.s room c
    have hrk := rch_key (k := c) hr
    obtain ⟨nx, ev, be, hk⟩ : ∃ nx ev be, keyV t room k.s c = (nx, ev, be) := ⟨_, _, _, rfl⟩
    have gkey := gEKey (Γ := ΓT) t room k.s c hr.ok hk
    rw [hk] at hev hrk
    simp only at hev hrk
    have sm := gESame (Γ := ΓT) nx nx
    rw [decide_eq_true rfl] at sm
    have al := gEAlike (Γ := ΓT) (w ++ ev) (w ++ ev) (by rw [List.length_append]; omega) (by rw [List.length_append]; omega)
    rw [decide_eq_true rfl, outA, List.map_append] at al
    have hwm : (w.map evP).length ≤ 60 := by rw [List.length_map]; omega
    have hem : (ev.map evP).length ≤ 1 := by rw [List.length_map]; omega
    have hma : w.map evP ++ ev.map evP = (w ++ ev).map evP := List.map_append.symm
    unfold outA at gkey
    obtain ⟨s, h⟩ := k
    have hz : p = false ∨ (p = true ∧ h = false) ∨ (p = true ∧ h = true) := by cases p <;> cases h <;> simp
    rcases hz with rfl | ⟨rfl, rfl⟩ | ⟨rfl, rfl⟩
    · obtain ⟨k', ks, sg, bl, hty⟩ : ∃ k' ks sg bl, typeK t room ⟨s, h⟩ c e f = (k', ks, sg, bl) := ⟨_, _, _, _, rfl⟩
      have gty := gTType (Γ := ΓT) t room ⟨s, h⟩ c e f hr.ok hty
      have hfar := type_far (k := ⟨s, h⟩) hr c e f
      have hks := typeK_s t room ⟨s, h⟩ c e f
      have hlk := type_len (k := ⟨s, h⟩) hr c e f
      simp only at hfar hks
      rw [hty, hk] at hfar hks
      rw [hty] at hlk
      simp only at hfar hks hlk
      obtain ⟨f1, f2⟩ := hfar
      obtain ⟨h1, rfl⟩ := hks
      obtain ⟨fb, hp⟩ : ∃ n, playV t room (farV ⟨s, h⟩) ks = (farV k', ev, n) := ⟨_, Prod.ext f1 (Prod.ext f2 rfl)⟩
      have gpl := gEPlay (Γ := ΓT) t room (farV ⟨s, h⟩) ks (far_ok (k := ⟨s, h⟩) hr) (by omega) hp
      have sf := gESame (Γ := ΓT) (farV k') (farV k')
      rw [decide_eq_true rfl] at sf
      have hwant := want_eq k'
      obtain ⟨s', h'⟩ := k'
      simp only at h1
      subst h1
      generalize hF : farV ⟨s', h'⟩ = F at gpl sf hwant
      generalize hF0 : farV ⟨s, h⟩ = F0 at gpl ⊢
      unfold outA at gpl
      cases h'
      · rw [if_neg (by simp)] at hwant
        simp only at hwant
        subst hwant
        repeat' (first | (with_reducible exact trivial) | simp (maxSteps := 2000000) (disch := omega) only [List.length_map, hg, stP, Int.toNat_natCast, bys_length, bys_cat, go_sem, seval] | ((with_reducible refine isS ?_); first | refine cS (gty) ?_ | refine cS (gkey) ?_ | refine cS (gpl) ?_ | refine cS (sm) ?_ | refine cS (al) ?_ | refine cS (sf) ?_ | fail) | ((with_reducible refine isT ?_); first | refine cT (gty) ?_ | refine cT (gkey) ?_ | refine cT (gpl) ?_ | refine cT (sm) ?_ | refine cT (al) ?_ | refine cT (sf) ?_ | fail) | (first | ((with_reducible refine isC ?_); first | refine fork_P (fun h => ?_) (fun h => ?_) | refine fork_N (fun h => ?_) (fun h => ?_) | fail) | ((with_reducible refine isG ?_); first | refine fork_gP (fun h => ?_) (fun h => ?_) | refine fork_gN (fun h => ?_) (fun h => ?_) | refine fork_gnP (fun h => ?_) (fun h => ?_) | refine fork_gnN (fun h => ?_) (fun h => ?_) | fail) | fail) | ((with_reducible refine isI ?_ ?_); (kernel_rfl)) | fail)
        refine ⟨(i + 1, ⟨s', false⟩, w ++ ev), by simp only; omega, ⟨by simp only; omega, by simp only; omega, hrk, by simp only; rw [List.length_append]; omega⟩, ?_⟩
        simp only [hF, ← hma]
        exact (wkAu (h1 := by (repeat' (first | exact le_tq0 rfl | exact le_tq0r rfl | refine le_tqr rfl ?_ | refine le_tq rfl ?_ | exact trivial | exact rfl | refine le_int ?_ | refine le_bool ?_ | refine le_str ?_ | refine le_sl ?_ | refine le_own ?_ | refine le_osl ?_ | refine le_nsl ?_ | refine ⟨_, rfl, ?_⟩ | refine ⟨?_, ?_⟩ | (omega; done) | exact Option.some_ne_none _ | fail)); first | done | fail) (h2 := by (repeat' (first | exact le_tq0 rfl | exact le_tq0r rfl | refine le_tqr rfl ?_ | refine le_tq rfl ?_ | exact trivial | exact rfl | refine le_int ?_ | refine le_bool ?_ | refine le_str ?_ | refine le_sl ?_ | refine le_own ?_ | refine le_osl ?_ | refine le_nsl ?_ | refine ⟨_, rfl, ?_⟩ | refine ⟨?_, ?_⟩ | (omega; done) | exact Option.some_ne_none _ | fail)); first | done | fail))
      · rw [if_pos rfl] at hwant
        subst hwant
        repeat' (first | (with_reducible exact trivial) | simp (maxSteps := 2000000) (disch := omega) only [List.length_map, hg, stP, Int.toNat_natCast, bys_length, bys_cat, go_sem, seval] | ((with_reducible refine isS ?_); first | refine cS (gty) ?_ | refine cS (gkey) ?_ | refine cS (gpl) ?_ | refine cS (sm) ?_ | refine cS (al) ?_ | refine cS (sf) ?_ | fail) | ((with_reducible refine isT ?_); first | refine cT (gty) ?_ | refine cT (gkey) ?_ | refine cT (gpl) ?_ | refine cT (sm) ?_ | refine cT (al) ?_ | refine cT (sf) ?_ | fail) | (first | ((with_reducible refine isC ?_); first | refine fork_P (fun h => ?_) (fun h => ?_) | refine fork_N (fun h => ?_) (fun h => ?_) | fail) | ((with_reducible refine isG ?_); first | refine fork_gP (fun h => ?_) (fun h => ?_) | refine fork_gN (fun h => ?_) (fun h => ?_) | refine fork_gnP (fun h => ?_) (fun h => ?_) | refine fork_gnN (fun h => ?_) (fun h => ?_) | fail) | fail) | ((with_reducible refine isI ?_ ?_); (kernel_rfl)) | fail)
        refine ⟨(i + 1, ⟨s', true⟩, w ++ ev), by simp only; omega, ⟨by simp only; omega, by simp only; omega, hrk, by simp only; rw [List.length_append]; omega⟩, ?_⟩
        simp only [hF, ← hma]
        exact (wkAu (h1 := by (repeat' (first | exact le_tq0 rfl | exact le_tq0r rfl | refine le_tqr rfl ?_ | refine le_tq rfl ?_ | exact trivial | exact rfl | refine le_int ?_ | refine le_bool ?_ | refine le_str ?_ | refine le_sl ?_ | refine le_own ?_ | refine le_osl ?_ | refine le_nsl ?_ | refine ⟨_, rfl, ?_⟩ | refine ⟨?_, ?_⟩ | (omega; done) | exact Option.some_ne_none _ | fail)); first | done | fail) (h2 := by (repeat' (first | exact le_tq0 rfl | exact le_tq0r rfl | refine le_tqr rfl ?_ | refine le_tq rfl ?_ | exact trivial | exact rfl | refine le_int ?_ | refine le_bool ?_ | refine le_str ?_ | refine le_sl ?_ | refine le_own ?_ | refine le_osl ?_ | refine le_nsl ?_ | refine ⟨_, rfl, ?_⟩ | refine ⟨?_, ?_⟩ | (omega; done) | exact Option.some_ne_none _ | fail)); first | done | fail))
    · obtain ⟨k', ks, sg, bl, hty⟩ : ∃ k' ks sg bl, typeK t room ⟨s, false⟩ c e f = (k', ks, sg, bl) := ⟨_, _, _, _, rfl⟩
      have gty := gTType (Γ := ΓT) t room ⟨s, false⟩ c e f hr.ok hty
      have gps := gTPassN (Γ := ΓT) t s hr.ok
      have hfar := type_far (k := ⟨s, false⟩) hr c e f
      have hks := typeK_s t room ⟨s, false⟩ c e f
      have hlk := type_len (k := ⟨s, false⟩) hr c e f
      simp only at hfar hks
      rw [hty, hk] at hfar hks
      rw [hty] at hlk
      simp only at hfar hks hlk
      obtain ⟨f1, f2⟩ := hfar
      obtain ⟨h1, rfl⟩ := hks
      obtain ⟨fb, hp⟩ : ∃ n, playV t room (farV ⟨s, false⟩) ks = (farV k', ev, n) := ⟨_, Prod.ext f1 (Prod.ext f2 rfl)⟩
      have gpl := gEPlay (Γ := ΓT) t room (farV ⟨s, false⟩) ks (far_ok (k := ⟨s, false⟩) hr) (by omega) hp
      have sf := gESame (Γ := ΓT) (farV k') (farV k')
      rw [decide_eq_true rfl] at sf
      have hwant := want_eq k'
      obtain ⟨s', h'⟩ := k'
      simp only at h1
      subst h1
      generalize hF : farV ⟨s', h'⟩ = F at gpl sf hwant
      generalize hF0 : farV ⟨s, false⟩ = F0 at gpl ⊢
      unfold outA at gpl
      cases h'
      · rw [if_neg (by simp)] at hwant
        simp only at hwant
        subst hwant
        repeat' (first | (with_reducible exact trivial) | simp (maxSteps := 2000000) (disch := omega) only [List.length_map, hg, stP, Int.toNat_natCast, bys_length, bys_cat, go_sem, seval] | ((with_reducible refine isS ?_); first | refine cS (gps) ?_ | refine cS (gty) ?_ | refine cS (gkey) ?_ | refine cS (gpl) ?_ | refine cS (sm) ?_ | refine cS (al) ?_ | refine cS (sf) ?_ | fail) | ((with_reducible refine isT ?_); first | refine cT (gps) ?_ | refine cT (gty) ?_ | refine cT (gkey) ?_ | refine cT (gpl) ?_ | refine cT (sm) ?_ | refine cT (al) ?_ | refine cT (sf) ?_ | fail) | (first | ((with_reducible refine isC ?_); first | refine fork_P (fun h => ?_) (fun h => ?_) | refine fork_N (fun h => ?_) (fun h => ?_) | fail) | ((with_reducible refine isG ?_); first | refine fork_gP (fun h => ?_) (fun h => ?_) | refine fork_gN (fun h => ?_) (fun h => ?_) | refine fork_gnP (fun h => ?_) (fun h => ?_) | refine fork_gnN (fun h => ?_) (fun h => ?_) | fail) | fail) | ((with_reducible refine isI ?_ ?_); (kernel_rfl)) | fail)
        refine ⟨(i + 1, ⟨s', false⟩, w ++ ev), by simp only; omega, ⟨by simp only; omega, by simp only; omega, hrk, by simp only; rw [List.length_append]; omega⟩, ?_⟩
        simp only [hF, ← hma]
        exact (wkAu (h1 := by (repeat' (first | exact le_tq0 rfl | exact le_tq0r rfl | refine le_tqr rfl ?_ | refine le_tq rfl ?_ | exact trivial | exact rfl | refine le_int ?_ | refine le_bool ?_ | refine le_str ?_ | refine le_sl ?_ | refine le_own ?_ | refine le_osl ?_ | refine le_nsl ?_ | refine ⟨_, rfl, ?_⟩ | refine ⟨?_, ?_⟩ | (omega; done) | exact Option.some_ne_none _ | fail)); first | done | fail) (h2 := by (repeat' (first | exact le_tq0 rfl | exact le_tq0r rfl | refine le_tqr rfl ?_ | refine le_tq rfl ?_ | exact trivial | exact rfl | refine le_int ?_ | refine le_bool ?_ | refine le_str ?_ | refine le_sl ?_ | refine le_own ?_ | refine le_osl ?_ | refine le_nsl ?_ | refine ⟨_, rfl, ?_⟩ | refine ⟨?_, ?_⟩ | (omega; done) | exact Option.some_ne_none _ | fail)); first | done | fail))
      · rw [if_pos rfl] at hwant
        subst hwant
        repeat' (first | (with_reducible exact trivial) | simp (maxSteps := 2000000) (disch := omega) only [List.length_map, hg, stP, Int.toNat_natCast, bys_length, bys_cat, go_sem, seval] | ((with_reducible refine isS ?_); first | refine cS (gps) ?_ | refine cS (gty) ?_ | refine cS (gkey) ?_ | refine cS (gpl) ?_ | refine cS (sm) ?_ | refine cS (al) ?_ | refine cS (sf) ?_ | fail) | ((with_reducible refine isT ?_); first | refine cT (gps) ?_ | refine cT (gty) ?_ | refine cT (gkey) ?_ | refine cT (gpl) ?_ | refine cT (sm) ?_ | refine cT (al) ?_ | refine cT (sf) ?_ | fail) | (first | ((with_reducible refine isC ?_); first | refine fork_P (fun h => ?_) (fun h => ?_) | refine fork_N (fun h => ?_) (fun h => ?_) | fail) | ((with_reducible refine isG ?_); first | refine fork_gP (fun h => ?_) (fun h => ?_) | refine fork_gN (fun h => ?_) (fun h => ?_) | refine fork_gnP (fun h => ?_) (fun h => ?_) | refine fork_gnN (fun h => ?_) (fun h => ?_) | fail) | fail) | ((with_reducible refine isI ?_ ?_); (kernel_rfl)) | fail)
        refine ⟨(i + 1, ⟨s', true⟩, w ++ ev), by simp only; omega, ⟨by simp only; omega, by simp only; omega, hrk, by simp only; rw [List.length_append]; omega⟩, ?_⟩
        simp only [hF, ← hma]
        exact (wkAu (h1 := by (repeat' (first | exact le_tq0 rfl | exact le_tq0r rfl | refine le_tqr rfl ?_ | refine le_tq rfl ?_ | exact trivial | exact rfl | refine le_int ?_ | refine le_bool ?_ | refine le_str ?_ | refine le_sl ?_ | refine le_own ?_ | refine le_osl ?_ | refine le_nsl ?_ | refine ⟨_, rfl, ?_⟩ | refine ⟨?_, ?_⟩ | (omega; done) | exact Option.some_ne_none _ | fail)); first | done | fail) (h2 := by (repeat' (first | exact le_tq0 rfl | exact le_tq0r rfl | refine le_tqr rfl ?_ | refine le_tq rfl ?_ | exact trivial | exact rfl | refine le_int ?_ | refine le_bool ?_ | refine le_str ?_ | refine le_sl ?_ | refine le_own ?_ | refine le_osl ?_ | refine le_nsl ?_ | refine ⟨_, rfl, ?_⟩ | refine ⟨?_, ?_⟩ | (omega; done) | exact Option.some_ne_none _ | fail)); first | done | fail))
    · obtain ⟨k', ks, sg, bl, hty⟩ : ∃ k' ks sg bl, typeK t room ⟨s, false⟩ c e f = (k', ks, sg, bl) := ⟨_, _, _, _, rfl⟩
      have gty := gTType (Γ := ΓT) t room ⟨s, false⟩ c e f hr.ok hty
      have gps := gTPassH (Γ := ΓT) t s hr.ok
      have hfar := both_far (k := ⟨s, true⟩) hr c e f
      rw [show passV t ⟨s, true⟩ = (⟨s, false⟩, renewV t s) from rfl] at hfar
      have hks := typeK_s t room ⟨s, false⟩ c e f
      have hlk := type_len (k := ⟨s, false⟩) hr c e f
      simp only at hfar hks
      rw [hty, hk] at hfar hks
      rw [hty] at hlk
      simp only at hfar hks hlk
      obtain ⟨f1, f2⟩ := hfar
      obtain ⟨h1, rfl⟩ := hks
      obtain ⟨fb, hp⟩ : ∃ n, playV t room (farV ⟨s, true⟩) (renewV t s ++ ks) = (farV k', ev, n) := ⟨_, Prod.ext f1 (Prod.ext f2 rfl)⟩
      have hRl := renew_len_le hr
      have gpl := gEPlay (Γ := ΓT) t room (farV ⟨s, true⟩) (renewV t s ++ ks) (far_ok (k := ⟨s, true⟩) hr) (by rw [List.length_append]; simp only at hRl; omega) hp
      simp only at hRl
      generalize renewV t s = R at gps gpl hRl
      have sf := gESame (Γ := ΓT) (farV k') (farV k')
      rw [decide_eq_true rfl] at sf
      have hwant := want_eq k'
      obtain ⟨s', h'⟩ := k'
      simp only at h1
      subst h1
      generalize hF : farV ⟨s', h'⟩ = F at gpl sf hwant
      generalize hF0 : farV ⟨s, true⟩ = F0 at gpl ⊢
      unfold outA at gpl
      cases h'
      · rw [if_neg (by simp)] at hwant
        simp only at hwant
        subst hwant
        repeat' (first | (with_reducible exact trivial) | simp (maxSteps := 2000000) (disch := omega) only [List.length_map, hg, stP, Int.toNat_natCast, bys_length, bys_cat, go_sem, seval] | ((with_reducible refine isS ?_); first | refine cS (gps) ?_ | refine cS (gty) ?_ | refine cS (gkey) ?_ | refine cS (gpl) ?_ | refine cS (sm) ?_ | refine cS (al) ?_ | refine cS (sf) ?_ | fail) | ((with_reducible refine isT ?_); first | refine cT (gps) ?_ | refine cT (gty) ?_ | refine cT (gkey) ?_ | refine cT (gpl) ?_ | refine cT (sm) ?_ | refine cT (al) ?_ | refine cT (sf) ?_ | fail) | (first | ((with_reducible refine isC ?_); first | refine fork_P (fun h => ?_) (fun h => ?_) | refine fork_N (fun h => ?_) (fun h => ?_) | fail) | ((with_reducible refine isG ?_); first | refine fork_gP (fun h => ?_) (fun h => ?_) | refine fork_gN (fun h => ?_) (fun h => ?_) | refine fork_gnP (fun h => ?_) (fun h => ?_) | refine fork_gnN (fun h => ?_) (fun h => ?_) | fail) | fail) | ((with_reducible refine isI ?_ ?_); (kernel_rfl)) | fail)
        refine ⟨(i + 1, ⟨s', false⟩, w ++ ev), by simp only; omega, ⟨by simp only; omega, by simp only; omega, hrk, by simp only; rw [List.length_append]; omega⟩, ?_⟩
        simp only [hF, ← hma]
        exact (wkAu (h1 := by (repeat' (first | exact le_tq0 rfl | exact le_tq0r rfl | refine le_tqr rfl ?_ | refine le_tq rfl ?_ | exact trivial | exact rfl | refine le_int ?_ | refine le_bool ?_ | refine le_str ?_ | refine le_sl ?_ | refine le_own ?_ | refine le_osl ?_ | refine le_nsl ?_ | refine ⟨_, rfl, ?_⟩ | refine ⟨?_, ?_⟩ | (omega; done) | exact Option.some_ne_none _ | fail)); first | done | fail) (h2 := by (repeat' (first | exact le_tq0 rfl | exact le_tq0r rfl | refine le_tqr rfl ?_ | refine le_tq rfl ?_ | exact trivial | exact rfl | refine le_int ?_ | refine le_bool ?_ | refine le_str ?_ | refine le_sl ?_ | refine le_own ?_ | refine le_osl ?_ | refine le_nsl ?_ | refine ⟨_, rfl, ?_⟩ | refine ⟨?_, ?_⟩ | (omega; done) | exact Option.some_ne_none _ | fail)); first | done | fail))
      · rw [if_pos rfl] at hwant
        subst hwant
        repeat' (first | (with_reducible exact trivial) | simp (maxSteps := 2000000) (disch := omega) only [List.length_map, hg, stP, Int.toNat_natCast, bys_length, bys_cat, go_sem, seval] | ((with_reducible refine isS ?_); first | refine cS (gps) ?_ | refine cS (gty) ?_ | refine cS (gkey) ?_ | refine cS (gpl) ?_ | refine cS (sm) ?_ | refine cS (al) ?_ | refine cS (sf) ?_ | fail) | ((with_reducible refine isT ?_); first | refine cT (gps) ?_ | refine cT (gty) ?_ | refine cT (gkey) ?_ | refine cT (gpl) ?_ | refine cT (sm) ?_ | refine cT (al) ?_ | refine cT (sf) ?_ | fail) | (first | ((with_reducible refine isC ?_); first | refine fork_P (fun h => ?_) (fun h => ?_) | refine fork_N (fun h => ?_) (fun h => ?_) | fail) | ((with_reducible refine isG ?_); first | refine fork_gP (fun h => ?_) (fun h => ?_) | refine fork_gN (fun h => ?_) (fun h => ?_) | refine fork_gnP (fun h => ?_) (fun h => ?_) | refine fork_gnN (fun h => ?_) (fun h => ?_) | fail) | fail) | ((with_reducible refine isI ?_ ?_); (kernel_rfl)) | fail)
        refine ⟨(i + 1, ⟨s', true⟩, w ++ ev), by simp only; omega, ⟨by simp only; omega, by simp only; omega, hrk, by simp only; rw [List.length_append]; omega⟩, ?_⟩
        simp only [hF, ← hma]
        exact (wkAu (h1 := by (repeat' (first | exact le_tq0 rfl | exact le_tq0r rfl | refine le_tqr rfl ?_ | refine le_tq rfl ?_ | exact trivial | exact rfl | refine le_int ?_ | refine le_bool ?_ | refine le_str ?_ | refine le_sl ?_ | refine le_own ?_ | refine le_osl ?_ | refine le_nsl ?_ | refine ⟨_, rfl, ?_⟩ | refine ⟨?_, ?_⟩ | (omega; done) | exact Option.some_ne_none _ | fail)); first | done | fail) (h2 := by (repeat' (first | exact le_tq0 rfl | exact le_tq0r rfl | refine le_tqr rfl ?_ | refine le_tq rfl ?_ | exact trivial | exact rfl | refine le_int ?_ | refine le_bool ?_ | refine le_str ?_ | refine le_sl ?_ | refine le_own ?_ | refine le_osl ?_ | refine le_nsl ?_ | refine ⟨_, rfl, ?_⟩ | refine ⟨?_, ?_⟩ | (omega; done) | exact Option.some_ne_none _ | fail)); first | done | fail))
  all_goals repeat' (first | (with_reducible exact trivial) | simp (maxSteps := 2000000) (disch := omega) only [List.length_map, go_sem, seval] | ((with_reducible refine isS ?_); first | refine cS (gTAwake) ?_ | fail) | ((with_reducible refine isT ?_); first | refine cT (gTAwake) ?_ | fail) | ((with_reducible refine isE ?_); refine eA ?_; (repeat' (first | exact le_tq0 rfl | exact le_tq0r rfl | refine le_tqr rfl ?_ | refine le_tq rfl ?_ | exact trivial | refine le_int ?_ | refine le_bool ?_ | refine le_str ?_ | refine le_sl ?_ | refine le_own ?_ | refine le_osl ?_ | refine le_nsl ?_ | exact rfl | refine ⟨?_, ?_⟩ | fail))) | ((with_reducible refine isI ?_ ?_); (kernel_rfl)) | fail)
end Go.Proofs.YtmkblhinpnodaaaDoor
