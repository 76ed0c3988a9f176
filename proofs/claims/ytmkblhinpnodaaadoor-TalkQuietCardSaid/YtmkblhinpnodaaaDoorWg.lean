/- Layer 15: TalkLines, TalkQuiet. Own work. -/
import Derived.Test.YtmkblhinpnodaaaDoorWl
import Derived.Test.YtmkblhinpnodaaaDoorZ3
namespace Go.Proofs.YtmkblhinpnodaaaDoor
open Go Go.Shade
variable {Γ : Globs}
theorem sig_zero (s : Ed) (f : Int) : (sigV s f).2.kind ≠ 3 → (sigV s f).1 = .zero := by
  unfold sigV
  repeat' split
  all_goals first | exact fun _ => rfl | exact fun h => absurd rfl h
theorem key_zero {t : Tbl} {s : Ed} {room : Int} {k : UInt8} {s' : Ed} {e : Ev} {bl : Bool} (hk : keyV t room s k = (s', [e], bl)) : e.kind ≠ 3 → s' = .zero := by
  unfold keyV at hk
  split at hk
  · unfold typedV at hk; cases hk
  · unfold meanV at hk
    split at hk
    · unfold typedV at hk; cases hk
    split at hk
    · cases hk; exact fun _ => rfl
    split at hk
    · cases hk; exact sig_zero _ _
    split at hk
    · cases hk
    split at hk
    · cases hk
    · cases hk
theorem type_tf (t : Tbl) (room : Int) (k : Tk) (c : UInt8) : (k.h = true ∨ k.s = .zero) ∧ (keyV t room k.s c).2.1 = [] ∧ typeK t room k c true false = (⟨(keyV t room k.s c).1, true⟩, [], 0, (keyV t room k.s c).2.2) ∨
    (¬ ((k.h = true ∨ k.s = .zero) ∧ (keyV t room k.s c).2.1 = []) ∧ typeK t room k c true false = (⟨(keyV t room k.s c).1, false⟩, (if k.h = true then renewV t k.s else []) ++ [c], sigK t k.s c, (keyV t room k.s c).2.2)) := by
  unfold typeK
  by_cases h : (k.h = true ∨ k.s = .zero) ∧ (keyV t room k.s c).2.1 = []
  · rw [if_pos ⟨rfl, h.1, h.2⟩, if_neg (by simp)]
    exact .inl ⟨h.1, h.2, rfl⟩
  · rw [if_neg (fun e => h e.2)]
    exact .inr ⟨h, rfl⟩
theorem type_raw (t : Tbl) (room : Int) (s : Ed) (c : UInt8) (f : Bool) : typeK t room ⟨s, false⟩ c false f = (⟨(keyV t room s c).1, false⟩, [c], sigK t s c, (keyV t room s c).2.2) := by
  unfold typeK
  rw [if_neg (fun e => by cases e.1)]
  rfl
theorem last_at (a : List UInt8) (c : UInt8) : (a ++ [c]).getD ((a ++ [c]).length - 1) 0 = c := by
  rw [List.getD_eq_getElem?_getD, List.length_append, List.length_singleton, Nat.add_sub_cancel, List.getElem?_append_right (Nat.le_refl _)]; simp
set_option maxHeartbeats 8000000 in
theorem gLLines (t : Tbl) (room : Int) (b0 : List UInt8) : Good Tryd.prog ΓT 4 [dtA t room, .sl 1 (bys b0)] [] (.ret (.bool true)) [] := by
  have h1 := gEKeys (Γ := ΓT) b0
  have hlen : (b0.take 200).length ≤ 200 := by rw [List.length_take]; omega
  generalize b0.take 200 = b at h1 hlen
  refine sh_start mixed F4 rfl ⟨(by first | exact rfl | (simp only [go_sem, seval]; done) | (simp only [go_sem, seval]; exact rfl)), (by first | exact rfl | (simp only [go_sem, seval]; done) | (simp only [go_sem, seval]; exact rfl)), (by first | exact rfl | (simp only [go_sem, seval]; done) | (simp only [go_sem, seval]; exact rfl)), (by first | exact rfl | (simp only [go_sem, seval]; done) | (simp only [go_sem, seval]; exact rfl)), (by first | exact rfl | (simp only [go_sem, seval]; done) | (simp only [go_sem, seval]; exact rfl))⟩ ?_
  repeat' (first | (with_reducible exact trivial) | simp (maxSteps := 2000000) (disch := omega) only [go_sem, seval] | ((with_reducible refine isS ?_); first | refine cS (h1) ?_ | fail) | ((with_reducible refine isT ?_); first | refine cT (h1) ?_ | fail) | ((with_reducible refine isI ?_ ?_); (kernel_rfl)) | fail)
  refine sh_loopX mixed (fun x : Nat × Tk => ([(1, .sl 1 (bys b)), (2, .ptr 0 0), (5, .ptr 1 0), (6, .int .i64 x.1)],
    [(0, .box (tq t ++ [.int .i64 room]) false), (1, .box [.sl 1 (bys x.2.s.b), .int .i64 x.2.s.n, .bool x.2.s.o, .bool x.2.s.l, .bool x.2.h] false)])) (fun x => b.length - x.1)
    (fun x => x.1 ≤ b.length ∧ Rch t room x.2.s) (0, .zero) ⟨Nat.zero_le _, rch_zero t room⟩ wkAu ?_
  rintro ⟨i, k⟩ ⟨hi, hr⟩
  simp only at hi hr
  by_cases hl : i < b.length
  · have hg := bys_at hl
    generalize b.getD i 0 = c at hg
    have hev := key_one t k.s room c
    have hrk := rch_key (k := c) hr
    have htf := type_tf t room k c
    have hrn := (renew_len t k.s hr.ok.2).2
    have hkl := hr.ok.1
    obtain ⟨nx, ev, be, hk⟩ : ∃ nx ev be, keyV t room k.s c = (nx, ev, be) := ⟨_, _, _, rfl⟩
    have gkey := gEKey (Γ := ΓT) t room k.s c hr.ok hk
    rw [hk] at hev hrk htf
    simp only at hev hrk htf
    have sm := gESame (Γ := ΓT) nx .zero
    rcases htf with ⟨_, rfl, hty⟩ | ⟨_, hty⟩
    · have gty := gTType (Γ := ΓT) t room k c true false hr.ok hty
      generalize decide (nx = .zero) = z at sm
      repeat' (first | (with_reducible exact trivial) | simp (maxSteps := 2000000) (disch := omega) only [hg, Int.toNat_natCast, bys_length, List.map_nil, List.length_nil, go_sem, seval] | ((with_reducible refine isS ?_); first | refine cS (gty) ?_ | refine cS (gkey) ?_ | refine cS (sm) ?_ | fail) | ((with_reducible refine isT ?_); first | refine cT (gty) ?_ | refine cT (gkey) ?_ | refine cT (sm) ?_ | fail) | (first | ((with_reducible refine isC ?_); first | refine fork_P (fun h => ?_) (fun h => ?_) | refine fork_N (fun h => ?_) (fun h => ?_) | fail) | ((with_reducible refine isG ?_); first | refine fork_gP (fun h => ?_) (fun h => ?_) | refine fork_gN (fun h => ?_) (fun h => ?_) | refine fork_gnP (fun h => ?_) (fun h => ?_) | refine fork_gnN (fun h => ?_) (fun h => ?_) | fail) | fail) | ((with_reducible refine isI ?_ ?_); (kernel_rfl)) | fail)
      exact ⟨(i + 1, ⟨nx, true⟩), by simp only; omega, ⟨by simp only; omega, hrk⟩, (wkAu (h1 := by (repeat' (first | exact le_tq0 rfl | exact le_tq0r rfl | refine le_tqr rfl ?_ | refine le_tq rfl ?_ | exact trivial | exact rfl | refine le_int ?_ | refine le_bool ?_ | refine le_str ?_ | refine le_sl ?_ | refine le_own ?_ | refine le_osl ?_ | refine le_nsl ?_ | refine ⟨_, rfl, ?_⟩ | refine ⟨?_, ?_⟩ | (omega; done) | exact Option.some_ne_none _ | fail)); first | done | fail) (h2 := by (repeat' (first | exact le_tq0 rfl | exact le_tq0r rfl | refine le_tqr rfl ?_ | refine le_tq rfl ?_ | exact trivial | exact rfl | refine le_int ?_ | refine le_bool ?_ | refine le_str ?_ | refine le_sl ?_ | refine le_own ?_ | refine le_osl ?_ | refine le_nsl ?_ | refine ⟨_, rfl, ?_⟩ | refine ⟨?_, ?_⟩ | (omega; done) | exact Option.some_ne_none _ | fail)); first | done | fail))⟩
    · have gty := gTType (Γ := ΓT) t room k c true false hr.ok hty
      have hla := last_at (if k.h = true then renewV t k.s else []) c
      have hln : ((if k.h = true then renewV t k.s else []) ++ [c]).length ≤ 3 * k.s.b.length + 3 := by
        rw [List.length_append]
        split
        · simp only [List.length_singleton]; omega
        · simp
      have hl1 : 1 ≤ ((if k.h = true then renewV t k.s else []) ++ [c]).length := by rw [List.length_append, List.length_singleton]; omega
      generalize (if k.h = true then renewV t k.s else []) ++ [c] = K at gty hla hln hl1
      have hgl := bys_at (b := K) (i := K.length - 1) (by omega)
      rw [hla] at hgl
      have hcl : ((K.length : Int) - 1).toNat = K.length - 1 := by omega
      rcases one_cases hev with rfl | ⟨e, rfl⟩
      · generalize decide (nx = .zero) = z at sm
        repeat' (first | (with_reducible exact trivial) | simp (maxSteps := 2000000) (disch := omega) only [hg, hgl, hcl, Int.toNat_natCast, bys_length, List.map_nil, List.length_nil, go_sem, seval] | ((with_reducible refine isS ?_); first | refine cS (gty) ?_ | refine cS (gkey) ?_ | refine cS (sm) ?_ | fail) | ((with_reducible refine isT ?_); first | refine cT (gty) ?_ | refine cT (gkey) ?_ | refine cT (sm) ?_ | fail) | (first | ((with_reducible refine isC ?_); first | refine fork_P (fun h => ?_) (fun h => ?_) | refine fork_N (fun h => ?_) (fun h => ?_) | fail) | ((with_reducible refine isG ?_); first | refine fork_gP (fun h => ?_) (fun h => ?_) | refine fork_gN (fun h => ?_) (fun h => ?_) | refine fork_gnP (fun h => ?_) (fun h => ?_) | refine fork_gnN (fun h => ?_) (fun h => ?_) | fail) | fail) | ((with_reducible refine isI ?_ ?_); (kernel_rfl)) | fail)
        exact ⟨(i + 1, ⟨nx, false⟩), by simp only; omega, ⟨by simp only; omega, hrk⟩, (wkAu (h1 := by (repeat' (first | exact le_tq0 rfl | exact le_tq0r rfl | refine le_tqr rfl ?_ | refine le_tq rfl ?_ | exact trivial | exact rfl | refine le_int ?_ | refine le_bool ?_ | refine le_str ?_ | refine le_sl ?_ | refine le_own ?_ | refine le_osl ?_ | refine le_nsl ?_ | refine ⟨_, rfl, ?_⟩ | refine ⟨?_, ?_⟩ | (omega; done) | exact Option.some_ne_none _ | fail)); first | done | fail) (h2 := by (repeat' (first | exact le_tq0 rfl | exact le_tq0r rfl | refine le_tqr rfl ?_ | refine le_tq rfl ?_ | exact trivial | exact rfl | refine le_int ?_ | refine le_bool ?_ | refine le_str ?_ | refine le_sl ?_ | refine le_own ?_ | refine le_osl ?_ | refine le_nsl ?_ | refine ⟨_, rfl, ?_⟩ | refine ⟨?_, ?_⟩ | (omega; done) | exact Option.some_ne_none _ | fail)); first | done | fail))⟩
      · by_cases h3 : e.kind = 3
        · generalize decide (nx = .zero) = z at sm
          repeat' (first | (with_reducible exact trivial) | simp (maxSteps := 2000000) (disch := omega) only [hg, hgl, hcl, Int.toNat_natCast, bys_length, List.map_cons, List.map_nil, List.length_cons, List.length_nil, evP, h3, go_sem, seval] | ((with_reducible refine isS ?_); first | refine cS (gty) ?_ | refine cS (gkey) ?_ | refine cS (sm) ?_ | fail) | ((with_reducible refine isT ?_); first | refine cT (gty) ?_ | refine cT (gkey) ?_ | refine cT (sm) ?_ | fail) | (first | ((with_reducible refine isC ?_); first | refine fork_P (fun h => ?_) (fun h => ?_) | refine fork_N (fun h => ?_) (fun h => ?_) | fail) | ((with_reducible refine isG ?_); first | refine fork_gP (fun h => ?_) (fun h => ?_) | refine fork_gN (fun h => ?_) (fun h => ?_) | refine fork_gnP (fun h => ?_) (fun h => ?_) | refine fork_gnN (fun h => ?_) (fun h => ?_) | fail) | fail) | ((with_reducible refine isI ?_ ?_); (kernel_rfl)) | fail)
          exact ⟨(i + 1, ⟨nx, false⟩), by simp only; omega, ⟨by simp only; omega, hrk⟩, (wkAu (h1 := by (repeat' (first | exact le_tq0 rfl | exact le_tq0r rfl | refine le_tqr rfl ?_ | refine le_tq rfl ?_ | exact trivial | exact rfl | refine le_int ?_ | refine le_bool ?_ | refine le_str ?_ | refine le_sl ?_ | refine le_own ?_ | refine le_osl ?_ | refine le_nsl ?_ | refine ⟨_, rfl, ?_⟩ | refine ⟨?_, ?_⟩ | (omega; done) | exact Option.some_ne_none _ | fail)); first | done | fail) (h2 := by (repeat' (first | exact le_tq0 rfl | exact le_tq0r rfl | refine le_tqr rfl ?_ | refine le_tq rfl ?_ | exact trivial | exact rfl | refine le_int ?_ | refine le_bool ?_ | refine le_str ?_ | refine le_sl ?_ | refine le_own ?_ | refine le_osl ?_ | refine le_nsl ?_ | refine ⟨_, rfl, ?_⟩ | refine ⟨?_, ?_⟩ | (omega; done) | exact Option.some_ne_none _ | fail)); first | done | fail))⟩
        · rw [decide_eq_true (key_zero hk h3)] at sm
          repeat' (first | (with_reducible exact trivial) | simp (maxSteps := 2000000) (disch := omega) only [hg, hgl, hcl, Int.toNat_natCast, bys_length, List.map_cons, List.map_nil, List.length_cons, List.length_nil, evP, h3, go_sem, seval] | ((with_reducible refine isS ?_); first | refine cS (gty) ?_ | refine cS (gkey) ?_ | refine cS (sm) ?_ | fail) | ((with_reducible refine isT ?_); first | refine cT (gty) ?_ | refine cT (gkey) ?_ | refine cT (sm) ?_ | fail) | (first | ((with_reducible refine isC ?_); first | refine fork_P (fun h => ?_) (fun h => ?_) | refine fork_N (fun h => ?_) (fun h => ?_) | fail) | ((with_reducible refine isG ?_); first | refine fork_gP (fun h => ?_) (fun h => ?_) | refine fork_gN (fun h => ?_) (fun h => ?_) | refine fork_gnP (fun h => ?_) (fun h => ?_) | refine fork_gnN (fun h => ?_) (fun h => ?_) | fail) | fail) | ((with_reducible refine isI ?_ ?_); (kernel_rfl)) | fail)
          exact ⟨(i + 1, ⟨nx, false⟩), by simp only; omega, ⟨by simp only; omega, hrk⟩, (wkAu (h1 := by (repeat' (first | exact le_tq0 rfl | exact le_tq0r rfl | refine le_tqr rfl ?_ | refine le_tq rfl ?_ | exact trivial | exact rfl | refine le_int ?_ | refine le_bool ?_ | refine le_str ?_ | refine le_sl ?_ | refine le_own ?_ | refine le_osl ?_ | refine le_nsl ?_ | refine ⟨_, rfl, ?_⟩ | refine ⟨?_, ?_⟩ | (omega; done) | exact Option.some_ne_none _ | fail)); first | done | fail) (h2 := by (repeat' (first | exact le_tq0 rfl | exact le_tq0r rfl | refine le_tqr rfl ?_ | refine le_tq rfl ?_ | exact trivial | exact rfl | refine le_int ?_ | refine le_bool ?_ | refine le_str ?_ | refine le_sl ?_ | refine le_own ?_ | refine le_osl ?_ | refine le_nsl ?_ | refine ⟨_, rfl, ?_⟩ | refine ⟨?_, ?_⟩ | (omega; done) | exact Option.some_ne_none _ | fail)); first | done | fail))⟩
  · repeat' (first | (with_reducible exact trivial) | simp (maxSteps := 2000000) (disch := omega) only [bys_length, go_sem, seval] | ((with_reducible refine isS ?_); first | refine cS (gTAwake) ?_ | fail) | ((with_reducible refine isT ?_); first | refine cT (gTAwake) ?_ | fail) | ((with_reducible refine isE ?_); refine eA ?_; (repeat' (first | exact le_tq0 rfl | exact le_tq0r rfl | refine le_tqr rfl ?_ | refine le_tq rfl ?_ | exact trivial | refine le_int ?_ | refine le_bool ?_ | refine le_str ?_ | refine le_sl ?_ | refine le_own ?_ | refine le_osl ?_ | refine le_nsl ?_ | exact rfl | refine ⟨?_, ?_⟩ | fail))) | ((with_reducible refine isI ?_ ?_); (kernel_rfl)) | fail)
end Go.Proofs.YtmkblhinpnodaaaDoor
