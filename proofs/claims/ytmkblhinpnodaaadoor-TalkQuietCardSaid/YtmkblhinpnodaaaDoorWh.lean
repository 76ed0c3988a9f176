/- Layer 15: TalkQuiet. Own work. -/
import Derived.Test.YtmkblhinpnodaaaDoorWg
import Derived.Test.YtmkblhinpnodaaaDoorZ3
namespace Go.Proofs.YtmkblhinpnodaaaDoor
open Go Go.Shade
variable {Γ : Globs}
theorem take_drop1 {b : List UInt8} {i : Nat} {c : UInt8} (hl : i < b.length) (hc : b.getD i 0 = c) : (b.take (i + 1)).drop i = [c] := by
  subst hc
  rw [take_upE hl, List.drop_append_of_le_length (by rw [List.length_take]; omega), List.drop_eq_nil_of_le (by rw [List.length_take]; omega), List.nil_append]
set_option maxHeartbeats 8000000 in
theorem gLQuiet (t : Tbl) (room : Int) (b0 : List UInt8) : Good Tryd.prog ΓT 3 [dtA t room, .sl 1 (bys b0)] [] (.ret (.bool true)) [] := by
  have h1 := gEKeys (Γ := ΓT) b0
  have hlen : (b0.take 200).length ≤ 200 := by rw [List.length_take]; omega
  generalize b0.take 200 = b at h1 hlen
  refine sh_start mixed F3 rfl ⟨(by first | exact rfl | (simp only [go_sem, seval]; done) | (simp only [go_sem, seval]; exact rfl)), (by first | exact rfl | (simp only [go_sem, seval]; done) | (simp only [go_sem, seval]; exact rfl)), (by first | exact rfl | (simp only [go_sem, seval]; done) | (simp only [go_sem, seval]; exact rfl)), (by first | exact rfl | (simp only [go_sem, seval]; done) | (simp only [go_sem, seval]; exact rfl)), (by first | exact rfl | (simp only [go_sem, seval]; done) | (simp only [go_sem, seval]; exact rfl))⟩ ?_
  repeat' (first | (with_reducible exact trivial) | simp (maxSteps := 2000000) (disch := omega) only [go_sem, seval] | ((with_reducible refine isS ?_); first | refine cS (h1) ?_ | fail) | ((with_reducible refine isT ?_); first | refine cT (h1) ?_ | fail) | ((with_reducible refine isI ?_ ?_); (kernel_rfl)) | fail)
  refine sh_loopX mixed (fun x : Nat × Tk × Bool => ([(1, .sl 1 (bys b)), (2, .ptr 0 0), (5, .ptr 1 0), (6, .ptr 2 0), (7, .bool x.2.2), (8, .int .i64 x.1)],
    [(0, .box (tq t ++ [.int .i64 room]) false), (1, .box [.sl 1 (bys x.2.1.s.b), .int .i64 x.2.1.s.n, .bool x.2.1.s.o, .bool x.2.1.s.l, .bool x.2.1.h] false),
     (2, .box [.sl 1 (bys x.2.1.s.b), .int .i64 x.2.1.s.n, .bool x.2.1.s.o, .bool x.2.1.s.l, .bool false] false)])) (fun x => b.length - x.1)
    (fun x => x.1 ≤ b.length ∧ Rch t room x.2.1.s ∧ (x.2.2 = true → x.2.1.h = true ∨ x.2.1.s = .zero)) (0, .zero, true) ⟨Nat.zero_le _, rch_zero t room, fun _ => .inr rfl⟩ wkAu ?_
  rintro ⟨i, k, q⟩ ⟨hi, hr, hq⟩
  simp only at hi hr hq
  by_cases hl : i < b.length
  · have hg := bys_at hl
    have hsl := take_drop1 (c := b.getD i 0) hl rfl
    generalize b.getD i 0 = c at hg hsl
    have hbl : ((i : Int) + 1).toNat = i + 1 := by omega
    have hev := key_one t k.s room c
    have hrk := rch_key (k := c) hr
    have htf := type_tf t room k c
    have hra0 := type_raw t room k.s c true
    have hra1 := type_raw t room k.s c false
    obtain ⟨nx, ev, be, hk⟩ : ∃ nx ev be, keyV t room k.s c = (nx, ev, be) := ⟨_, _, _, rfl⟩
    have gkey := gEKey (Γ := ΓT) t room k.s c hr.ok hk
    rw [hk] at hev hrk htf hra0 hra1
    simp only at hev hrk htf hra0 hra1
    have gr0 := gTType (Γ := ΓT) t room ⟨k.s, false⟩ c false true hr.ok hra0
    have gr1 := gTType (Γ := ΓT) t room ⟨k.s, false⟩ c false false hr.ok hra1
    have hrem : (i : Int).tmod 2 = 0 ∨ (i : Int).tmod 2 = 1 := by
      rw [Int.tmod_eq_emod_of_nonneg (Int.natCast_nonneg i)]; omega
    rcases hrem with hrem | hrem
    all_goals
      rcases htf with ⟨_, rfl, hty⟩ | ⟨hn, hty⟩
      · have gty := gTType (Γ := ΓT) t room k c true false hr.ok hty
        cases q
        · repeat' (first | (with_reducible exact trivial) | simp (maxSteps := 2000000) (disch := omega) only [bin_rem, hrem, hg, hsl, hbl, decide_true, eq_self, Bool.not_true, Int.toNat_natCast, bys_length, List.map_nil, List.length_nil, go_sem, seval] | ((with_reducible refine isS ?_); first | refine cS (gty) ?_ | refine cS (gkey) ?_ | refine cS (gr0) ?_ | refine cS (gr1) ?_ | fail) | ((with_reducible refine isT ?_); first | refine cT (gty) ?_ | refine cT (gkey) ?_ | refine cT (gr0) ?_ | refine cT (gr1) ?_ | fail) | (first | ((with_reducible refine isC ?_); first | refine fork_P (fun h => ?_) (fun h => ?_) | refine fork_N (fun h => ?_) (fun h => ?_) | fail) | ((with_reducible refine isG ?_); first | refine fork_gP (fun h => ?_) (fun h => ?_) | refine fork_gN (fun h => ?_) (fun h => ?_) | refine fork_gnP (fun h => ?_) (fun h => ?_) | refine fork_gnN (fun h => ?_) (fun h => ?_) | fail) | fail) | ((with_reducible refine isI ?_ ?_); (kernel_rfl)) | fail)
          all_goals exact ⟨(i + 1, ⟨nx, true⟩, false), by simp only; omega, ⟨by simp only; omega, hrk, fun h => by cases h⟩, (wkAu (h1 := by (repeat' (first | exact le_tq0 rfl | exact le_tq0r rfl | refine le_tqr rfl ?_ | refine le_tq rfl ?_ | exact trivial | exact rfl | refine le_int ?_ | refine le_bool ?_ | refine le_str ?_ | refine le_sl ?_ | refine le_own ?_ | refine le_osl ?_ | refine le_nsl ?_ | refine ⟨_, rfl, ?_⟩ | refine ⟨?_, ?_⟩ | (omega; done) | exact Option.some_ne_none _ | fail)); first | done | fail) (h2 := by (repeat' (first | exact le_tq0 rfl | exact le_tq0r rfl | refine le_tqr rfl ?_ | refine le_tq rfl ?_ | exact trivial | exact rfl | refine le_int ?_ | refine le_bool ?_ | refine le_str ?_ | refine le_sl ?_ | refine le_own ?_ | refine le_osl ?_ | refine le_nsl ?_ | refine ⟨_, rfl, ?_⟩ | refine ⟨?_, ?_⟩ | (omega; done) | exact Option.some_ne_none _ | fail)); first | done | fail))⟩
        · repeat' (first | (with_reducible exact trivial) | simp (maxSteps := 2000000) (disch := omega) only [bin_rem, hrem, hg, hsl, hbl, decide_true, eq_self, Bool.not_true, Int.toNat_natCast, bys_length, List.map_nil, List.length_nil, go_sem, seval] | ((with_reducible refine isS ?_); first | refine cS (gty) ?_ | refine cS (gkey) ?_ | refine cS (gr0) ?_ | refine cS (gr1) ?_ | fail) | ((with_reducible refine isT ?_); first | refine cT (gty) ?_ | refine cT (gkey) ?_ | refine cT (gr0) ?_ | refine cT (gr1) ?_ | fail) | (first | ((with_reducible refine isC ?_); first | refine fork_P (fun h => ?_) (fun h => ?_) | refine fork_N (fun h => ?_) (fun h => ?_) | fail) | ((with_reducible refine isG ?_); first | refine fork_gP (fun h => ?_) (fun h => ?_) | refine fork_gN (fun h => ?_) (fun h => ?_) | refine fork_gnP (fun h => ?_) (fun h => ?_) | refine fork_gnN (fun h => ?_) (fun h => ?_) | fail) | fail) | ((with_reducible refine isI ?_ ?_); (kernel_rfl)) | fail)
          all_goals exact ⟨(i + 1, ⟨nx, true⟩, true), by simp only; omega, ⟨by simp only; omega, hrk, fun _ => .inl rfl⟩, (wkAu (h1 := by (repeat' (first | exact le_tq0 rfl | exact le_tq0r rfl | refine le_tqr rfl ?_ | refine le_tq rfl ?_ | exact trivial | exact rfl | refine le_int ?_ | refine le_bool ?_ | refine le_str ?_ | refine le_sl ?_ | refine le_own ?_ | refine le_osl ?_ | refine le_nsl ?_ | refine ⟨_, rfl, ?_⟩ | refine ⟨?_, ?_⟩ | (omega; done) | exact Option.some_ne_none _ | fail)); first | done | fail) (h2 := by (repeat' (first | exact le_tq0 rfl | exact le_tq0r rfl | refine le_tqr rfl ?_ | refine le_tq rfl ?_ | exact trivial | exact rfl | refine le_int ?_ | refine le_bool ?_ | refine le_str ?_ | refine le_sl ?_ | refine le_own ?_ | refine le_osl ?_ | refine le_nsl ?_ | refine ⟨_, rfl, ?_⟩ | refine ⟨?_, ?_⟩ | (omega; done) | exact Option.some_ne_none _ | fail)); first | done | fail))⟩
      · have gty := gTType (Γ := ΓT) t room k c true false hr.ok hty
        generalize (if k.h = true then renewV t k.s else []) ++ [c] = K at gty
        cases q
        · repeat' (first | (with_reducible exact trivial) | simp (maxSteps := 2000000) (disch := omega) only [bin_rem, hrem, hg, hsl, hbl, decide_true, eq_self, Bool.not_true, Int.toNat_natCast, bys_length, List.map_nil, List.length_nil, go_sem, seval] | ((with_reducible refine isS ?_); first | refine cS (gty) ?_ | refine cS (gkey) ?_ | refine cS (gr0) ?_ | refine cS (gr1) ?_ | fail) | ((with_reducible refine isT ?_); first | refine cT (gty) ?_ | refine cT (gkey) ?_ | refine cT (gr0) ?_ | refine cT (gr1) ?_ | fail) | (first | ((with_reducible refine isC ?_); first | refine fork_P (fun h => ?_) (fun h => ?_) | refine fork_N (fun h => ?_) (fun h => ?_) | fail) | ((with_reducible refine isG ?_); first | refine fork_gP (fun h => ?_) (fun h => ?_) | refine fork_gN (fun h => ?_) (fun h => ?_) | refine fork_gnP (fun h => ?_) (fun h => ?_) | refine fork_gnN (fun h => ?_) (fun h => ?_) | fail) | fail) | ((with_reducible refine isI ?_ ?_); (kernel_rfl)) | fail)
          all_goals exact ⟨(i + 1, ⟨nx, false⟩, false), by simp only; omega, ⟨by simp only; omega, hrk, fun h => by cases h⟩, (wkAu (h1 := by (repeat' (first | exact le_tq0 rfl | exact le_tq0r rfl | refine le_tqr rfl ?_ | refine le_tq rfl ?_ | exact trivial | exact rfl | refine le_int ?_ | refine le_bool ?_ | refine le_str ?_ | refine le_sl ?_ | refine le_own ?_ | refine le_osl ?_ | refine le_nsl ?_ | refine ⟨_, rfl, ?_⟩ | refine ⟨?_, ?_⟩ | (omega; done) | exact Option.some_ne_none _ | fail)); first | done | fail) (h2 := by (repeat' (first | exact le_tq0 rfl | exact le_tq0r rfl | refine le_tqr rfl ?_ | refine le_tq rfl ?_ | exact trivial | exact rfl | refine le_int ?_ | refine le_bool ?_ | refine le_str ?_ | refine le_sl ?_ | refine le_own ?_ | refine le_osl ?_ | refine le_nsl ?_ | refine ⟨_, rfl, ?_⟩ | refine ⟨?_, ?_⟩ | (omega; done) | exact Option.some_ne_none _ | fail)); first | done | fail))⟩
        · rcases one_cases hev with rfl | ⟨e, rfl⟩
          · exact absurd ⟨hq rfl, rfl⟩ hn
          · repeat' (first | (with_reducible exact trivial) | simp (maxSteps := 2000000) (disch := omega) only [bin_rem, hrem, hg, hsl, hbl, decide_true, eq_self, Bool.not_true, Int.toNat_natCast, bys_length, List.map_cons, List.map_nil, List.length_cons, List.length_nil, go_sem, seval] | ((with_reducible refine isS ?_); first | refine cS (gty) ?_ | refine cS (gkey) ?_ | refine cS (gr0) ?_ | refine cS (gr1) ?_ | fail) | ((with_reducible refine isT ?_); first | refine cT (gty) ?_ | refine cT (gkey) ?_ | refine cT (gr0) ?_ | refine cT (gr1) ?_ | fail) | (first | ((with_reducible refine isC ?_); first | refine fork_P (fun h => ?_) (fun h => ?_) | refine fork_N (fun h => ?_) (fun h => ?_) | fail) | ((with_reducible refine isG ?_); first | refine fork_gP (fun h => ?_) (fun h => ?_) | refine fork_gN (fun h => ?_) (fun h => ?_) | refine fork_gnP (fun h => ?_) (fun h => ?_) | refine fork_gnN (fun h => ?_) (fun h => ?_) | fail) | fail) | ((with_reducible refine isI ?_ ?_); (kernel_rfl)) | fail)
            all_goals exact ⟨(i + 1, ⟨nx, false⟩, false), by simp only; omega, ⟨by simp only; omega, hrk, fun h => by cases h⟩, (wkAu (h1 := by (repeat' (first | exact le_tq0 rfl | exact le_tq0r rfl | refine le_tqr rfl ?_ | refine le_tq rfl ?_ | exact trivial | exact rfl | refine le_int ?_ | refine le_bool ?_ | refine le_str ?_ | refine le_sl ?_ | refine le_own ?_ | refine le_osl ?_ | refine le_nsl ?_ | refine ⟨_, rfl, ?_⟩ | refine ⟨?_, ?_⟩ | (omega; done) | exact Option.some_ne_none _ | fail)); first | done | fail) (h2 := by (repeat' (first | exact le_tq0 rfl | exact le_tq0r rfl | refine le_tqr rfl ?_ | refine le_tq rfl ?_ | exact trivial | exact rfl | refine le_int ?_ | refine le_bool ?_ | refine le_str ?_ | refine le_sl ?_ | refine le_own ?_ | refine le_osl ?_ | refine le_nsl ?_ | refine ⟨_, rfl, ?_⟩ | refine ⟨?_, ?_⟩ | (omega; done) | exact Option.some_ne_none _ | fail)); first | done | fail))⟩
  · have sm := gESame (Γ := ΓT) k.s k.s
    rw [decide_eq_true rfl] at sm
    repeat' (first | (with_reducible exact trivial) | simp (maxSteps := 2000000) (disch := omega) only [bys_length, go_sem, seval] | ((with_reducible refine isS ?_); first | refine cS (sm) ?_ | refine cS (gTAwake) ?_ | fail) | ((with_reducible refine isT ?_); first | refine cT (sm) ?_ | refine cT (gTAwake) ?_ | fail) | ((with_reducible refine isE ?_); refine eA ?_; (repeat' (first | exact le_tq0 rfl | exact le_tq0r rfl | refine le_tqr rfl ?_ | refine le_tq rfl ?_ | exact trivial | refine le_int ?_ | refine le_bool ?_ | refine le_str ?_ | refine le_sl ?_ | refine le_own ?_ | refine le_osl ?_ | refine le_nsl ?_ | exact rfl | refine ⟨?_, ?_⟩ | fail))) | ((with_reducible refine isI ?_ ?_); (kernel_rfl)) | fail)
end Go.Proofs.YtmkblhinpnodaaaDoor
