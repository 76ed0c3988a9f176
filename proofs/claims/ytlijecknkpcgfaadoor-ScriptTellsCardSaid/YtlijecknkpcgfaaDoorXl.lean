/- Layer 22: what a step's octets say, as the document reads them (kind 7, and all). Own work. -/
import Derived.Test.YtlijecknkpcgfaaDoorXk
import Derived.Test.YtlijecknkpcgfaaDoorXc
import Derived.Test.YtlijecknkpcgfaaDoorScb
namespace Go.Proofs.YtlijecknkpcgfaaDoor
open Go Go.Shade
variable {Γ : Globs}
/-- A turn, so far as it is read: so many weights, the number, so many octets of the draw. -/
def trn (q : List UInt8) (i : Nat) : Stp := { zS 7 with w0 := if 0 < i then wAt q 0 else 0, w1 := if 1 < i then wAt q 8 else 0, w2 := if 2 < i then wAt q 16 else 0, w3 := if 3 < i then wAt q 24 else 0 }
theorem wAt_take {q : List UInt8} {i : Nat} (h : i + 8 ≤ 32) : wAt (q.take 32) i = wAt q i := by
  unfold wAt
  rw [List.drop_take, List.take_take, show min 8 (32 - i) = 8 by omega]
/-- The octets of the draw from k on, as a number. -/
def drw (q : List UInt8) (m : Nat) : Nat := num8 ((q.drop (40 - m)).take m)
set_option maxHeartbeats 16000000 in
theorem gROf7 (c : UInt8) (r : List UInt8) (hl : r.length = 41) (hk : c.toNat = 7) : Go.Shade.Good Tryd.prog Γ 40 [.sl 1 (bys (c :: r))] [] (.ret (sV (ofV (c :: r)))) [] := by
  match r, hl with
  | y :: q, hl =>
    have hq : q.length = 40 := by simpa using hl
    have g0 : (bys (c :: y :: q)).getD 0 [] = [.s (.int .u8 7)] := by rw [← show ((c.toNat : Nat) : Int) = 7 by omega]; rfl
    have g1 : (bys (c :: y :: q)).getD 1 [] = [.s (.int .u8 y.toNat)] := rfl
    have hbl : (bys (c :: y :: q)).length = 42 := by rw [bys_length, List.length_cons, hl]
    have d2 : ((c :: y :: q).take 34).drop 2 = q.take 32 := rfl
    have o7 : ofV (c :: y :: q) = { trn q 4 with n := y.toNat, draw := drw q 8 } := by
      rw [ofV, ofR, if_neg (by omega), if_neg (by omega), if_neg (by omega), if_neg (by omega), if_neg (by omega), if_neg (by omega), if_neg (by omega), if_pos hk]
      rfl
    have hr := gRRead (Γ := Γ) (q.take 32) (by rw [List.length_take]; omega)
    rw [W4, wAt_take (by omega), wAt_take (by omega), wAt_take (by omega), wAt_take (by omega)] at hr
    have f1 : (flt [wAt q 0, wAt q 8, wAt q 16, wAt q 24]).length = 4 := rfl
    have e0 : (flt [wAt q 0, wAt q 8, wAt q 16, wAt q 24]).getD 0 [] = [.s (.float .f64 (wAt q 0))] := rfl
    have e1 : (flt [wAt q 0, wAt q 8, wAt q 16, wAt q 24]).getD 1 [] = [.s (.float .f64 (wAt q 8))] := rfl
    have e2 : (flt [wAt q 0, wAt q 8, wAt q 16, wAt q 24]).getD 2 [] = [.s (.float .f64 (wAt q 16))] := rfl
    have e3 : (flt [wAt q 0, wAt q 8, wAt q 16, wAt q 24]).getD 3 [] = [.s (.float .f64 (wAt q 24))] := rfl
    rw [o7]
    refine sh_start mixed F40 rfl ⟨(by first | exact rfl | (simp only [go_sem, seval]; done) | (simp only [go_sem, seval]; exact rfl)), (by first | exact rfl | (simp only [go_sem, seval]; done) | (simp only [go_sem, seval]; exact rfl)), (by first | exact rfl | (simp only [go_sem, seval]; done) | (simp only [go_sem, seval]; exact rfl)), (by first | exact rfl | (simp only [go_sem, seval]; done) | (simp only [go_sem, seval]; exact rfl)), (by first | exact rfl | (simp only [go_sem, seval]; done) | (simp only [go_sem, seval]; exact rfl))⟩ ?_
    repeat' (first | (with_reducible exact trivial) | simp (maxSteps := 2000000) (disch := omega) only [hbl, g0, bys_take, bys_drop, go_sem, seval] | ((with_reducible refine isS ?_); first | refine cS (hr) ?_ | fail) | ((with_reducible refine isT ?_); first | refine cT (hr) ?_ | fail) | ((with_reducible refine isI ?_ ?_); (kernel_rfl)) | fail)
    refine sh_loopX mixed (fun i : Nat => ([(0, .sl 1 (bys (c :: y :: q))), (2, .ptr 0 0), (3, .ptr 1 0), (6, .sl 1 (flt [wAt q 0, wAt q 8, wAt q 16, wAt q 24])), (8, .int .i64 i)], [(0, .box (sC (zS 0)) false), (1, .box (sC (trn q i)) false)])) (fun i => 4 - i) (fun i => i ≤ 4) 0 (by omega)
      wkAu ?_
    intro i hi
    have hc : i = 0 ∨ i = 1 ∨ i = 2 ∨ i = 3 ∨ i = 4 := by omega
    rcases hc with rfl | rfl | rfl | rfl | rfl
    · repeat' (first | (with_reducible exact trivial) | simp (maxSteps := 2000000) (disch := omega) only [trn, f1, e0, go_sem, seval] | ((with_reducible refine isI ?_ ?_); (kernel_rfl)) | fail)
      exact ⟨1, by omega, by omega, wkAu⟩
    · repeat' (first | (with_reducible exact trivial) | simp (maxSteps := 2000000) (disch := omega) only [trn, f1, e1, go_sem, seval] | ((with_reducible refine isI ?_ ?_); (kernel_rfl)) | fail)
      exact ⟨2, by omega, by omega, wkAu⟩
    · repeat' (first | (with_reducible exact trivial) | simp (maxSteps := 2000000) (disch := omega) only [trn, f1, e2, go_sem, seval] | ((with_reducible refine isI ?_ ?_); (kernel_rfl)) | fail)
      exact ⟨3, by omega, by omega, wkAu⟩
    · repeat' (first | (with_reducible exact trivial) | simp (maxSteps := 2000000) (disch := omega) only [trn, f1, e3, go_sem, seval] | ((with_reducible refine isI ?_ ?_); (kernel_rfl)) | fail)
      exact ⟨4, by omega, by omega, wkAu⟩
    · repeat' (first | (with_reducible exact trivial) | simp (maxSteps := 2000000) (disch := omega) only [trn, hbl, g1, wrap64_u, go_sem, seval] | ((with_reducible refine isI ?_ ?_); (kernel_rfl)) | fail)
      refine sh_loopX mixed (fun m : Nat => ([(0, .sl 1 (bys (c :: y :: q))), (2, .ptr 0 0), (3, .ptr 1 0), (9, .int .i64 (41 - (m : Int)))], [(0, .box (sC (zS 0)) false), (1, .box (sC { trn q 4 with n := y.toNat, draw := drw q m }) false)])) (fun m => 8 - m) (fun m => m ≤ 8) 0 (by omega)
        wkAu ?_
      intro m hm
      by_cases h8 : m < 8
      · have hst := num8_back (b := q) (i := 32) (m := m) (by omega) h8
        have hlt := num8_lt ((q.drop (40 - m)).take m)
        have hll : ((q.drop (40 - m)).take m).length = m := by rw [List.length_take, List.length_drop]; omega
        rw [hll] at hlt
        have hp : 256 * 256 ^ m ≤ (18446744073709551616 : Nat) := by
          have : ∀ m : Nat, m < 8 → 256 * 256 ^ m ≤ (18446744073709551616 : Nat) := by decide
          exact this m h8
        have hix : (41 - (m : Int)) = ((41 - m : Nat) : Int) := by omega
        have hg : (bys (c :: y :: q)).getD (41 - m) [] = [.s (.int .u8 (q.getD (39 - m) 0).toNat)] := by
          rw [show 41 - m = (39 - m) + 1 + 1 by omega]
          exact bys_getD (B := q) (by omega)
        have hc := (q.getD (39 - m) 0).toNat_lt
        rw [show 32 + 7 - m = 39 - m by omega, show 32 + 8 - m = 40 - m by omega] at hst
        have hst' : drw q (m + 1) = (q.getD (39 - m) 0).toNat + 256 * drw q m := by
          rw [drw, show 40 - (m + 1) = 39 - m by omega]
          exact hst
        change drw q m < 256 ^ m at hlt
        have hw1 : IntKind.u64.wrap (256 * ((drw q m : Nat) : Int)) = 256 * ((drw q m : Nat) : Int) := Go.Proofs.u64_in (by omega) (by omega)
        have hw2 : IntKind.u64.wrap (256 * ((drw q m : Nat) : Int) + ((q.getD (39 - m) 0).toNat : Int)) = 256 * ((drw q m : Nat) : Int) + ((q.getD (39 - m) 0).toNat : Int) := Go.Proofs.u64_in (by omega) (by omega)
        generalize hz : (q.getD (39 - m) 0) = z at *
        repeat' (first | (with_reducible exact trivial) | simp (maxSteps := 2000000) (disch := omega) only [hbl, hix, Int.toNat_natCast, hg, wrap64u, hw1, hw2, go_sem, seval] | ((with_reducible refine isI ?_ ?_); (kernel_rfl)) | fail)
        exact ⟨m + 1, by omega, by omega, (wkAu (h1 := by (repeat' (first | exact le_mq0 rfl | exact le_mq0r rfl | exact le_jk50 (by simp only [List.length_cons, List.length_append, mq_len, List.length_nil]) | refine le_mqr ?_ | refine le_mq ?_ | exact trivial | exact rfl | refine le_int ?_ | refine le_bool ?_ | refine le_str ?_ | refine le_sl ?_ | refine le_own ?_ | refine le_osl ?_ | refine le_nsl ?_ | refine ⟨_, rfl, ?_⟩ | refine ⟨?_, ?_⟩ | (first | (rw [hst']; omega) | omega; done) | exact Option.some_ne_none _ | fail)); first | done | fail) (h2 := by (repeat' (first | exact le_mq0 rfl | exact le_mq0r rfl | exact le_jk50 (by simp only [List.length_cons, List.length_append, mq_len, List.length_nil]) | refine le_mqr ?_ | refine le_mq ?_ | exact trivial | exact rfl | refine le_int ?_ | refine le_bool ?_ | refine le_str ?_ | refine le_sl ?_ | refine le_own ?_ | refine le_osl ?_ | refine le_nsl ?_ | refine ⟨_, rfl, ?_⟩ | refine ⟨?_, ?_⟩ | (first | (rw [hst']; omega) | omega; done) | exact Option.some_ne_none _ | fail)); first | done | fail))⟩
      · obtain rfl : m = 8 := by omega
        repeat' (first | (with_reducible exact trivial) | simp (maxSteps := 2000000) (disch := omega) only [go_sem, seval] | ((with_reducible refine isE ?_); refine eA ?_; (repeat' (first | exact le_mq0 rfl | exact le_mq0r rfl | exact le_jk50 (by simp only [List.length_cons, List.length_append, mq_len, List.length_nil]) | refine le_mqr ?_ | refine le_mq ?_ | exact trivial | refine le_int ?_ | refine le_bool ?_ | refine le_str ?_ | refine le_sl ?_ | refine le_own ?_ | refine le_osl ?_ | refine le_nsl ?_ | exact rfl | refine ⟨?_, ?_⟩ | fail))) | ((with_reducible refine isI ?_ ?_); (kernel_rfl)) | fail)
theorem gROf (b : List UInt8) (h0 : longV b ≠ 0) (hl : longV b = b.length) : Go.Shade.Good Tryd.prog Γ 40 [.sl 1 (bys b)] [] (.ret (sV (ofV b))) [] := by
  match b, h0, hl with
  | [], h0, _ => exact absurd rfl h0
  | c :: r, h0, hl =>
    rw [List.length_cons] at hl
    by_cases h7 : c.toNat < 7
    · exact gROf6 c r hl h7
    · have hk : c.toNat = 7 := by
        refine Classical.byContradiction fun h => h0 ?_
        rw [longV, if_pos (by omega)]
      refine gROf7 c r ?_ hk
      rw [longV, if_neg (by omega), if_neg (by omega), if_neg (by omega), if_neg (by omega), hk] at hl
      have : 42 = r.length + 1 := hl
      omega
end Go.Proofs.YtlijecknkpcgfaaDoor
