/- Layer 22: what a step's octets say, as the document reads them (kinds 0 to 6). Own work. -/
import Derived.Test.YtlijecknkpcgfaaDoorXj
import Derived.Test.YtlijecknkpcgfaaDoorKc
import Derived.Test.YtlijecknkpcgfaaDoorScb
namespace Go.Proofs.YtlijecknkpcgfaaDoor
open Go Go.Shade
variable {Γ : Globs}
theorem quo_u8 (x : UInt8) : binE .quo (.p (.s (.int .u8 x.toNat))) (.p (.s (.int .u8 2))) = some (.int .u8 ((x.toNat / 2 : Nat) : Int)) := by
  have := x.toNat_lt
  rw [bin_quo _ _ _ (by omega), tdiv_pos (by omega), wrap8 (by omega) (by omega)]
  rfl
theorem quo4_u8 (x : UInt8) : binE .quo (.p (.s (.int .u8 x.toNat))) (.p (.s (.int .u8 4))) = some (.int .u8 ((x.toNat / 4 : Nat) : Int)) := by
  have := x.toNat_lt
  rw [bin_quo _ _ _ (by omega), tdiv_pos (by omega), wrap8 (by omega) (by omega)]
  rfl
theorem rem_two (k : IntKind) (n : Nat) : binE .rem (.p (.s (.int k n))) (.p (.s (.int k 2))) = some (.int k ((n % 2 : Nat) : Int)) := by
  rw [bin_rem _ _ _ (by omega), tmod_pos (by omega)]
  rfl
set_option maxHeartbeats 16000000 in
theorem gROf6 (c : UInt8) (r : List UInt8) (hl : longV (c :: r) = r.length + 1) (h7 : c.toNat < 7) : Go.Shade.Good Tryd.prog Γ 40 [.sl 1 (bys (c :: r))] [] (.ret (sV (ofV (c :: r)))) [] := by
  have g0 : (bys (c :: r)).getD 0 [] = [.s (.int .u8 c.toNat)] := rfl
  have hk : c.toNat = 0 ∨ c.toNat = 1 ∨ c.toNat = 2 ∨ c.toNat = 3 ∨ c.toNat = 4 ∨ c.toNat = 5 ∨ c.toNat = 6 := by omega
  rw [longV, if_neg (by omega)] at hl
  rcases hk with hk | hk | hk | hk | hk | hk | hk
  · rw [hk, if_neg (by omega), if_neg (by omega), if_neg (by omega)] at hl
    rw [hk] at g0
    match r, hl with
    | [x], _ =>
      have g1 : (bys [c, x]).getD 1 [] = [.s (.int .u8 x.toNat)] := rfl
      rw [show ofV [c, x] = { zS 0 with k := x } by rw [ofV, ofR, if_pos hk]; rfl]
      have hL : [c, x].length = 2 := rfl
      generalize [c, x] = B at g0 g1 hL ⊢
      refine sh_start mixed F40 rfl ⟨(by first | exact rfl | (simp only [go_sem, seval]; done) | (simp only [go_sem, seval]; exact rfl)), (by first | exact rfl | (simp only [go_sem, seval]; done) | (simp only [go_sem, seval]; exact rfl)), (by first | exact rfl | (simp only [go_sem, seval]; done) | (simp only [go_sem, seval]; exact rfl)), (by first | exact rfl | (simp only [go_sem, seval]; done) | (simp only [go_sem, seval]; exact rfl)), (by first | exact rfl | (simp only [go_sem, seval]; done) | (simp only [go_sem, seval]; exact rfl))⟩ ?_
      repeat' (first | (with_reducible exact trivial) | simp (maxSteps := 2000000) (disch := omega) only [zS, bys_length, g0, g1, go_sem, seval] | ((with_reducible refine isE ?_); refine eA ?_; (repeat' (first | exact le_mq0 rfl | exact le_mq0r rfl | exact le_jk50 (by simp only [List.length_cons, List.length_append, mq_len, List.length_nil]) | refine le_mqr ?_ | refine le_mq ?_ | exact trivial | refine le_int ?_ | refine le_bool ?_ | refine le_str ?_ | refine le_sl ?_ | refine le_own ?_ | refine le_osl ?_ | refine le_nsl ?_ | exact rfl | refine ⟨?_, ?_⟩ | fail))) | ((with_reducible refine isI ?_ ?_); (kernel_rfl)) | fail)
  · rw [hk, if_neg (by omega), if_neg (by omega), if_neg (by omega)] at hl
    rw [hk] at g0
    match r, hl with
    | [x, y], _ =>
      have g1 : (bys [c, x, y]).getD 1 [] = [.s (.int .u8 x.toNat)] := rfl
      have g2 : (bys [c, x, y]).getD 2 [] = [.s (.int .u8 y.toNat)] := rfl
      rw [show ofV [c, x, y] = { zS 1 with who := x.toNat, n := y.toNat } by rw [ofV, ofR, if_neg (by omega), if_pos hk]; rfl]
      have hL : [c, x, y].length = 3 := rfl
      generalize [c, x, y] = B at g0 g1 g2 hL ⊢
      refine sh_start mixed F40 rfl ⟨(by first | exact rfl | (simp only [go_sem, seval]; done) | (simp only [go_sem, seval]; exact rfl)), (by first | exact rfl | (simp only [go_sem, seval]; done) | (simp only [go_sem, seval]; exact rfl)), (by first | exact rfl | (simp only [go_sem, seval]; done) | (simp only [go_sem, seval]; exact rfl)), (by first | exact rfl | (simp only [go_sem, seval]; done) | (simp only [go_sem, seval]; exact rfl)), (by first | exact rfl | (simp only [go_sem, seval]; done) | (simp only [go_sem, seval]; exact rfl))⟩ ?_
      repeat' (first | (with_reducible exact trivial) | simp (maxSteps := 2000000) (disch := omega) only [zS, bys_length, g0, g1, g2, wrap64_u, go_sem, seval] | ((with_reducible refine isE ?_); refine eA ?_; (repeat' (first | exact le_mq0 rfl | exact le_mq0r rfl | exact le_jk50 (by simp only [List.length_cons, List.length_append, mq_len, List.length_nil]) | refine le_mqr ?_ | refine le_mq ?_ | exact trivial | refine le_int ?_ | refine le_bool ?_ | refine le_str ?_ | refine le_sl ?_ | refine le_own ?_ | refine le_osl ?_ | refine le_nsl ?_ | exact rfl | refine ⟨?_, ?_⟩ | fail))) | ((with_reducible refine isI ?_ ?_); (kernel_rfl)) | fail)
  · rw [hk, if_neg (by omega), if_neg (by omega), if_neg (by omega)] at hl
    rw [hk] at g0
    match r, hl with
    | [x, y], _ =>
      have g1 : (bys [c, x, y]).getD 1 [] = [.s (.int .u8 x.toNat)] := rfl
      have g2 : (bys [c, x, y]).getD 2 [] = [.s (.int .u8 y.toNat)] := rfl
      rw [show ofV [c, x, y] = { zS 2 with who := (x.toNat % 2 : Nat), n := y.toNat, him := decide (x.toNat / 2 % 2 = 1), on := decide (x.toNat / 4 % 2 = 1) } by rw [ofV, ofR, if_neg (by omega), if_neg (by omega), if_pos hk]; rfl]
      have d1 : decide (((x.toNat / 2 % 2 : Nat) : Int) = 1) = decide (x.toNat / 2 % 2 = 1) := decide_eq_decide.2 (by omega)
      have d2 : decide (((x.toNat / 4 % 2 : Nat) : Int) = 1) = decide (x.toNat / 4 % 2 = 1) := decide_eq_decide.2 (by omega)
      have hL : [c, x, y].length = 3 := rfl
      generalize [c, x, y] = B at g0 g1 g2 hL ⊢
      refine sh_start mixed F40 rfl ⟨(by first | exact rfl | (simp only [go_sem, seval]; done) | (simp only [go_sem, seval]; exact rfl)), (by first | exact rfl | (simp only [go_sem, seval]; done) | (simp only [go_sem, seval]; exact rfl)), (by first | exact rfl | (simp only [go_sem, seval]; done) | (simp only [go_sem, seval]; exact rfl)), (by first | exact rfl | (simp only [go_sem, seval]; done) | (simp only [go_sem, seval]; exact rfl)), (by first | exact rfl | (simp only [go_sem, seval]; done) | (simp only [go_sem, seval]; exact rfl))⟩ ?_
      repeat' (first | (with_reducible exact trivial) | simp (maxSteps := 2000000) (disch := omega) only [zS, bys_length, g0, g1, g2, wrap64_u, quo_u8, quo4_u8, rem_two, d1, d2, go_sem, seval] | ((with_reducible refine isE ?_); refine eA ?_; (repeat' (first | exact le_mq0 rfl | exact le_mq0r rfl | exact le_jk50 (by simp only [List.length_cons, List.length_append, mq_len, List.length_nil]) | refine le_mqr ?_ | refine le_mq ?_ | exact trivial | refine le_int ?_ | refine le_bool ?_ | refine le_str ?_ | refine le_sl ?_ | refine le_own ?_ | refine le_osl ?_ | refine le_nsl ?_ | exact rfl | refine ⟨?_, ?_⟩ | fail))) | ((with_reducible refine isI ?_ ?_); (kernel_rfl)) | fail)
  · rw [hk, if_neg (by omega), if_neg (by omega), if_neg (by omega)] at hl
    rw [hk] at g0
    match r, hl with
    | [x], _ =>
      have g1 : (bys [c, x]).getD 1 [] = [.s (.int .u8 x.toNat)] := rfl
      rw [show ofV [c, x] = { zS 3 with n := x.toNat } by rw [ofV, ofR, if_neg (by omega), if_neg (by omega), if_neg (by omega), if_pos hk]; rfl]
      have hL : [c, x].length = 2 := rfl
      generalize [c, x] = B at g0 g1 hL ⊢
      refine sh_start mixed F40 rfl ⟨(by first | exact rfl | (simp only [go_sem, seval]; done) | (simp only [go_sem, seval]; exact rfl)), (by first | exact rfl | (simp only [go_sem, seval]; done) | (simp only [go_sem, seval]; exact rfl)), (by first | exact rfl | (simp only [go_sem, seval]; done) | (simp only [go_sem, seval]; exact rfl)), (by first | exact rfl | (simp only [go_sem, seval]; done) | (simp only [go_sem, seval]; exact rfl)), (by first | exact rfl | (simp only [go_sem, seval]; done) | (simp only [go_sem, seval]; exact rfl))⟩ ?_
      repeat' (first | (with_reducible exact trivial) | simp (maxSteps := 2000000) (disch := omega) only [zS, bys_length, g0, g1, wrap64_u, go_sem, seval] | ((with_reducible refine isE ?_); refine eA ?_; (repeat' (first | exact le_mq0 rfl | exact le_mq0r rfl | exact le_jk50 (by simp only [List.length_cons, List.length_append, mq_len, List.length_nil]) | refine le_mqr ?_ | refine le_mq ?_ | exact trivial | refine le_int ?_ | refine le_bool ?_ | refine le_str ?_ | refine le_sl ?_ | refine le_own ?_ | refine le_osl ?_ | refine le_nsl ?_ | exact rfl | refine ⟨?_, ?_⟩ | fail))) | ((with_reducible refine isI ?_ ?_); (kernel_rfl)) | fail)
  · rw [hk] at g0
    match r, hl with
    | [], hl => rw [hk, if_neg (by simp), if_neg (by simp), if_neg (by simp)] at hl; cases hl
    | x :: q, hl =>
      rw [List.length_cons] at hl
      have o4 : ofV (c :: x :: q) = if x.toNat = 1 then { zS 4 with on := true, m := if (q.drop 1).length ≤ 32 then padM (q.drop 1) else .zero } else zS 4 := by
        rw [ofV, ofR, if_neg (by omega), if_neg (by omega), if_neg (by omega), if_neg (by omega), if_pos hk]
        rfl
      by_cases x0 : x.toNat = 0
      · rw [if_pos ⟨hk, by omega, x0⟩] at hl
        match q, hl with
        | [], _ =>
          have g1 : (bys [c, x]).getD 1 [] = [.s (.int .u8 0)] := by rw [← show ((x.toNat : Nat) : Int) = 0 by omega]; rfl
          rw [o4, if_neg (by omega)]
          have hL : [c, x].length = 2 := rfl
          generalize [c, x] = B at g0 g1 hL ⊢
          refine sh_start mixed F40 rfl ⟨(by first | exact rfl | (simp only [go_sem, seval]; done) | (simp only [go_sem, seval]; exact rfl)), (by first | exact rfl | (simp only [go_sem, seval]; done) | (simp only [go_sem, seval]; exact rfl)), (by first | exact rfl | (simp only [go_sem, seval]; done) | (simp only [go_sem, seval]; exact rfl)), (by first | exact rfl | (simp only [go_sem, seval]; done) | (simp only [go_sem, seval]; exact rfl)), (by first | exact rfl | (simp only [go_sem, seval]; done) | (simp only [go_sem, seval]; exact rfl))⟩ ?_
          repeat' (first | (with_reducible exact trivial) | simp (maxSteps := 2000000) (disch := omega) only [zS, bys_length, g0, g1, go_sem, seval] | ((with_reducible refine isE ?_); refine eA ?_; (repeat' (first | exact le_mq0 rfl | exact le_mq0r rfl | exact le_jk50 (by simp only [List.length_cons, List.length_append, mq_len, List.length_nil]) | refine le_mqr ?_ | refine le_mq ?_ | exact trivial | refine le_int ?_ | refine le_bool ?_ | refine le_str ?_ | refine le_sl ?_ | refine le_own ?_ | refine le_osl ?_ | refine le_nsl ?_ | exact rfl | refine ⟨?_, ?_⟩ | fail))) | ((with_reducible refine isI ?_ ?_); (kernel_rfl)) | fail)
      · rw [if_neg (fun k => x0 k.2.2)] at hl
        by_cases x1 : x.toNat = 1 ∧ 0 < q.length
        · rw [if_pos ⟨hk, by omega, x1.1⟩] at hl
          match q, hl, x1, o4 with
          | y :: q, hl, x1, o4 =>
            rw [List.length_cons] at hl
            have hy := y.toNat_lt
            have hq : q.length = y.toNat := by
              have : 3 + y.toNat = q.length + 1 + 1 + 1 := hl
              omega
            have g1 : (bys (c :: x :: y :: q)).getD 1 [] = [.s (.int .u8 1)] := by rw [← show ((x.toNat : Nat) : Int) = 1 by omega]; rfl
            have d3 : (c :: x :: y :: q).drop 3 = q := rfl
            have hg := gRGet (Γ := Γ) q (by omega)
            rw [o4, if_pos x1.1, show (y :: q).drop 1 = q from rfl]
            generalize (if q.length ≤ 32 then padM q else .zero) = M at hg
            have hL : (c :: x :: y :: q).length = q.length + 3 := rfl
            generalize c :: x :: y :: q = B at g0 g1 d3 hL ⊢
            refine sh_start mixed F40 rfl ⟨(by first | exact rfl | (simp only [go_sem, seval]; done) | (simp only [go_sem, seval]; exact rfl)), (by first | exact rfl | (simp only [go_sem, seval]; done) | (simp only [go_sem, seval]; exact rfl)), (by first | exact rfl | (simp only [go_sem, seval]; done) | (simp only [go_sem, seval]; exact rfl)), (by first | exact rfl | (simp only [go_sem, seval]; done) | (simp only [go_sem, seval]; exact rfl)), (by first | exact rfl | (simp only [go_sem, seval]; done) | (simp only [go_sem, seval]; exact rfl))⟩ ?_
            repeat' (first | (with_reducible exact trivial) | simp (maxSteps := 2000000) (disch := omega) only [zS, bys_length, g0, g1, List.take_length, bys_take, bys_drop, d3, go_sem, seval] | ((with_reducible refine isS ?_); first | refine cS (hg) ?_ | fail) | ((with_reducible refine isT ?_); first | refine cT (hg) ?_ | fail) | ((with_reducible refine isE ?_); refine eA ?_; (repeat' (first | exact le_mq0 rfl | exact le_mq0r rfl | exact le_jk50 (by simp only [List.length_cons, List.length_append, mq_len, List.length_nil]) | refine le_mqr ?_ | refine le_mq ?_ | exact trivial | refine le_int ?_ | refine le_bool ?_ | refine le_str ?_ | refine le_sl ?_ | refine le_own ?_ | refine le_osl ?_ | refine le_nsl ?_ | exact rfl | refine ⟨?_, ?_⟩ | fail))) | ((with_reducible refine isI ?_ ?_); (kernel_rfl)) | fail)
        · rw [if_neg (fun k => x1 ⟨k.2.2, by omega⟩), if_neg (by omega), hk] at hl
          cases hl
  · rw [hk, if_neg (by omega), if_neg (by omega), if_neg (by omega)] at hl
    rw [hk] at g0
    match r, hl with
    | [w, a, m, v], _ =>
      have g1 : (bys [c, w, a, m, v]).getD 1 [] = [.s (.int .u8 w.toNat)] := rfl
      have d2 : [c, w, a, m, v].drop 2 = [a, m, v] := rfl
      have o5 : ofV [c, w, a, m, v] = { zS 5 with who := w.toNat, t := match getT [a, m, v] with | some (t :: _) => t | _ => .zero } := by
        rw [ofV, ofR, if_neg (by omega), if_neg (by omega), if_neg (by omega), if_neg (by omega), if_neg (by omega), if_pos hk]
        rfl
      have hg := getT_one a m v
      by_cases hm : m &&& 28 = 0
      · rw [if_pos hm] at hg
        have h4 := gRGetOk (Γ := Γ) [a, m, v] [trip a m v] hg (by simp)
        rw [o5, hg]
        have hL : [c, w, a, m, v].length = 5 := rfl
        generalize [c, w, a, m, v] = B at g0 g1 d2 hL ⊢
        refine sh_start mixed F40 rfl ⟨(by first | exact rfl | (simp only [go_sem, seval]; done) | (simp only [go_sem, seval]; exact rfl)), (by first | exact rfl | (simp only [go_sem, seval]; done) | (simp only [go_sem, seval]; exact rfl)), (by first | exact rfl | (simp only [go_sem, seval]; done) | (simp only [go_sem, seval]; exact rfl)), (by first | exact rfl | (simp only [go_sem, seval]; done) | (simp only [go_sem, seval]; exact rfl)), (by first | exact rfl | (simp only [go_sem, seval]; done) | (simp only [go_sem, seval]; exact rfl))⟩ ?_
        repeat' (first | (with_reducible exact trivial) | simp (maxSteps := 2000000) (disch := omega) only [zS, tP, bys_length, g0, g1, List.take_length, bys_take, bys_drop, d2, wrap64_u, List.getD_cons_zero, List.map_cons, List.map_nil, go_sem, seval] | ((with_reducible refine isS ?_); first | refine cS (h4) ?_ | fail) | ((with_reducible refine isT ?_); first | refine cT (h4) ?_ | fail) | ((with_reducible refine isE ?_); refine eA ?_; (repeat' (first | exact le_mq0 rfl | exact le_mq0r rfl | exact le_jk50 (by simp only [List.length_cons, List.length_append, mq_len, List.length_nil]) | refine le_mqr ?_ | refine le_mq ?_ | exact trivial | refine le_int ?_ | refine le_bool ?_ | refine le_str ?_ | refine le_sl ?_ | refine le_own ?_ | refine le_osl ?_ | refine le_nsl ?_ | exact rfl | refine ⟨?_, ?_⟩ | fail))) | ((with_reducible refine isI ?_ ?_); (kernel_rfl)) | fail)
      · rw [if_neg hm] at hg
        have h4 := gRGetNo (Γ := Γ) [a, m, v] hg (by simp)
        rw [o5, hg]
        have hL : [c, w, a, m, v].length = 5 := rfl
        generalize [c, w, a, m, v] = B at g0 g1 d2 hL ⊢
        refine sh_start mixed F40 rfl ⟨(by first | exact rfl | (simp only [go_sem, seval]; done) | (simp only [go_sem, seval]; exact rfl)), (by first | exact rfl | (simp only [go_sem, seval]; done) | (simp only [go_sem, seval]; exact rfl)), (by first | exact rfl | (simp only [go_sem, seval]; done) | (simp only [go_sem, seval]; exact rfl)), (by first | exact rfl | (simp only [go_sem, seval]; done) | (simp only [go_sem, seval]; exact rfl)), (by first | exact rfl | (simp only [go_sem, seval]; done) | (simp only [go_sem, seval]; exact rfl))⟩ ?_
        repeat' (first | (with_reducible exact trivial) | simp (maxSteps := 2000000) (disch := omega) only [zS, bys_length, g0, g1, List.take_length, bys_take, bys_drop, d2, wrap64_u, go_sem, seval] | ((with_reducible refine isS ?_); first | refine cS (h4) ?_ | fail) | ((with_reducible refine isT ?_); first | refine cT (h4) ?_ | fail) | ((with_reducible refine isE ?_); refine eA ?_; (repeat' (first | exact le_mq0 rfl | exact le_mq0r rfl | exact le_jk50 (by simp only [List.length_cons, List.length_append, mq_len, List.length_nil]) | refine le_mqr ?_ | refine le_mq ?_ | exact trivial | refine le_int ?_ | refine le_bool ?_ | refine le_str ?_ | refine le_sl ?_ | refine le_own ?_ | refine le_osl ?_ | refine le_nsl ?_ | exact rfl | refine ⟨?_, ?_⟩ | fail))) | ((with_reducible refine isI ?_ ?_); (kernel_rfl)) | fail)
  · rw [hk] at g0
    match r, hl with
    | [], hl => rw [hk, if_neg (by simp), if_neg (by simp), if_neg (by simp)] at hl; cases hl
    | x :: q, hl =>
      rw [if_neg (by omega), if_neg (by omega), if_pos ⟨hk, by simp⟩, List.length_cons] at hl
      have hx := x.toNat_lt
      have hq : q.length = x.toNat := by
        have : 2 + x.toNat = q.length + 1 + 1 := hl
        omega
      have d2 : (c :: x :: q).drop 2 = q := rfl
      rw [show ofV (c :: x :: q) = { zS 6 with b := q } by
        rw [ofV, ofR, if_neg (by omega), if_neg (by omega), if_neg (by omega), if_neg (by omega), if_neg (by omega), if_neg (by omega), if_pos hk]; rfl]
      have hL : (c :: x :: q).length = q.length + 2 := rfl
      generalize c :: x :: q = B at g0 d2 hL ⊢
      refine sh_start mixed F40 rfl ⟨(by first | exact rfl | (simp only [go_sem, seval]; done) | (simp only [go_sem, seval]; exact rfl)), (by first | exact rfl | (simp only [go_sem, seval]; done) | (simp only [go_sem, seval]; exact rfl)), (by first | exact rfl | (simp only [go_sem, seval]; done) | (simp only [go_sem, seval]; exact rfl)), (by first | exact rfl | (simp only [go_sem, seval]; done) | (simp only [go_sem, seval]; exact rfl)), (by first | exact rfl | (simp only [go_sem, seval]; done) | (simp only [go_sem, seval]; exact rfl))⟩ ?_
      repeat' (first | (with_reducible exact trivial) | simp (maxSteps := 2000000) (disch := omega) only [zS, bys_length, g0, List.take_length, bys_take, bys_drop, d2, go_sem, seval] | ((with_reducible refine isE ?_); refine eA ?_; (repeat' (first | exact le_mq0 rfl | exact le_mq0r rfl | exact le_jk50 (by simp only [List.length_cons, List.length_append, mq_len, List.length_nil]) | refine le_mqr ?_ | refine le_mq ?_ | exact trivial | refine le_int ?_ | refine le_bool ?_ | refine le_str ?_ | refine le_sl ?_ | refine le_own ?_ | refine le_osl ?_ | refine le_nsl ?_ | exact rfl | refine ⟨?_, ?_⟩ | fail))) | ((with_reducible refine isI ?_ ?_); (kernel_rfl)) | fail)
end Go.Proofs.YtlijecknkpcgfaaDoor
