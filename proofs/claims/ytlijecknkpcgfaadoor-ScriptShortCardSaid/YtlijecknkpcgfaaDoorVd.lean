/- Layers 20 and 22: what is written. Own work. -/
import Derived.Test.YtlijecknkpcgfaaDoorVb
import Derived.Test.YtlijecknkpcgfaaDoorScb
namespace Go.Proofs.YtlijecknkpcgfaaDoor
open Go Go.Shade
variable {Γ : Globs}
theorem gIsNaN (w : Nat) : Good Tryd.prog Γ 29 [fA w] [] (.ret (.bool (nanB w))) [] := by
  refine sh_start mixed F29 rfl ⟨(by first | exact rfl | (simp only [go_sem, seval]; done) | (simp only [go_sem, seval]; exact rfl)), (by first | exact rfl | (simp only [go_sem, seval]; done) | (simp only [go_sem, seval]; exact rfl)), (by first | exact rfl | (simp only [go_sem, seval]; done) | (simp only [go_sem, seval]; exact rfl)), (by first | exact rfl | (simp only [go_sem, seval]; done) | (simp only [go_sem, seval]; exact rfl)), (by first | exact rfl | (simp only [go_sem, seval]; done) | (simp only [go_sem, seval]; exact rfl))⟩ ?_
  repeat' (first | (with_reducible exact trivial) | simp (maxSteps := 2000000) (disch := omega) only [go_sem, seval] | ((with_reducible refine isE ?_); refine eA ?_; (repeat' (first | exact le_mq0 rfl | exact le_mq0r rfl | exact le_jk50 (by simp only [List.length_cons, List.length_append, mq_len, List.length_nil]) | refine le_mqr ?_ | refine le_mq ?_ | exact trivial | refine le_int ?_ | refine le_bool ?_ | refine le_str ?_ | refine le_sl ?_ | refine le_own ?_ | refine le_osl ?_ | refine le_nsl ?_ | exact rfl | refine ⟨?_, ?_⟩ | fail))) | ((with_reducible refine isI ?_ ?_); (kernel_rfl)) | fail)
def flt (l : List Nat) : List (List PV) := l.map fun w => [PV.s (.float .f64 w)]
theorem flt_len (l : List Nat) : (flt l).length = l.length := by simp [flt]
theorem flt_at {l : List Nat} {i : Nat} (h : i < l.length) : ∃ w, (flt l).getD i [] = [PV.s (.float .f64 w)] ∧ l.take (i + 1) = l.take i ++ [w] := by
  refine ⟨l[i], ?_, ?_⟩
  · rw [List.getD_eq_getElem?_getD, flt, List.getElem?_map, List.getElem?_eq_getElem h]
    rfl
  · rw [List.take_add_one, List.getElem?_eq_getElem h]
    rfl
theorem u8_ofNat (n : Nat) : u8 (n : Int) = UInt8.ofNat n := by
  apply UInt8.toNat_inj.1
  have := u8_val (n : Int)
  rw [UInt8.toNat_ofNat']
  omega
theorem shrU (a : Int) {k : Nat} (h : k < 8) : binE .shr (.p (.s (.int .u64 a))) (.p (.s (.int .i64 (8 * (k : Nat))))) = some (.int .u64 (a.fdiv (2 ^ (8 * k)))) := by
  have e : (8 * (k : Int)).toNat = 8 * k := by omega
  have hb : ¬ (8 * (k : Int)) < 0 := by omega
  simp only [binE, abin, if_neg hb, e, Option.map_some, IntKind.bits]
  rw [Nat.min_eq_left (by omega)]
theorem oct_at (n : Nat) {k : Nat} (h : k < 8) : u8 ((n : Int).fdiv (2 ^ (8 * k))) = (o8 n).getD k 0 := by
  have e : (n : Int).fdiv (2 ^ (8 * k)) = ((n / 2 ^ (8 * k) : Nat) : Int) := by
    rw [Int.fdiv_eq_ediv_of_nonneg _ (Int.pow_nonneg (by omega))]
    push_cast
    rfl
  rw [e, u8_ofNat]
  match k, h with
  | 0, _ => simp [o8]
  | 1, _ => rfl
  | 2, _ => rfl
  | 3, _ => rfl
  | 4, _ => rfl
  | 5, _ => rfl
  | 6, _ => rfl
  | 7, _ => rfl
theorem o8_step (n : Nat) {k : Nat} (h : k < 8) : (o8 n).take (k + 1) = (o8 n).take k ++ [(o8 n).getD k 0] := by
  rw [List.take_add_one, List.getElem?_eq_getElem (by rw [o8_len]; exact h), List.getD_eq_getElem?_getD, List.getElem?_eq_getElem (by rw [o8_len]; exact h)]
  rfl
def wOct (l : List Nat) : List UInt8 := l.flatMap fun w => o8 (cn w)
theorem wOct_len (l : List Nat) : (wOct l).length = 8 * l.length := by
  induction l with
  | nil => rfl
  | cons w l ih =>
    rw [wOct, List.flatMap_cons, List.length_append, o8_len, List.length_cons]
    have : (List.flatMap (fun w => o8 (cn w)) l).length = 8 * l.length := ih
    omega
theorem wOct_snoc (l : List Nat) (w : Nat) : wOct (l ++ [w]) = wOct l ++ o8 (cn w) := by simp [wOct]
set_option maxHeartbeats 8000000 in
theorem gWLay (l : List Nat) (hl : l.length ≤ 100) : Good Tryd.prog Γ 16 [.sl 1 (flt l)] [] (.ret (.sl 1 (bys (wOct l)))) [] := by
  refine sh_start mixed F16 rfl ⟨(by first | exact rfl | (simp only [go_sem, seval]; done) | (simp only [go_sem, seval]; exact rfl)), (by first | exact rfl | (simp only [go_sem, seval]; done) | (simp only [go_sem, seval]; exact rfl)), (by first | exact rfl | (simp only [go_sem, seval]; done) | (simp only [go_sem, seval]; exact rfl)), (by first | exact rfl | (simp only [go_sem, seval]; done) | (simp only [go_sem, seval]; exact rfl)), (by first | exact rfl | (simp only [go_sem, seval]; done) | (simp only [go_sem, seval]; exact rfl))⟩ ?_
  repeat' (first | (with_reducible exact trivial) | simp (maxSteps := 2000000) (disch := omega) only [flt_len, go_sem, seval] | ((with_reducible refine isI ?_ ?_); (kernel_rfl)) | fail)
  refine sh_loopX mixed (fun i : Nat => ([(3, .own 0 1 (bys (wOct (l.take i)))), (8, .sl 1 (flt l)), (9, .int .i64 l.length), (10, .int .i64 i)], [(0, .tok)])) (fun i => l.length - i) (fun i => i ≤ l.length) 0 (Nat.zero_le _)
    (weakG_nil 3 0 1 rfl rfl wkAu) ?_
  intro i hi
  have lp : (wOct (l.take i)).length ≤ 800 := by rw [wOct_len, List.length_take]; omega
  by_cases hlt : i < l.length
  · obtain ⟨w, hg, hs⟩ := flt_at hlt
    have hcn : cn w = if nanB w = true then 9221120237041090561 else w := rfl
    cases hn : nanB w
    all_goals
      rw [hn] at hcn
      simp only [Bool.false_eq_true, if_false, if_true] at hcn
      repeat' (first | (with_reducible exact trivial) | simp (maxSteps := 2000000) (disch := omega) only [flt_len, Int.toNat_natCast, hg, hn, go_sem, seval] | ((with_reducible refine isS ?_); first | refine cS (gIsNaN w) ?_ | fail) | ((with_reducible refine isI ?_ ?_); (kernel_rfl)) | fail)
      refine sh_loopX mixed (fun k : Nat => ([(3, .own 0 1 (bys (wOct (l.take i) ++ (o8 (cn w)).take k))), (6, .int .u64 (cn w : Nat)), (8, .sl 1 (flt l)), (9, .int .i64 l.length), (10, .int .i64 i), (18, .int .i64 k)], [(0, .tok)])) (fun k => 8 - k) (fun k => k ≤ 8) 0 (by omega)
        (wkAu (h1 := by (repeat' (first | exact le_mq0 rfl | exact le_mq0r rfl | exact le_jk50 (by simp only [List.length_cons, List.length_append, mq_len, List.length_nil]) | refine le_mqr ?_ | refine le_mq ?_ | exact trivial | exact rfl | refine le_int ?_ | refine le_bool ?_ | refine le_str ?_ | refine le_sl ?_ | refine le_own ?_ | refine le_osl ?_ | refine le_nsl ?_ | refine ⟨_, rfl, ?_⟩ | refine ⟨?_, ?_⟩ | (first | (rw [hcn]; rfl) | (rw [hcn]) | simp; done) | exact Option.some_ne_none _ | fail)); first | done | fail) (h2 := by (repeat' (first | exact le_mq0 rfl | exact le_mq0r rfl | exact le_jk50 (by simp only [List.length_cons, List.length_append, mq_len, List.length_nil]) | refine le_mqr ?_ | refine le_mq ?_ | exact trivial | exact rfl | refine le_int ?_ | refine le_bool ?_ | refine le_str ?_ | refine le_sl ?_ | refine le_own ?_ | refine le_osl ?_ | refine le_nsl ?_ | refine ⟨_, rfl, ?_⟩ | refine ⟨?_, ?_⟩ | (first | (rw [hcn]; rfl) | (rw [hcn]) | simp; done) | exact Option.some_ne_none _ | fail)); first | done | fail)) ?_
      intro k hk
      have lk : ((o8 (cn w)).take k).length ≤ 8 := by rw [List.length_take]; omega
      by_cases hk8 : k < 8
      · have hsh := shrU ((cn w : Nat) : Int) hk8
        have ho := oct_at (cn w) hk8
        repeat' (first | (with_reducible exact trivial) | simp (maxSteps := 2000000) (disch := omega) only [hsh, wrapU8, ho, by1_nil, bys_cat, bys_length, go_sem, seval] | ((with_reducible refine isI ?_ ?_); (kernel_rfl)) | fail)
        exact ⟨k + 1, by omega, by omega, (wkAu (h1 := by (repeat' (first | exact le_mq0 rfl | exact le_mq0r rfl | exact le_jk50 (by simp only [List.length_cons, List.length_append, mq_len, List.length_nil]) | refine le_mqr ?_ | refine le_mq ?_ | exact trivial | exact rfl | refine le_int ?_ | refine le_bool ?_ | refine le_str ?_ | refine le_sl ?_ | refine le_own ?_ | refine le_osl ?_ | refine le_nsl ?_ | refine ⟨_, rfl, ?_⟩ | refine ⟨?_, ?_⟩ | ((rw [o8_step _ hk8, ← List.append_assoc]); done) | exact Option.some_ne_none _ | fail)); first | done | fail) (h2 := by (repeat' (first | exact le_mq0 rfl | exact le_mq0r rfl | exact le_jk50 (by simp only [List.length_cons, List.length_append, mq_len, List.length_nil]) | refine le_mqr ?_ | refine le_mq ?_ | exact trivial | exact rfl | refine le_int ?_ | refine le_bool ?_ | refine le_str ?_ | refine le_sl ?_ | refine le_own ?_ | refine le_osl ?_ | refine le_nsl ?_ | refine ⟨_, rfl, ?_⟩ | refine ⟨?_, ?_⟩ | ((rw [o8_step _ hk8, ← List.append_assoc]); done) | exact Option.some_ne_none _ | fail)); first | done | fail))⟩
      · obtain rfl : k = 8 := by omega
        repeat' (first | (with_reducible exact trivial) | simp (maxSteps := 2000000) (disch := omega) only [go_sem, seval] | ((with_reducible refine isI ?_ ?_); (kernel_rfl)) | fail)
        exact ⟨i + 1, by omega, by omega, (wkAu (h1 := by (repeat' (first | exact le_mq0 rfl | exact le_mq0r rfl | exact le_jk50 (by simp only [List.length_cons, List.length_append, mq_len, List.length_nil]) | refine le_mqr ?_ | refine le_mq ?_ | exact trivial | exact rfl | refine le_int ?_ | refine le_bool ?_ | refine le_str ?_ | refine le_sl ?_ | refine le_own ?_ | refine le_osl ?_ | refine le_nsl ?_ | refine ⟨_, rfl, ?_⟩ | refine ⟨?_, ?_⟩ | ((rw [hs, wOct_snoc, show (o8 (cn w)).take 8 = o8 (cn w) from rfl]); done) | exact Option.some_ne_none _ | fail)); first | done | fail) (h2 := by (repeat' (first | exact le_mq0 rfl | exact le_mq0r rfl | exact le_jk50 (by simp only [List.length_cons, List.length_append, mq_len, List.length_nil]) | refine le_mqr ?_ | refine le_mq ?_ | exact trivial | exact rfl | refine le_int ?_ | refine le_bool ?_ | refine le_str ?_ | refine le_sl ?_ | refine le_own ?_ | refine le_osl ?_ | refine le_nsl ?_ | refine ⟨_, rfl, ?_⟩ | refine ⟨?_, ?_⟩ | ((rw [hs, wOct_snoc, show (o8 (cn w)).take 8 = o8 (cn w) from rfl]); done) | exact Option.some_ne_none _ | fail)); first | done | fail))⟩
  · repeat' (first | (with_reducible exact trivial) | simp (maxSteps := 2000000) (disch := omega) only [go_sem, seval] | ((with_reducible refine isE ?_); refine eA ?_; (repeat' (first | exact le_mq0 rfl | exact le_mq0r rfl | exact le_jk50 (by simp only [List.length_cons, List.length_append, mq_len, List.length_nil]) | refine le_mqr ?_ | refine le_mq ?_ | exact trivial | refine le_int ?_ | refine le_bool ?_ | refine le_str ?_ | refine le_sl ?_ | refine le_own ?_ | refine le_osl ?_ | refine le_nsl ?_ | exact rfl | (rw [List.take_of_length_le (by omega)]; done) | refine ⟨?_, ?_⟩ | fail))) | ((with_reducible refine isI ?_ ?_); (kernel_rfl)) | fail)
/-! ### The kinds' parts -/
abbrev pPre (q : List UInt8) : ML := [(0, .box [.own 1 1 (bys q)] false), (1, .tok)]
abbrev pPost (q : List UInt8) : ML := [(0, .box [.own 2 1 (bys q)] false), (1, .dead), (2, .tok)]
theorem gP0 (q : List UInt8) (s : Stp) (h : q.length ≤ 80000) : Good Tryd.prog Γ 61 [.ptr 0 0, sV s] (pPre q) (.ret (.tup [])) (pPost (q ++ [s.k])) := by
  have hp := gPenP (Γ := Γ) q [s.k] (by simp; omega)
  refine sh_start mixed F61 rfl ⟨(by first | exact rfl | (simp only [go_sem, seval]; done) | (simp only [go_sem, seval]; exact rfl)), (by first | exact rfl | (simp only [go_sem, seval]; done) | (simp only [go_sem, seval]; exact rfl)), (by first | exact rfl | (simp only [go_sem, seval]; done) | (simp only [go_sem, seval]; exact rfl)), (by first | exact rfl | (simp only [go_sem, seval]; done) | (simp only [go_sem, seval]; exact rfl)), (by first | exact rfl | (simp only [go_sem, seval]; done) | (simp only [go_sem, seval]; exact rfl))⟩ ?_
  repeat' (first | (with_reducible exact trivial) | simp (maxSteps := 2000000) (disch := omega) only [by1_nil, go_sem, seval] | ((with_reducible refine isS ?_); first | refine cSA (hp) ?_ | fail) | ((with_reducible refine isI ?_ ?_); (kernel_rfl)) | fail)
  exact eB [(2, 6)] trivial
theorem gP1 (q : List UInt8) (s : Stp) (h : q.length ≤ 80000) : Good Tryd.prog Γ 64 [.ptr 0 0, sV s] (pPre q) (.ret (.tup [])) (pPost (q ++ [u8 s.who, u8 s.n])) := by
  have hp := gPenP (Γ := Γ) q [u8 s.who, u8 s.n] (by simp; omega)
  refine sh_start mixed F64 rfl ⟨(by first | exact rfl | (simp only [go_sem, seval]; done) | (simp only [go_sem, seval]; exact rfl)), (by first | exact rfl | (simp only [go_sem, seval]; done) | (simp only [go_sem, seval]; exact rfl)), (by first | exact rfl | (simp only [go_sem, seval]; done) | (simp only [go_sem, seval]; exact rfl)), (by first | exact rfl | (simp only [go_sem, seval]; done) | (simp only [go_sem, seval]; exact rfl)), (by first | exact rfl | (simp only [go_sem, seval]; done) | (simp only [go_sem, seval]; exact rfl))⟩ ?_
  repeat' (first | (with_reducible exact trivial) | simp (maxSteps := 2000000) (disch := omega) only [wrapU8, by1_nil, by1_cons, go_sem, seval] | ((with_reducible refine isS ?_); first | refine cSA (hp) ?_ | fail) | ((with_reducible refine isI ?_ ?_); (kernel_rfl)) | fail)
  exact eB [(2, 6)] trivial
theorem gP3 (q : List UInt8) (s : Stp) (h : q.length ≤ 80000) : Good Tryd.prog Γ 70 [.ptr 0 0, sV s] (pPre q) (.ret (.tup [])) (pPost (q ++ [u8 s.n])) := by
  have hp := gPenP (Γ := Γ) q [u8 s.n] (by simp; omega)
  refine sh_start mixed F70 rfl ⟨(by first | exact rfl | (simp only [go_sem, seval]; done) | (simp only [go_sem, seval]; exact rfl)), (by first | exact rfl | (simp only [go_sem, seval]; done) | (simp only [go_sem, seval]; exact rfl)), (by first | exact rfl | (simp only [go_sem, seval]; done) | (simp only [go_sem, seval]; exact rfl)), (by first | exact rfl | (simp only [go_sem, seval]; done) | (simp only [go_sem, seval]; exact rfl)), (by first | exact rfl | (simp only [go_sem, seval]; done) | (simp only [go_sem, seval]; exact rfl))⟩ ?_
  repeat' (first | (with_reducible exact trivial) | simp (maxSteps := 2000000) (disch := omega) only [wrapU8, by1_nil, go_sem, seval] | ((with_reducible refine isS ?_); first | refine cSA (hp) ?_ | fail) | ((with_reducible refine isI ?_ ?_); (kernel_rfl)) | fail)
  exact eB [(2, 6)] trivial
def x2 (s : Stp) : UInt8 := u8 (or64 (or64 s.who (if s.him = true then 2 else 0)) (if s.on = true then 4 else 0))
theorem gP2 (q : List UInt8) (s : Stp) (h : q.length ≤ 80000) : Good Tryd.prog Γ 66 [.ptr 0 0, sV s] (pPre q) (.ret (.tup [])) (pPost (q ++ [x2 s, u8 s.n])) := by
  have hp := gPenP (Γ := Γ) q [x2 s, u8 s.n] (by simp; omega)
  rw [x2] at hp ⊢
  refine sh_start mixed F66 rfl ⟨(by first | exact rfl | (simp only [go_sem, seval]; done) | (simp only [go_sem, seval]; exact rfl)), (by first | exact rfl | (simp only [go_sem, seval]; done) | (simp only [go_sem, seval]; exact rfl)), (by first | exact rfl | (simp only [go_sem, seval]; done) | (simp only [go_sem, seval]; exact rfl)), (by first | exact rfl | (simp only [go_sem, seval]; done) | (simp only [go_sem, seval]; exact rfl)), (by first | exact rfl | (simp only [go_sem, seval]; done) | (simp only [go_sem, seval]; exact rfl))⟩ ?_
  repeat' (first | (with_reducible exact trivial) | simp (maxSteps := 2000000) (disch := omega) only [wrapU8, by1_nil, by1_cons, go_sem, seval] | ((with_reducible refine isS ?_); first | refine cSA (hp) ?_ | refine cS (gNum1 s.him) ?_ | refine cS (gNum2 s.on) ?_ | fail) | ((with_reducible refine isT ?_); first | refine cTA (hp) ?_ | refine cT (gNum1 s.him) ?_ | refine cT (gNum2 s.on) ?_ | fail) | ((with_reducible refine isI ?_ ?_); (kernel_rfl)) | fail)
  exact eB [(2, 6)] trivial
theorem gP6 (q : List UInt8) (s : Stp) (h : q.length ≤ 40000) (hb : s.b.length ≤ 40000) : Good Tryd.prog Γ 82 [.ptr 0 0, sV s] (pPre q) (.ret (.tup [])) (pPost (q ++ u8 s.b.length :: s.b)) := by
  have hp := gPenL (Γ := Γ) q s.b (by omega)
  refine sh_start mixed F82 rfl ⟨(by first | exact rfl | (simp only [go_sem, seval]; done) | (simp only [go_sem, seval]; exact rfl)), (by first | exact rfl | (simp only [go_sem, seval]; done) | (simp only [go_sem, seval]; exact rfl)), (by first | exact rfl | (simp only [go_sem, seval]; done) | (simp only [go_sem, seval]; exact rfl)), (by first | exact rfl | (simp only [go_sem, seval]; done) | (simp only [go_sem, seval]; exact rfl)), (by first | exact rfl | (simp only [go_sem, seval]; done) | (simp only [go_sem, seval]; exact rfl))⟩ ?_
  repeat' (first | (with_reducible exact trivial) | simp (maxSteps := 2000000) (disch := omega) only [go_sem, seval] | ((with_reducible refine isS ?_); first | refine cSA (hp) ?_ | fail) | ((with_reducible refine isI ?_ ?_); (kernel_rfl)) | fail)
  exact eB [(2, 5)] trivial
theorem gP4 (q : List UInt8) (s : Stp) (h : q.length ≤ 40000) : Good Tryd.prog Γ 72 [.ptr 0 0, sV s] (pPre q) (.ret (.tup [])) (pPost (q ++ if s.on = true then 1 :: u8 (trm s.m).length :: trm s.m else [0])) := by
  have hm := gPut (Γ := Γ) s.m
  have hl := trm_len s.m
  cases ho : s.on
  · have hp := gPenP (Γ := Γ) q [0] (by simp; omega)
    refine sh_start mixed F72 rfl ⟨(by first | exact rfl | (simp only [go_sem, seval]; done) | (simp only [go_sem, seval]; exact rfl)), (by first | exact rfl | (simp only [go_sem, seval]; done) | (simp only [go_sem, seval]; exact rfl)), (by first | exact rfl | (simp only [go_sem, seval]; done) | (simp only [go_sem, seval]; exact rfl)), (by first | exact rfl | (simp only [go_sem, seval]; done) | (simp only [go_sem, seval]; exact rfl)), (by first | exact rfl | (simp only [go_sem, seval]; done) | (simp only [go_sem, seval]; exact rfl))⟩ ?_
    repeat' (first | (with_reducible exact trivial) | simp (maxSteps := 2000000) (disch := omega) only [ho, wrapU8, by1_nil, go_sem, seval] | ((with_reducible refine isS ?_); first | refine cSA (hp) ?_ | refine cS (gNum0 false) ?_ | fail) | ((with_reducible refine isI ?_ ?_); (kernel_rfl)) | fail)
    exact eB [(2, 6)] trivial
  · have hp := gPenP (Γ := Γ) q [1] (by simp; omega)
    have hp2 := gPenL (Γ := Γ) (q ++ [1]) (trm s.m) (by simp; omega)
    rw [List.append_assoc, List.cons_append, List.nil_append] at hp2
    refine sh_start mixed F72 rfl ⟨(by first | exact rfl | (simp only [go_sem, seval]; done) | (simp only [go_sem, seval]; exact rfl)), (by first | exact rfl | (simp only [go_sem, seval]; done) | (simp only [go_sem, seval]; exact rfl)), (by first | exact rfl | (simp only [go_sem, seval]; done) | (simp only [go_sem, seval]; exact rfl)), (by first | exact rfl | (simp only [go_sem, seval]; done) | (simp only [go_sem, seval]; exact rfl)), (by first | exact rfl | (simp only [go_sem, seval]; done) | (simp only [go_sem, seval]; exact rfl))⟩ ?_
    repeat' (first | (with_reducible exact trivial) | simp (maxSteps := 2000000) (disch := omega) only [ho, wrapU8, by1_nil, go_sem, seval] | ((with_reducible refine isS ?_); first | refine cSA (hp) ?_ | refine cSA (hp2) ?_ | refine cS (gNum0 true) ?_ | refine cS (hm) ?_ | fail) | ((with_reducible refine isI ?_ ?_); (kernel_rfl)) | fail)
    exact eB [(2, 9)] trivial
theorem gP5 (q : List UInt8) (s : Stp) (h : q.length ≤ 40000) (ht : mayT s.t) : Good Tryd.prog Γ 78 [.ptr 0 0, sV s] (pPre q) (.ret (.tup [])) (pPost (q ++ u8 s.who :: putT [s.t])) := by
  have h1 := gPutOk (Γ := Γ) [s.t] (by simpa using ht) (by simp)
  have hp := gPenP (Γ := Γ) q [u8 s.who] (by simp; omega)
  have hp2 := gPenP (Γ := Γ) (q ++ [u8 s.who]) (putT [s.t]) (by simp [putT]; omega)
  rw [List.append_assoc, List.cons_append, List.nil_append] at hp2
  refine sh_start mixed F78 rfl ⟨(by first | exact rfl | (simp only [go_sem, seval]; done) | (simp only [go_sem, seval]; exact rfl)), (by first | exact rfl | (simp only [go_sem, seval]; done) | (simp only [go_sem, seval]; exact rfl)), (by first | exact rfl | (simp only [go_sem, seval]; done) | (simp only [go_sem, seval]; exact rfl)), (by first | exact rfl | (simp only [go_sem, seval]; done) | (simp only [go_sem, seval]; exact rfl)), (by first | exact rfl | (simp only [go_sem, seval]; done) | (simp only [go_sem, seval]; exact rfl))⟩ ?_
  repeat' (first | (with_reducible exact trivial) | simp (maxSteps := 2000000) (disch := omega) only [wrapU8, by1_nil, go_sem, seval] | ((with_reducible refine isS ?_); first | refine cSA (hp) ?_ | refine cSA (hp2) ?_ | refine cS (h1) ?_ | refine cS (gMustOk) ?_ | fail) | ((with_reducible refine isI ?_ ?_); (kernel_rfl)) | fail)
  exact eB [(2, 10)] trivial
theorem gP5No (q : List UInt8) (s : Stp) (ht : ¬ mayT s.t) : Good Tryd.prog Γ 78 [.ptr 0 0, sV s] (pPre q) (.pan vBroken) [(0, .dead), (1, .dead)] := by
  have h1 := gPutNo (Γ := Γ) [s.t] (by simpa using ht) (by simp)
  refine sh_start mixed F78 rfl ⟨(by first | exact rfl | (simp only [go_sem, seval]; done) | (simp only [go_sem, seval]; exact rfl)), (by first | exact rfl | (simp only [go_sem, seval]; done) | (simp only [go_sem, seval]; exact rfl)), (by first | exact rfl | (simp only [go_sem, seval]; done) | (simp only [go_sem, seval]; exact rfl)), (by first | exact rfl | (simp only [go_sem, seval]; done) | (simp only [go_sem, seval]; exact rfl)), (by first | exact rfl | (simp only [go_sem, seval]; done) | (simp only [go_sem, seval]; exact rfl))⟩ ?_
  repeat' (first | (with_reducible exact trivial) | simp (maxSteps := 2000000) (disch := omega) only [go_sem, seval] | ((with_reducible refine isS ?_); first | refine cS (h1) ?_ | refine cPn (gMustNo) ?_ | fail) | ((with_reducible refine isX ?_); exact f_panE []) | ((with_reducible refine isI ?_ ?_); (kernel_rfl)) | fail)
end Go.Proofs.YtlijecknkpcgfaaDoor
