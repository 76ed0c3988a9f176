/- Own texts joined: Ta, Tb, Tc, Td, Te. Own work. -/
import Derived.Test.YtlijecknkpcgfaaDoorCode
import Derived.Test.YtlijecknkpcgfaaDoorScb
import Derived.Test.YtlijecknkpcgfaaDoorZ3
/- Layer 7: what its functions come to. Own work. -/
namespace Go.Proofs.YtlijecknkpcgfaaDoor
open Go Go.Shade
variable {Γ : Globs}
theorem mixed : Tryd.prog.follows .mixedOrders = true := by kernel_rfl

structure T3 where
  f : Int
  level : Int
  ack : Bool
  inn : Bool
  out : Bool
  v : UInt8
theorem t3_eq {t u : T3} : t = u ↔ t.f = u.f ∧ t.level = u.level ∧ t.ack = u.ack ∧ t.inn = u.inn ∧ t.out = u.out ∧ t.v = u.v := by
  constructor
  · rintro rfl; exact ⟨rfl, rfl, rfl, rfl, rfl, rfl⟩
  · cases t; cases u; rintro ⟨h1, h2, h3, h4, h5, h6⟩; simp_all
instance : DecidableEq T3 := fun t u => decidable_of_iff _ t3_eq.symm
def T3.zero : T3 := ⟨0, 0, false, false, false, 0⟩
def tP (t : T3) : List PV := [.s (.int .i64 t.f), .s (.int .i64 t.level), .s (.bool t.ack), .s (.bool t.inn), .s (.bool t.out), .s (.int .u8 t.v.toNat)]
def tA (t : T3) : AV := .agg [.int .i64 t.f, .int .i64 t.level, .bool t.ack, .bool t.inn, .bool t.out, .int .u8 t.v.toNat]
theorem tP_getD {l : List T3} {i : Nat} (h : i < l.length) : (l.map tP).getD i [] = tP (l.getD i .zero) := by
  rw [List.getD_eq_getElem?_getD, List.getElem?_map, List.getD_eq_getElem?_getD, List.getElem?_eq_getElem h]
  rfl
theorem eq_tt (t u : T3) : eqAs [0, 0, 1, 1, 1, 0] [.int .i64 t.f, .int .i64 t.level, .bool t.ack, .bool t.inn, .bool t.out, .int .u8 t.v.toNat] [.int .i64 u.f, .int .i64 u.level, .bool u.ack, .bool u.inn, .bool u.out, .int .u8 u.v.toNat] = some (decide (t = u)) := by
  simp only [eqAs_int, eqAs_bool, eqAs_nil, Option.map_some, Option.some.injEq, t3_eq, u8n_eq]
  simp [Bool.decide_and]

def mayT (t : T3) : Prop := 0 ≤ t.f ∧ t.f ≤ 255 ∧ 0 ≤ t.level ∧ t.level ≤ 3
instance (t : T3) : Decidable (mayT t) := inferInstanceAs (Decidable (_ ∧ _))
def mk (t : T3) : UInt8 := ((u8 t.level ||| u8 (if t.ack = true then 128 else 0)) ||| u8 (if t.inn = true then 64 else 0)) ||| u8 (if t.out = true then 32 else 0)
def putT (l : List T3) : List UInt8 := l.flatMap fun t => [u8 t.f, mk t, t.v]
def getT : List UInt8 → Option (List T3)
  | [] => some []
  | a :: m :: v :: r => if m &&& 28 = 0 then (getT r).map (⟨a.toNat, ((m &&& 3).toNat : Int), decide (¬ (m &&& 128 = 0)), decide (¬ (m &&& 64 = 0)), decide (¬ (m &&& 32 = 0)), v⟩ :: ·) else none
  | _ => none

theorem gCheck (t : T3) : Good Tryd.prog Γ 89 [tA t] [] (.ret (.int .i64 (if mayT t then 0 else 1))) [] := by
  refine sh_start mixed F89 rfl ⟨(by first | exact rfl | (simp only [go_sem, seval]; done) | (simp only [go_sem, seval]; exact rfl)), (by first | exact rfl | (simp only [go_sem, seval]; done) | (simp only [go_sem, seval]; exact rfl)), (by first | exact rfl | (simp only [go_sem, seval]; done) | (simp only [go_sem, seval]; exact rfl)), (by first | exact rfl | (simp only [go_sem, seval]; done) | (simp only [go_sem, seval]; exact rfl)), (by first | exact rfl | (simp only [go_sem, seval]; done) | (simp only [go_sem, seval]; exact rfl))⟩ ?_
  repeat' (first | (with_reducible exact trivial) | simp (maxSteps := 2000000) (disch := omega) only [tA, go_sem, seval] | (first | ((with_reducible refine isC ?_); first | refine fork_P (fun h => ?_) (fun h => ?_) | refine fork_N (fun h => ?_) (fun h => ?_) | fail) | ((with_reducible refine isG ?_); first | refine fork_gP (fun h => ?_) (fun h => ?_) | refine fork_gN (fun h => ?_) (fun h => ?_) | refine fork_gnP (fun h => ?_) (fun h => ?_) | refine fork_gnN (fun h => ?_) (fun h => ?_) | fail) | fail) | ((with_reducible refine isE ?_); refine eA ?_; (repeat' (first | exact trivial | refine le_int ?_ | refine le_bool ?_ | refine le_str ?_ | refine le_sl ?_ | refine le_own ?_ | refine le_osl ?_ | refine le_nsl ?_ | exact rfl | (first | (rw [if_pos (show mayT t from ⟨by omega, by omega, by omega, by omega⟩)]) | (rw [if_neg (show ¬ mayT t from fun h => by have := h.1; have := h.2.1; have := h.2.2.1; have := h.2.2.2; omega)]); done) | refine ⟨?_, ?_⟩ | fail))) | ((with_reducible refine isI ?_ ?_); (kernel_rfl)) | fail)
theorem gMay (t : T3) : Good Tryd.prog Γ 35 [tA t] [] (.ret (.bool (decide (mayT t)))) [] := by
  refine sh_start mixed F35 rfl ⟨(by first | exact rfl | (simp only [go_sem, seval]; done) | (simp only [go_sem, seval]; exact rfl)), (by first | exact rfl | (simp only [go_sem, seval]; done) | (simp only [go_sem, seval]; exact rfl)), (by first | exact rfl | (simp only [go_sem, seval]; done) | (simp only [go_sem, seval]; exact rfl)), (by first | exact rfl | (simp only [go_sem, seval]; done) | (simp only [go_sem, seval]; exact rfl)), (by first | exact rfl | (simp only [go_sem, seval]; done) | (simp only [go_sem, seval]; exact rfl))⟩ ?_
  repeat' (first | (with_reducible exact trivial) | simp (maxSteps := 2000000) (disch := omega) only [tA, go_sem, seval] | (first | ((with_reducible refine isC ?_); first | refine fork_P (fun h => ?_) (fun h => ?_) | refine fork_N (fun h => ?_) (fun h => ?_) | fail) | ((with_reducible refine isG ?_); first | refine fork_gP (fun h => ?_) (fun h => ?_) | refine fork_gN (fun h => ?_) (fun h => ?_) | refine fork_gnP (fun h => ?_) (fun h => ?_) | refine fork_gnN (fun h => ?_) (fun h => ?_) | fail) | fail) | ((with_reducible refine isE ?_); refine eA ?_; (repeat' (first | exact trivial | refine le_int ?_ | refine le_bool ?_ | refine le_str ?_ | refine le_sl ?_ | refine le_own ?_ | refine le_osl ?_ | refine le_nsl ?_ | exact rfl | (first | exact (decide_eq_decide.2 ⟨fun h => ⟨by omega, by omega, by omega, h⟩, fun h => h.2.2.2⟩) | exact (decide_eq_false (fun h => by have := h.1; have := h.2.1; have := h.2.2.1; have := h.2.2.2; omega)).symm; done) | refine ⟨?_, ?_⟩ | fail))) | ((with_reducible refine isI ?_ ?_); (kernel_rfl)) | fail)
theorem gMark (is : Bool) (b : Int) : Good Tryd.prog Γ 90 [.bool is, .int .u8 b] [] (.ret (.int .u8 (if is = true then b else 0))) [] := by
  refine sh_start mixed F90 rfl ⟨(by first | exact rfl | (simp only [go_sem, seval]; done) | (simp only [go_sem, seval]; exact rfl)), (by first | exact rfl | (simp only [go_sem, seval]; done) | (simp only [go_sem, seval]; exact rfl)), (by first | exact rfl | (simp only [go_sem, seval]; done) | (simp only [go_sem, seval]; exact rfl)), (by first | exact rfl | (simp only [go_sem, seval]; done) | (simp only [go_sem, seval]; exact rfl)), (by first | exact rfl | (simp only [go_sem, seval]; done) | (simp only [go_sem, seval]; exact rfl))⟩ ?_
  cases is <;> repeat' (first | (with_reducible exact trivial) | simp (maxSteps := 2000000) (disch := omega) only [go_sem, seval] | (first | ((with_reducible refine isC ?_); first | refine fork_P (fun h => ?_) (fun h => ?_) | refine fork_N (fun h => ?_) (fun h => ?_) | fail) | ((with_reducible refine isG ?_); first | refine fork_gP (fun h => ?_) (fun h => ?_) | refine fork_gN (fun h => ?_) (fun h => ?_) | refine fork_gnP (fun h => ?_) (fun h => ?_) | refine fork_gnN (fun h => ?_) (fun h => ?_) | fail) | fail) | ((with_reducible refine isE ?_); refine eA ?_; (repeat' (first | exact trivial | refine le_int ?_ | refine le_bool ?_ | refine le_str ?_ | refine le_sl ?_ | refine le_own ?_ | refine le_osl ?_ | refine le_nsl ?_ | exact rfl | (rfl; done) | refine ⟨?_, ?_⟩ | fail))) | ((with_reducible refine isI ?_ ?_); (kernel_rfl)) | fail)
end Go.Proofs.YtlijecknkpcgfaaDoor

/- Layer 7: put. Own work. -/
namespace Go.Proofs.YtlijecknkpcgfaaDoor
open Go Go.Shade
variable {Γ : Globs}
theorem putT_len : ∀ l : List T3, (putT l).length = 3 * l.length
  | [] => rfl
  | t :: l => by
    have := putT_len l
    simp only [putT, List.flatMap_cons, List.length_append, List.length_cons, List.length_nil] at this ⊢
    omega
theorem elem_at {l : List T3} {i : Nat} (h : i < l.length) : ∃ t, t ∈ l ∧ l.take (i + 1) = l.take i ++ [t] ∧ (l.map tP).getD i [] = tP t := by
  refine ⟨l[i], List.getElem_mem _, List.take_succ_eq_append_getElem h, ?_⟩
  rw [tP_getD h, List.getD_eq_getElem?_getD, List.getElem?_eq_getElem h]
  rfl
theorem putT_snoc (l : List T3) (t : T3) : putT (l ++ [t]) = putT l ++ [u8 t.f, mk t, t.v] := by
  rw [putT, List.flatMap_append]
  rfl
set_option maxHeartbeats 4000000 in
theorem gPutOk (l : List T3) (h : ∀ t ∈ l, mayT t) (hl : l.length ≤ 100000) : Good Tryd.prog Γ 79 [.sl 6 (l.map tP)] [] (.ret (.tup [.sl 1 (bys (putT l)), .int .i64 0])) [] := by
  refine sh_start mixed F79 rfl ⟨(by first | exact rfl | (simp only [go_sem, seval]; done) | (simp only [go_sem, seval]; exact rfl)), (by first | exact rfl | (simp only [go_sem, seval]; done) | (simp only [go_sem, seval]; exact rfl)), (by first | exact rfl | (simp only [go_sem, seval]; done) | (simp only [go_sem, seval]; exact rfl)), (by first | exact rfl | (simp only [go_sem, seval]; done) | (simp only [go_sem, seval]; exact rfl)), (by first | exact rfl | (simp only [go_sem, seval]; done) | (simp only [go_sem, seval]; exact rfl))⟩ ?_
  repeat' (first | (with_reducible exact trivial) | simp (maxSteps := 2000000) (disch := omega) only [go_sem, seval] | ((with_reducible refine isI ?_ ?_); (kernel_rfl)) | fail)
  refine sh_loopX mixed (fun i : Nat => ([(4, .own 0 1 (bys (putT (l.take i)))), (8, .sl 6 (l.map tP)), (9, .int .i64 l.length), (10, .int .i64 i)], [(0, .tok)])) (fun i => l.length - i) (fun i => i ≤ l.length) 0 (by omega)
    (weakG_nil 4 0 1 rfl rfl (wkAu (h1 := by (repeat' (first | exact trivial | exact rfl | refine le_int ?_ | refine le_bool ?_ | refine le_str ?_ | refine le_sl ?_ | refine le_own ?_ | refine le_osl ?_ | refine le_nsl ?_ | refine ⟨_, rfl, ?_⟩ | refine ⟨?_, ?_⟩ | (simp only [List.length_map]; done) | fail)); first | done | fail) (h2 := by (repeat' (first | exact trivial | exact rfl | refine le_int ?_ | refine le_bool ?_ | refine le_str ?_ | refine le_sl ?_ | refine le_own ?_ | refine le_osl ?_ | refine le_nsl ?_ | refine ⟨_, rfl, ?_⟩ | refine ⟨?_, ?_⟩ | (simp only [List.length_map]; done) | fail)); first | done | fail))) ?_
  intro i hi
  have lp : (putT (l.take i)).length ≤ 300000 := by rw [putT_len, List.length_take]; omega
  by_cases hlt : i < l.length
  · obtain ⟨t, ht, hs, hg⟩ := elem_at hlt
    have ht := h t ht
    repeat' (first | (with_reducible exact trivial) | simp (maxSteps := 2000000) (disch := omega) only [List.length_map, hg, tP, ht, wrapU8, bin_or8, u8_to, by2_nil, by2_cons, set_by1, bys_length, bys_cat, Int.toNat_natCast, go_sem, seval] | ((with_reducible refine isS ?_); first | refine cS (gCheck t) ?_ | refine cS (gMark _ _) ?_ | fail) | ((with_reducible refine isT ?_); first | refine cT (gCheck t) ?_ | refine cT (gMark _ _) ?_ | fail) | ((with_reducible refine isI ?_ ?_); (kernel_rfl)) | fail)
    exact ⟨i + 1, by omega, by omega, (wkAu (h1 := by (repeat' (first | exact trivial | exact rfl | refine le_int ?_ | refine le_bool ?_ | refine le_str ?_ | refine le_sl ?_ | refine le_own ?_ | refine le_osl ?_ | refine le_nsl ?_ | refine ⟨_, rfl, ?_⟩ | refine ⟨?_, ?_⟩ | ((rw [hs, putT_snoc, mk]); done) | fail)); first | done | fail) (h2 := by (repeat' (first | exact trivial | exact rfl | refine le_int ?_ | refine le_bool ?_ | refine le_str ?_ | refine le_sl ?_ | refine le_own ?_ | refine le_osl ?_ | refine le_nsl ?_ | refine ⟨_, rfl, ?_⟩ | refine ⟨?_, ?_⟩ | ((rw [hs, putT_snoc, mk]); done) | fail)); first | done | fail))⟩
  · repeat' (first | (with_reducible exact trivial) | simp (maxSteps := 2000000) (disch := omega) only [go_sem, seval] | ((with_reducible refine isE ?_); refine eA ?_; (repeat' (first | exact trivial | refine le_int ?_ | refine le_bool ?_ | refine le_str ?_ | refine le_sl ?_ | refine le_own ?_ | refine le_osl ?_ | refine le_nsl ?_ | exact rfl | (rw [List.take_of_length_le (by omega)]; done) | refine ⟨?_, ?_⟩ | fail))) | ((with_reducible refine isI ?_ ?_); (kernel_rfl)) | fail)
set_option maxHeartbeats 4000000 in
theorem gPutNo (l : List T3) (h : ¬ ∀ t ∈ l, mayT t) (hl : l.length ≤ 100000) : Good Tryd.prog Γ 79 [.sl 6 (l.map tP)] [] (.ret (.tup [.sl 1 [], .int .i64 1])) [] := by
  refine sh_start mixed F79 rfl ⟨(by first | exact rfl | (simp only [go_sem, seval]; done) | (simp only [go_sem, seval]; exact rfl)), (by first | exact rfl | (simp only [go_sem, seval]; done) | (simp only [go_sem, seval]; exact rfl)), (by first | exact rfl | (simp only [go_sem, seval]; done) | (simp only [go_sem, seval]; exact rfl)), (by first | exact rfl | (simp only [go_sem, seval]; done) | (simp only [go_sem, seval]; exact rfl)), (by first | exact rfl | (simp only [go_sem, seval]; done) | (simp only [go_sem, seval]; exact rfl))⟩ ?_
  repeat' (first | (with_reducible exact trivial) | simp (maxSteps := 2000000) (disch := omega) only [go_sem, seval] | ((with_reducible refine isI ?_ ?_); (kernel_rfl)) | fail)
  refine sh_loopX mixed (fun i : Nat => ([(4, .own 0 1 (bys (putT (l.take i)))), (8, .sl 6 (l.map tP)), (9, .int .i64 l.length), (10, .int .i64 i)], [(0, .tok)])) (fun i => l.length - i) (fun i => i ≤ l.length ∧ ∀ t ∈ l.take i, mayT t) 0 (by simp)
    (weakG_nil 4 0 1 rfl rfl (wkAu (h1 := by (repeat' (first | exact trivial | exact rfl | refine le_int ?_ | refine le_bool ?_ | refine le_str ?_ | refine le_sl ?_ | refine le_own ?_ | refine le_osl ?_ | refine le_nsl ?_ | refine ⟨_, rfl, ?_⟩ | refine ⟨?_, ?_⟩ | (simp only [List.length_map]; done) | fail)); first | done | fail) (h2 := by (repeat' (first | exact trivial | exact rfl | refine le_int ?_ | refine le_bool ?_ | refine le_str ?_ | refine le_sl ?_ | refine le_own ?_ | refine le_osl ?_ | refine le_nsl ?_ | refine ⟨_, rfl, ?_⟩ | refine ⟨?_, ?_⟩ | (simp only [List.length_map]; done) | fail)); first | done | fail))) ?_
  rintro i ⟨hi, hm⟩
  have lp : (putT (l.take i)).length ≤ 300000 := by rw [putT_len, List.length_take]; omega
  by_cases hlt : i < l.length
  · obtain ⟨t, _, hs, hg⟩ := elem_at hlt
    by_cases ht : mayT t
    · repeat' (first | (with_reducible exact trivial) | simp (maxSteps := 2000000) (disch := omega) only [List.length_map, hg, tP, ht, wrapU8, bin_or8, u8_to, by2_nil, by2_cons, set_by1, bys_length, bys_cat, Int.toNat_natCast, go_sem, seval] | ((with_reducible refine isS ?_); first | refine cS (gCheck t) ?_ | refine cS (gMark _ _) ?_ | fail) | ((with_reducible refine isT ?_); first | refine cT (gCheck t) ?_ | refine cT (gMark _ _) ?_ | fail) | ((with_reducible refine isI ?_ ?_); (kernel_rfl)) | fail)
      exact ⟨i + 1, by omega, ⟨by omega, by rw [hs]; simp only [List.mem_append, List.mem_singleton]; exact fun x hx => hx.elim (hm x) (fun e => e ▸ ht)⟩, (wkAu (h1 := by (repeat' (first | exact trivial | exact rfl | refine le_int ?_ | refine le_bool ?_ | refine le_str ?_ | refine le_sl ?_ | refine le_own ?_ | refine le_osl ?_ | refine le_nsl ?_ | refine ⟨_, rfl, ?_⟩ | refine ⟨?_, ?_⟩ | ((rw [hs, putT_snoc, mk]); done) | fail)); first | done | fail) (h2 := by (repeat' (first | exact trivial | exact rfl | refine le_int ?_ | refine le_bool ?_ | refine le_str ?_ | refine le_sl ?_ | refine le_own ?_ | refine le_osl ?_ | refine le_nsl ?_ | refine ⟨_, rfl, ?_⟩ | refine ⟨?_, ?_⟩ | ((rw [hs, putT_snoc, mk]); done) | fail)); first | done | fail))⟩
    · repeat' (first | (with_reducible exact trivial) | simp (maxSteps := 2000000) (disch := omega) only [List.length_map, Int.toNat_natCast, hg, tP, ht, go_sem, seval] | ((with_reducible refine isS ?_); first | refine cS (gCheck t) ?_ | refine cS (gMark _ _) ?_ | fail) | ((with_reducible refine isT ?_); first | refine cT (gCheck t) ?_ | refine cT (gMark _ _) ?_ | fail) | ((with_reducible refine isE ?_); refine eA ?_; (repeat' (first | exact trivial | refine le_int ?_ | refine le_bool ?_ | refine le_str ?_ | refine le_sl ?_ | refine le_own ?_ | refine le_osl ?_ | refine le_nsl ?_ | exact rfl | refine ⟨?_, ?_⟩ | fail))) | ((with_reducible refine isI ?_ ?_); (kernel_rfl)) | fail)
  · exact absurd (by rw [List.take_of_length_le (by omega)] at hm; exact hm) h
end Go.Proofs.YtlijecknkpcgfaaDoor

/- Layer 7: get, and whether two rows are the same. Own work. -/
namespace Go.Proofs.YtlijecknkpcgfaaDoor
open Go Go.Shade
variable {Γ : Globs}
theorem getT_mod : ∀ {b : List UInt8} {l : List T3}, getT b = some l → b.length = 3 * l.length
  | [], l, h => by simp [getT] at h; subst h; rfl
  | [a], l, h => by simp [getT] at h
  | [a, m], l, h => by simp [getT] at h
  | a :: m :: v :: r, l, h => by
    rw [getT] at h
    split at h
    · obtain ⟨l', h1, rfl⟩ := Option.map_eq_some_iff.1 h
      have := getT_mod h1
      simp only [List.length_cons] at this ⊢
      omega
    · cases h
def trip (a m v : UInt8) : T3 := ⟨a.toNat, ((m &&& 3).toNat : Int), decide (¬ (m &&& 128 = 0)), decide (¬ (m &&& 64 = 0)), decide (¬ (m &&& 32 = 0)), v⟩
theorem getT_cons (a m v : UInt8) (r : List UInt8) : getT (a :: m :: v :: r) = if m &&& 28 = 0 then (getT r).map (trip a m v :: ·) else none := rfl
theorem three_of {r : List UInt8} (h : r.length % 3 = 0) (h0 : 0 < r.length) : ∃ a m v r', r = a :: m :: v :: r' := by
  match r, h, h0 with
  | a :: m :: v :: r', _, _ => exact ⟨a, m, v, r', rfl⟩
  | [_], h, _ => simp at h
  | [_, _], h, _ => simp at h
theorem o28 : u8 28 = 28 := by decide
theorem o3 : u8 3 = 3 := by decide
theorem o128 : u8 128 = 128 := by decide
theorem o64 : u8 64 = 64 := by decide
theorem o32 : u8 32 = 32 := by decide
set_option maxHeartbeats 4000000 in
theorem gGetOk (b : List UInt8) (l : List T3) (h : getT b = some l) (hb : b.length ≤ 100000) : Good Tryd.prog Γ 81 [.sl 1 (bys b)] [] (.ret (.tup [.sl 6 (l.map tP), .int .i64 0])) [] := by
  have hm := getT_mod h
  have hz : ((b.length : Int) % 3) = 0 := by omega
  refine sh_start mixed F81 rfl ⟨(by first | exact rfl | (simp only [go_sem, seval]; done) | (simp only [go_sem, seval]; exact rfl)), (by first | exact rfl | (simp only [go_sem, seval]; done) | (simp only [go_sem, seval]; exact rfl)), (by first | exact rfl | (simp only [go_sem, seval]; done) | (simp only [go_sem, seval]; exact rfl)), (by first | exact rfl | (simp only [go_sem, seval]; done) | (simp only [go_sem, seval]; exact rfl)), (by first | exact rfl | (simp only [go_sem, seval]; done) | (simp only [go_sem, seval]; exact rfl))⟩ ?_
  repeat' (first | (with_reducible exact trivial) | simp (maxSteps := 2000000) (disch := omega) only [bys_length, bin_rem, tmod_pos, hz, go_sem, seval] | ((with_reducible refine isI ?_ ?_); (kernel_rfl)) | fail)
  refine sh_loopX mixed (fun x : List UInt8 × List T3 => ([(0, .sl 1 (bys x.1)), (4, .own 0 6 (x.2.map tP))], [(0, .tok)])) (fun x => x.1.length) (fun x => getT b = (getT x.1).map (x.2 ++ ·) ∧ x.1.length % 3 = 0 ∧ x.2.length ≤ 100000 ∧ x.1.length + x.2.length ≤ b.length) (b, []) (by simp; omega)
    (weakG_nil 4 0 6 rfl rfl wkAu) ?_
  rintro ⟨r, acc⟩ ⟨hg, hr, ha, hs⟩
  by_cases h0 : 0 < r.length
  · obtain ⟨a, m, v, r', rfl⟩ := three_of hr h0
    rw [getT_cons] at hg
    simp only [List.length_cons] at hr hs
    by_cases hmm : m &&& 28 = 0
    · rw [if_pos hmm] at hg
      repeat' (first | (with_reducible exact trivial) | simp (maxSteps := 2000000) (disch := omega) only [List.length_map, List.length_cons, bys_getD, bys_take, bys_drop, List.take_length, List.take_succ_cons, List.drop_succ_cons, wrap64_u, bin_and8, u8_to, bys_length, bys_get0, bys_gets, and0, bys_get0, bys_gets, o28, o3, o128, o64, o32, hmm, go_sem, seval] | ((with_reducible refine isI ?_ ?_); (kernel_rfl)) | fail)
      exact ⟨(r', acc ++ [trip a m v]), by simp only [List.length_cons]; omega, ⟨by rw [hg, Option.map_map]; congr 1; funext z; simp, by simp only; omega, by simp; omega, by simp; omega⟩, (wkAu (h1 := by (repeat' (first | exact trivial | exact rfl | refine le_int ?_ | refine le_bool ?_ | refine le_str ?_ | refine le_sl ?_ | refine le_own ?_ | refine le_osl ?_ | refine le_nsl ?_ | refine ⟨_, rfl, ?_⟩ | refine ⟨?_, ?_⟩ | ((simp [tP, trip]); done) | fail)); first | done | fail) (h2 := by (repeat' (first | exact trivial | exact rfl | refine le_int ?_ | refine le_bool ?_ | refine le_str ?_ | refine le_sl ?_ | refine le_own ?_ | refine le_osl ?_ | refine le_nsl ?_ | refine ⟨_, rfl, ?_⟩ | refine ⟨?_, ?_⟩ | ((simp [tP, trip]); done) | fail)); first | done | fail))⟩
    · rw [if_neg hmm] at hg
      rw [hg] at h
      cases h
  · have e : r = [] := List.eq_nil_of_length_eq_zero (by omega)
    subst e
    have e : acc = l := by rw [h] at hg; simpa [getT] using hg.symm
    subst e
    repeat' (first | (with_reducible exact trivial) | simp (maxSteps := 2000000) (disch := omega) only [List.length_nil, go_sem, seval] | ((with_reducible refine isE ?_); refine eA ?_; (repeat' (first | exact trivial | refine le_int ?_ | refine le_bool ?_ | refine le_str ?_ | refine le_sl ?_ | refine le_own ?_ | refine le_osl ?_ | refine le_nsl ?_ | exact rfl | refine ⟨?_, ?_⟩ | fail))) | ((with_reducible refine isI ?_ ?_); (kernel_rfl)) | fail)
set_option maxHeartbeats 4000000 in
theorem gGetNo (b : List UInt8) (h : getT b = none) (hb : b.length ≤ 100000) : Good Tryd.prog Γ 81 [.sl 1 (bys b)] [] (.ret (.tup [.sl 6 [], .int .i64 2])) [] := by
  refine sh_start mixed F81 rfl ⟨(by first | exact rfl | (simp only [go_sem, seval]; done) | (simp only [go_sem, seval]; exact rfl)), (by first | exact rfl | (simp only [go_sem, seval]; done) | (simp only [go_sem, seval]; exact rfl)), (by first | exact rfl | (simp only [go_sem, seval]; done) | (simp only [go_sem, seval]; exact rfl)), (by first | exact rfl | (simp only [go_sem, seval]; done) | (simp only [go_sem, seval]; exact rfl)), (by first | exact rfl | (simp only [go_sem, seval]; done) | (simp only [go_sem, seval]; exact rfl))⟩ ?_
  by_cases hz : ((b.length : Int) % 3) = 0
  · repeat' (first | (with_reducible exact trivial) | simp (maxSteps := 2000000) (disch := omega) only [bys_length, bin_rem, tmod_pos, hz, go_sem, seval] | ((with_reducible refine isI ?_ ?_); (kernel_rfl)) | fail)
    refine sh_loopX mixed (fun x : List UInt8 × List T3 => ([(0, .sl 1 (bys x.1)), (4, .own 0 6 (x.2.map tP))], [(0, .tok)])) (fun x => x.1.length) (fun x => getT b = (getT x.1).map (x.2 ++ ·) ∧ x.1.length % 3 = 0 ∧ x.2.length ≤ 100000 ∧ x.1.length + x.2.length ≤ b.length) (b, []) (by simp; omega)
      (weakG_nil 4 0 6 rfl rfl wkAu) ?_
    rintro ⟨r, acc⟩ ⟨hg, hr, ha, hs⟩
    by_cases h0 : 0 < r.length
    · obtain ⟨a, m, v, r', rfl⟩ := three_of hr h0
      rw [getT_cons] at hg
      simp only [List.length_cons] at hr hs
      by_cases hmm : m &&& 28 = 0
      · rw [if_pos hmm] at hg
        repeat' (first | (with_reducible exact trivial) | simp (maxSteps := 2000000) (disch := omega) only [List.length_map, List.length_cons, bys_getD, bys_take, bys_drop, List.take_length, List.take_succ_cons, List.drop_succ_cons, wrap64_u, bin_and8, u8_to, bys_length, bys_get0, bys_gets, and0, bys_get0, bys_gets, o28, o3, o128, o64, o32, hmm, go_sem, seval] | ((with_reducible refine isI ?_ ?_); (kernel_rfl)) | fail)
        exact ⟨(r', acc ++ [trip a m v]), by simp only [List.length_cons]; omega, ⟨by rw [hg, Option.map_map]; congr 1; funext z; simp, by simp only; omega, by simp; omega, by simp; omega⟩, (wkAu (h1 := by (repeat' (first | exact trivial | exact rfl | refine le_int ?_ | refine le_bool ?_ | refine le_str ?_ | refine le_sl ?_ | refine le_own ?_ | refine le_osl ?_ | refine le_nsl ?_ | refine ⟨_, rfl, ?_⟩ | refine ⟨?_, ?_⟩ | ((simp [tP, trip]); done) | fail)); first | done | fail) (h2 := by (repeat' (first | exact trivial | exact rfl | refine le_int ?_ | refine le_bool ?_ | refine le_str ?_ | refine le_sl ?_ | refine le_own ?_ | refine le_osl ?_ | refine le_nsl ?_ | refine ⟨_, rfl, ?_⟩ | refine ⟨?_, ?_⟩ | ((simp [tP, trip]); done) | fail)); first | done | fail))⟩
      · repeat' (first | (with_reducible exact trivial) | simp (maxSteps := 2000000) (disch := omega) only [List.length_cons, bin_and8, u8_to, bys_length, bys_get0, bys_gets, and0, bys_get0, bys_gets, o28, hmm, go_sem, seval] | ((with_reducible refine isE ?_); refine eA ?_; (repeat' (first | exact trivial | refine le_int ?_ | refine le_bool ?_ | refine le_str ?_ | refine le_sl ?_ | refine le_own ?_ | refine le_osl ?_ | refine le_nsl ?_ | exact rfl | refine ⟨?_, ?_⟩ | fail))) | ((with_reducible refine isI ?_ ?_); (kernel_rfl)) | fail)
    · have e : r = [] := List.eq_nil_of_length_eq_zero (by omega)
      subst e
      rw [h] at hg
      simp [getT] at hg
  · repeat' (first | (with_reducible exact trivial) | simp (maxSteps := 2000000) (disch := omega) only [bys_length, bin_rem, tmod_pos, hz, go_sem, seval] | ((with_reducible refine isE ?_); refine eA ?_; (repeat' (first | exact trivial | refine le_int ?_ | refine le_bool ?_ | refine le_str ?_ | refine le_sl ?_ | refine le_own ?_ | refine le_osl ?_ | refine le_nsl ?_ | exact rfl | refine ⟨?_, ?_⟩ | fail))) | ((with_reducible refine isI ?_ ?_); (kernel_rfl)) | fail)
end Go.Proofs.YtlijecknkpcgfaaDoor

/- Layer 7: the document's own put and get, whether two rows are the same, signals. Own work. -/
namespace Go.Proofs.YtlijecknkpcgfaaDoor
open Go Go.Shade
variable {Γ : Globs}
theorem all8 {p : UInt8 → Prop} (h : ∀ n, n < 256 → p (UInt8.ofNat n)) (m : UInt8) : p m := by
  have := h m.toNat m.toNat_lt
  rwa [UInt8.ofNat_toNat] at this
theorem bits (m : UInt8) : ((((m.toNat : Nat) : Int) / 4 % 8 = 0) = (m &&& 28 = 0)) ∧ ((m.toNat : Int) % 4 = ((m &&& 3).toNat : Nat)) ∧ (((m.toNat : Int) / 128 = 1) = ¬ (m &&& 128 = 0)) ∧ (((m.toNat : Int) / 64 % 2 = 1) = ¬ (m &&& 64 = 0)) ∧ (((m.toNat : Int) / 32 % 2 = 1) = ¬ (m &&& 32 = 0)) := by
  have : ∀ n, n < 256 → (((((UInt8.ofNat n).toNat : Nat) : Int) / 4 % 8 = 0 ↔ (UInt8.ofNat n) &&& 28 = 0)) ∧ (((UInt8.ofNat n).toNat : Int) % 4 = (((UInt8.ofNat n) &&& 3).toNat : Nat)) ∧ ((((UInt8.ofNat n).toNat : Int) / 128 = 1 ↔ ¬ ((UInt8.ofNat n) &&& 128 = 0))) ∧ (((((UInt8.ofNat n).toNat : Int) / 64 % 2 = 1) ↔ ¬ ((UInt8.ofNat n) &&& 64 = 0))) ∧ ((((UInt8.ofNat n).toNat : Int) / 32 % 2 = 1) ↔ ¬ ((UInt8.ofNat n) &&& 32 = 0)) := by decide +kernel
  obtain ⟨h1, h2, h3, h4, h5⟩ := all8 (p := fun m => ((((m.toNat : Nat) : Int) / 4 % 8 = 0 ↔ m &&& 28 = 0)) ∧ ((m.toNat : Int) % 4 = ((m &&& 3).toNat : Nat)) ∧ (((m.toNat : Int) / 128 = 1 ↔ ¬ (m &&& 128 = 0))) ∧ ((((m.toNat : Int) / 64 % 2 = 1) ↔ ¬ (m &&& 64 = 0))) ∧ (((m.toNat : Int) / 32 % 2 = 1) ↔ ¬ (m &&& 32 = 0))) this m
  exact ⟨propext h1, h2, propext h3, propext h4, propext h5⟩
theorem mk_sum (t : T3) (h : mayT t) : u8 (t.level + (if t.ack = true then 128 else 0) + (if t.inn = true then 64 else 0) + (if t.out = true then 32 else 0)) = mk t := by
  obtain ⟨f, l, a, i, o, v⟩ := t
  obtain ⟨_, _, h1, h2⟩ := h
  simp only at h1 h2
  have : l = 0 ∨ l = 1 ∨ l = 2 ∨ l = 3 := by omega
  rcases this with rfl | rfl | rfl | rfl <;> cases a <;> cases i <;> cases o <;> simp only [mk, if_true, Bool.false_eq_true, if_false] <;> decide
set_option maxHeartbeats 4000000 in
theorem gRPutOk (l : List T3) (h : ∀ t ∈ l, mayT t) (hl : l.length ≤ 100000) : Good Tryd.prog Γ 57 [.sl 6 (l.map tP)] [] (.ret (.tup [.sl 1 (bys (putT l)), .bool true])) [] := by
  refine sh_start mixed F57 rfl ⟨(by first | exact rfl | (simp only [go_sem, seval]; done) | (simp only [go_sem, seval]; exact rfl)), (by first | exact rfl | (simp only [go_sem, seval]; done) | (simp only [go_sem, seval]; exact rfl)), (by first | exact rfl | (simp only [go_sem, seval]; done) | (simp only [go_sem, seval]; exact rfl)), (by first | exact rfl | (simp only [go_sem, seval]; done) | (simp only [go_sem, seval]; exact rfl)), (by first | exact rfl | (simp only [go_sem, seval]; done) | (simp only [go_sem, seval]; exact rfl))⟩ ?_
  repeat' (first | (with_reducible exact trivial) | simp (maxSteps := 2000000) (disch := omega) only [go_sem, seval] | ((with_reducible refine isI ?_ ?_); (kernel_rfl)) | fail)
  refine sh_loopX mixed (fun i : Nat => ([(0, .sl 6 (l.map tP)), (4, .own 0 1 (bys (putT (l.take i)))), (5, .int .i64 i)], [(0, .tok)])) (fun i => l.length - i) (fun i => i ≤ l.length) 0 (by omega)
    (weakG_nil 4 0 1 rfl rfl wkAu) ?_
  intro i hi
  have lp : (putT (l.take i)).length ≤ 300000 := by rw [putT_len, List.length_take]; omega
  by_cases hlt : i < l.length
  · obtain ⟨t, ht, hs, hg⟩ := elem_at hlt
    have ht := h t ht
    obtain ⟨_, _, t3, t4⟩ := id ht
    have hmk := mk_sum t ht
    rcases t with ⟨f, lv, _ | _, _ | _, _ | _, v⟩
    all_goals
      simp only [Bool.false_eq_true, if_false, if_true, Int.add_zero] at hmk t3 t4
      repeat' (first | (with_reducible exact trivial) | simp (maxSteps := 2000000) (disch := omega) only [List.length_map, hg, tP, ht, wrapU8, by2_nil, by2_cons, set_by1, bys_length, bys_cat, Int.toNat_natCast, go_sem, seval] | ((with_reducible refine isS ?_); first | refine cS (gMay ⟨f, lv, _, _, _, v⟩) ?_ | fail) | ((with_reducible refine isI ?_ ?_); (kernel_rfl)) | fail)
      exact ⟨i + 1, by omega, by omega, (wkAu (h1 := by (repeat' (first | exact trivial | exact rfl | refine le_int ?_ | refine le_bool ?_ | refine le_str ?_ | refine le_sl ?_ | refine le_own ?_ | refine le_osl ?_ | refine le_nsl ?_ | refine ⟨_, rfl, ?_⟩ | refine ⟨?_, ?_⟩ | ((rw [hs, putT_snoc, ← hmk]); done) | fail)); first | done | fail) (h2 := by (repeat' (first | exact trivial | exact rfl | refine le_int ?_ | refine le_bool ?_ | refine le_str ?_ | refine le_sl ?_ | refine le_own ?_ | refine le_osl ?_ | refine le_nsl ?_ | refine ⟨_, rfl, ?_⟩ | refine ⟨?_, ?_⟩ | ((rw [hs, putT_snoc, ← hmk]); done) | fail)); first | done | fail))⟩
  · repeat' (first | (with_reducible exact trivial) | simp (maxSteps := 2000000) (disch := omega) only [List.length_map, go_sem, seval] | ((with_reducible refine isE ?_); refine eA ?_; (repeat' (first | exact trivial | refine le_int ?_ | refine le_bool ?_ | refine le_str ?_ | refine le_sl ?_ | refine le_own ?_ | refine le_osl ?_ | refine le_nsl ?_ | exact rfl | (rw [List.take_of_length_le (by omega)]; done) | refine ⟨?_, ?_⟩ | fail))) | ((with_reducible refine isI ?_ ?_); (kernel_rfl)) | fail)
end Go.Proofs.YtlijecknkpcgfaaDoor

/- Layer 7: the document's own get, whether two rows are the same, signals. Own work. -/
namespace Go.Proofs.YtlijecknkpcgfaaDoor
open Go Go.Shade
variable {Γ : Globs}
set_option maxHeartbeats 8000000 in
theorem gRGetOk (b : List UInt8) (l : List T3) (h : getT b = some l) (hb : b.length ≤ 100000) : Good Tryd.prog Γ 60 [.sl 1 (bys b)] [] (.ret (.tup [.sl 6 (l.map tP), .bool true])) [] := by
  have hlen := getT_mod h
  refine sh_start mixed F60 rfl ⟨(by first | exact rfl | (simp only [go_sem, seval]; done) | (simp only [go_sem, seval]; exact rfl)), (by first | exact rfl | (simp only [go_sem, seval]; done) | (simp only [go_sem, seval]; exact rfl)), (by first | exact rfl | (simp only [go_sem, seval]; done) | (simp only [go_sem, seval]; exact rfl)), (by first | exact rfl | (simp only [go_sem, seval]; done) | (simp only [go_sem, seval]; exact rfl)), (by first | exact rfl | (simp only [go_sem, seval]; done) | (simp only [go_sem, seval]; exact rfl))⟩ ?_
  repeat' (first | (with_reducible exact trivial) | simp (maxSteps := 2000000) (disch := omega) only [go_sem, seval] | ((with_reducible refine isI ?_ ?_); (kernel_rfl)) | fail)
  refine sh_loopX mixed (fun x : Nat × List T3 => ([(0, .sl 1 (bys b)), (4, .own 0 6 (x.2.map tP)), (5, .int .i64 (x.1 : Nat))], [(0, .tok)])) (fun x => b.length - x.1) (fun x => getT b = (getT (b.drop x.1)).map (x.2 ++ ·) ∧ x.1 = 3 * x.2.length ∧ x.1 ≤ b.length) (0, []) (by simp)
    (weakG_nil 4 0 6 rfl rfl wkAu) ?_
  rintro ⟨i, acc⟩ ⟨hg, ha, hs⟩
  simp only at hg ha hs
  by_cases h0 : i < b.length
  · obtain ⟨a, m, v, r', hr⟩ := three_of (r := b.drop i) (by rw [List.length_drop]; omega) (by rw [List.length_drop]; omega)
    have hl : (b.drop i).length = r'.length + 3 := by rw [hr]; rfl
    rw [List.length_drop] at hl
    have g0 : (bys b).getD i [] = [.s (.int .u8 a.toNat)] := by rw [bys_getD h0, List.getD_eq_getElem?_getD, ← Nat.add_zero i, ← List.getElem?_drop, hr]; rfl
    have g1 : (bys b).getD (i + 1) [] = [.s (.int .u8 m.toNat)] := by rw [bys_getD (by omega), List.getD_eq_getElem?_getD, ← List.getElem?_drop, hr]; rfl
    have g2 : (bys b).getD (i + 2) [] = [.s (.int .u8 v.toNat)] := by rw [bys_getD (by omega), List.getD_eq_getElem?_getD, ← List.getElem?_drop, hr]; rfl
    have hr' : b.drop (i + 3) = r' := by rw [← List.drop_drop, hr]; rfl
    rw [hr, getT_cons] at hg
    obtain ⟨b1, b2, b3, b4, b5⟩ := bits m
    have hmn := u8_lt m
    have t1 : ((i : Int) + 1).toNat = i + 1 := by omega
    have t2 : ((i : Int) + 2).toNat = i + 2 := by omega
    by_cases hmm : m &&& 28 = 0
    · rw [if_pos hmm] at hg
      repeat' (first | (with_reducible exact trivial) | simp (maxSteps := 2000000) (disch := omega) only [List.length_map, wrap64_u, bys_length, Int.toNat_natCast, g0, g1, g2, t1, t2, bin_rem, bin_quo, tmod_pos, tdiv_pos, b1, b2, b3, b4, b5, hmm, go_sem, seval] | ((with_reducible refine isI ?_ ?_); (kernel_rfl)) | fail)
      exact ⟨(i + 3, acc ++ [trip a m v]), by simp only; omega, ⟨by simp only; rw [hg, hr', Option.map_map]; congr 1; funext z; simp, by simp; omega, by simp only; omega⟩, (wkAu (h1 := by (repeat' (first | exact trivial | exact rfl | refine le_int ?_ | refine le_bool ?_ | refine le_str ?_ | refine le_sl ?_ | refine le_own ?_ | refine le_osl ?_ | refine le_nsl ?_ | refine ⟨_, rfl, ?_⟩ | refine ⟨?_, ?_⟩ | ((simp [tP, trip]); done) | fail)); first | done | fail) (h2 := by (repeat' (first | exact trivial | exact rfl | refine le_int ?_ | refine le_bool ?_ | refine le_str ?_ | refine le_sl ?_ | refine le_own ?_ | refine le_osl ?_ | refine le_nsl ?_ | refine ⟨_, rfl, ?_⟩ | refine ⟨?_, ?_⟩ | ((simp [tP, trip]); done) | fail)); first | done | fail))⟩
    · rw [if_neg hmm] at hg
      rw [hg] at h
      cases h
  · have e : b.drop i = [] := List.drop_eq_nil_of_le (by omega)
    rw [e] at hg
    have e : acc = l := by rw [h] at hg; simpa [getT] using hg.symm
    subst e
    repeat' (first | (with_reducible exact trivial) | simp (maxSteps := 2000000) (disch := omega) only [bys_length, go_sem, seval] | ((with_reducible refine isE ?_); refine eA ?_; (repeat' (first | exact trivial | refine le_int ?_ | refine le_bool ?_ | refine le_str ?_ | refine le_sl ?_ | refine le_own ?_ | refine le_osl ?_ | refine le_nsl ?_ | exact rfl | refine ⟨?_, ?_⟩ | fail))) | ((with_reducible refine isI ?_ ?_); (kernel_rfl)) | fail)
set_option maxHeartbeats 8000000 in
theorem gRGetNo (b : List UInt8) (h : getT b = none) (hb : b.length ≤ 100000) : Good Tryd.prog Γ 60 [.sl 1 (bys b)] [] (.ret (.tup [.sl 6 [], .bool false])) [] := by
  refine sh_start mixed F60 rfl ⟨(by first | exact rfl | (simp only [go_sem, seval]; done) | (simp only [go_sem, seval]; exact rfl)), (by first | exact rfl | (simp only [go_sem, seval]; done) | (simp only [go_sem, seval]; exact rfl)), (by first | exact rfl | (simp only [go_sem, seval]; done) | (simp only [go_sem, seval]; exact rfl)), (by first | exact rfl | (simp only [go_sem, seval]; done) | (simp only [go_sem, seval]; exact rfl)), (by first | exact rfl | (simp only [go_sem, seval]; done) | (simp only [go_sem, seval]; exact rfl))⟩ ?_
  repeat' (first | (with_reducible exact trivial) | simp (maxSteps := 2000000) (disch := omega) only [go_sem, seval] | ((with_reducible refine isI ?_ ?_); (kernel_rfl)) | fail)
  refine sh_loopX mixed (fun x : Nat × List T3 => ([(0, .sl 1 (bys b)), (4, .own 0 6 (x.2.map tP)), (5, .int .i64 (x.1 : Nat))], [(0, .tok)])) (fun x => b.length - x.1) (fun x => getT b = (getT (b.drop x.1)).map (x.2 ++ ·) ∧ x.1 = 3 * x.2.length ∧ x.1 ≤ b.length) (0, []) (by simp)
    (weakG_nil 4 0 6 rfl rfl wkAu) ?_
  rintro ⟨i, acc⟩ ⟨hg, ha, hs⟩
  simp only at hg ha hs
  by_cases h0 : i < b.length
  · by_cases h3 : i + 3 ≤ b.length
    · obtain ⟨a, m, v, r', hr⟩ : ∃ a m v r', b.drop i = a :: m :: v :: r' := by
        have : 3 ≤ (b.drop i).length := by rw [List.length_drop]; omega
        match hd : b.drop i, this with
        | a :: m :: v :: r', _ => exact ⟨a, m, v, r', rfl⟩
      have g0 : (bys b).getD i [] = [.s (.int .u8 a.toNat)] := by rw [bys_getD h0, List.getD_eq_getElem?_getD, ← Nat.add_zero i, ← List.getElem?_drop, hr]; rfl
      have g1 : (bys b).getD (i + 1) [] = [.s (.int .u8 m.toNat)] := by rw [bys_getD (by omega), List.getD_eq_getElem?_getD, ← List.getElem?_drop, hr]; rfl
      have g2 : (bys b).getD (i + 2) [] = [.s (.int .u8 v.toNat)] := by rw [bys_getD (by omega), List.getD_eq_getElem?_getD, ← List.getElem?_drop, hr]; rfl
      have hr' : b.drop (i + 3) = r' := by rw [← List.drop_drop, hr]; rfl
      rw [hr, getT_cons] at hg
      obtain ⟨b1, b2, b3, b4, b5⟩ := bits m
      have hmn := u8_lt m
      have t1 : ((i : Int) + 1).toNat = i + 1 := by omega
      have t2 : ((i : Int) + 2).toNat = i + 2 := by omega
      by_cases hmm : m &&& 28 = 0
      · rw [if_pos hmm] at hg
        repeat' (first | (with_reducible exact trivial) | simp (maxSteps := 2000000) (disch := omega) only [List.length_map, wrap64_u, bys_length, Int.toNat_natCast, g0, g1, g2, t1, t2, bin_rem, bin_quo, tmod_pos, tdiv_pos, b1, b2, b3, b4, b5, hmm, go_sem, seval] | ((with_reducible refine isI ?_ ?_); (kernel_rfl)) | fail)
        exact ⟨(i + 3, acc ++ [trip a m v]), by simp only; omega, ⟨by simp only; rw [hg, hr', Option.map_map]; congr 1; funext z; simp, by simp; omega, by simp only; omega⟩, (wkAu (h1 := by (repeat' (first | exact trivial | exact rfl | refine le_int ?_ | refine le_bool ?_ | refine le_str ?_ | refine le_sl ?_ | refine le_own ?_ | refine le_osl ?_ | refine le_nsl ?_ | refine ⟨_, rfl, ?_⟩ | refine ⟨?_, ?_⟩ | ((simp [tP, trip]); done) | fail)); first | done | fail) (h2 := by (repeat' (first | exact trivial | exact rfl | refine le_int ?_ | refine le_bool ?_ | refine le_str ?_ | refine le_sl ?_ | refine le_own ?_ | refine le_osl ?_ | refine le_nsl ?_ | refine ⟨_, rfl, ?_⟩ | refine ⟨?_, ?_⟩ | ((simp [tP, trip]); done) | fail)); first | done | fail))⟩
      · repeat' (first | (with_reducible exact trivial) | simp (maxSteps := 2000000) (disch := omega) only [wrap64_u, bys_length, g1, t1, bin_rem, bin_quo, tmod_pos, tdiv_pos, b1, hmm, go_sem, seval] | ((with_reducible refine isE ?_); refine eA ?_; (repeat' (first | exact trivial | refine le_int ?_ | refine le_bool ?_ | refine le_str ?_ | refine le_sl ?_ | refine le_own ?_ | refine le_osl ?_ | refine le_nsl ?_ | exact rfl | refine ⟨?_, ?_⟩ | fail))) | ((with_reducible refine isI ?_ ?_); (kernel_rfl)) | fail)
    · repeat' (first | (with_reducible exact trivial) | simp (maxSteps := 2000000) (disch := omega) only [bys_length, go_sem, seval] | ((with_reducible refine isE ?_); refine eA ?_; (repeat' (first | exact trivial | refine le_int ?_ | refine le_bool ?_ | refine le_str ?_ | refine le_sl ?_ | refine le_own ?_ | refine le_osl ?_ | refine le_nsl ?_ | exact rfl | refine ⟨?_, ?_⟩ | fail))) | ((with_reducible refine isI ?_ ?_); (kernel_rfl)) | fail)
  · have e : b.drop i = [] := List.drop_eq_nil_of_le (by omega)
    rw [e, h] at hg
    simp [getT] at hg
end Go.Proofs.YtlijecknkpcgfaaDoor
