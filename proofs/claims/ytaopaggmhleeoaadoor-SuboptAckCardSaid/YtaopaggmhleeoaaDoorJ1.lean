/- Own texts joined: Ta, Tb, Tc, Td, Te, Ka, Kb, Kc, Kl, Ma. Own work. -/
import Derived.Test.YtaopaggmhleeoaaDoorCode
import Derived.Test.YtaopaggmhleeoaaDoorSub
import Derived.Test.YtaopaggmhleeoaaDoorSmn
import Derived.Test.YtaopaggmhleeoaaDoorSbi
import Derived.Test.YtaopaggmhleeoaaDoorSmk
/- Layer 7: what its functions come to. Own work. -/
namespace Go.Proofs.YtaopaggmhleeoaaDoor
open Go Go.Shade
variable {Γ : Globs}
theorem mixed : Tryd.prog.follows .mixedOrders = true := by kernel_rfl

structure T3 where
  f : Int
  level : Int
  ack : Bool
  inn : Bool
  out : Bool
  v : UInt8
theorem t3_eq {t u : T3} : t = u ↔ t.f = u.f ∧ t.level = u.level ∧ t.ack = u.ack ∧ t.inn = u.inn ∧ t.out = u.out ∧ t.v = u.v := by
  constructor
  · rintro rfl; exact ⟨rfl, rfl, rfl, rfl, rfl, rfl⟩
  · cases t; cases u; rintro ⟨h1, h2, h3, h4, h5, h6⟩; simp_all
instance : DecidableEq T3 := fun t u => decidable_of_iff _ t3_eq.symm
def T3.zero : T3 := ⟨0, 0, false, false, false, 0⟩
def tP (t : T3) : List PV := [.s (.int .i64 t.f), .s (.int .i64 t.level), .s (.bool t.ack), .s (.bool t.inn), .s (.bool t.out), .s (.int .u8 t.v.toNat)]
def tA (t : T3) : AV := .agg [.int .i64 t.f, .int .i64 t.level, .bool t.ack, .bool t.inn, .bool t.out, .int .u8 t.v.toNat]
theorem tP_getD {l : List T3} {i : Nat} (h : i < l.length) : (l.map tP).getD i [] = tP (l.getD i .zero) := by
  rw [List.getD_eq_getElem?_getD, List.getElem?_map, List.getD_eq_getElem?_getD, List.getElem?_eq_getElem h]
  rfl
theorem eq_tt (t u : T3) : eqAs [0, 0, 1, 1, 1, 0] [.int .i64 t.f, .int .i64 t.level, .bool t.ack, .bool t.inn, .bool t.out, .int .u8 t.v.toNat] [.int .i64 u.f, .int .i64 u.level, .bool u.ack, .bool u.inn, .bool u.out, .int .u8 u.v.toNat] = some (decide (t = u)) := by
  simp only [eqAs_int, eqAs_bool, eqAs_nil, Option.map_some, Option.some.injEq, t3_eq, u8n_eq]
  simp [Bool.decide_and]

def mayT (t : T3) : Prop := 0 ≤ t.f ∧ t.f ≤ 255 ∧ 0 ≤ t.level ∧ t.level ≤ 3
instance (t : T3) : Decidable (mayT t) := inferInstanceAs (Decidable (_ ∧ _))
def mk (t : T3) : UInt8 := ((u8 t.level ||| u8 (if t.ack = true then 128 else 0)) ||| u8 (if t.inn = true then 64 else 0)) ||| u8 (if t.out = true then 32 else 0)
def putT (l : List T3) : List UInt8 := l.flatMap fun t => [u8 t.f, mk t, t.v]
def getT : List UInt8 → Option (List T3)
  | [] => some []
  | a :: m :: v :: r => if m &&& 28 = 0 then (getT r).map (⟨a.toNat, ((m &&& 3).toNat : Int), decide (¬ (m &&& 128 = 0)), decide (¬ (m &&& 64 = 0)), decide (¬ (m &&& 32 = 0)), v⟩ :: ·) else none
  | _ => none

theorem gCheck (t : T3) : Good Tryd.prog Γ 31 [tA t] [] (.ret (.int .i64 (if mayT t then 0 else 1))) [] := by
  refine sh_start mixed F31 rfl ⟨(by first | exact rfl | (simp only [go_sem, seval]; done) | (simp only [go_sem, seval]; exact rfl)), (by first | exact rfl | (simp only [go_sem, seval]; done) | (simp only [go_sem, seval]; exact rfl)), (by first | exact rfl | (simp only [go_sem, seval]; done) | (simp only [go_sem, seval]; exact rfl)), (by first | exact rfl | (simp only [go_sem, seval]; done) | (simp only [go_sem, seval]; exact rfl)), (by first | exact rfl | (simp only [go_sem, seval]; done) | (simp only [go_sem, seval]; exact rfl))⟩ ?_
  repeat' (first | (with_reducible exact trivial) | simp (maxSteps := 2000000) (disch := omega) only [tA, go_sem, seval] | (first | ((with_reducible refine isC ?_); first | refine fork_P (fun h => ?_) (fun h => ?_) | refine fork_N (fun h => ?_) (fun h => ?_) | fail) | ((with_reducible refine isG ?_); first | refine fork_gP (fun h => ?_) (fun h => ?_) | refine fork_gN (fun h => ?_) (fun h => ?_) | refine fork_gnP (fun h => ?_) (fun h => ?_) | refine fork_gnN (fun h => ?_) (fun h => ?_) | fail) | fail) | ((with_reducible refine isE ?_); refine endA (by first | exact rfl | (simp only [go_sem, seval]; exact rfl) | (simp only [go_sem, seval]; done)) ?_ (by (repeat' (first | exact trivial | exact rfl | refine ⟨_, rfl, ?_⟩ | refine ⟨?_, ?_⟩ | fail)); first | done | fail) rfl rfl; (repeat' (first | exact trivial | refine le_int ?_ | refine le_bool ?_ | refine le_str ?_ | refine le_sl ?_ | refine le_own ?_ | refine le_osl ?_ | refine le_nsl ?_ | exact rfl | (first | (rw [if_pos (show mayT t from ⟨by omega, by omega, by omega, by omega⟩)]) | (rw [if_neg (show ¬ mayT t from fun h => by have := h.1; have := h.2.1; have := h.2.2.1; have := h.2.2.2; omega)]); done) | refine ⟨?_, ?_⟩ | fail))) | ((with_reducible refine isI ?_ ?_); (kernel_rfl)) | fail)
theorem gMay (t : T3) : Good Tryd.prog Γ 38 [tA t] [] (.ret (.bool (decide (mayT t)))) [] := by
  refine sh_start mixed F38 rfl ⟨(by first | exact rfl | (simp only [go_sem, seval]; done) | (simp only [go_sem, seval]; exact rfl)), (by first | exact rfl | (simp only [go_sem, seval]; done) | (simp only [go_sem, seval]; exact rfl)), (by first | exact rfl | (simp only [go_sem, seval]; done) | (simp only [go_sem, seval]; exact rfl)), (by first | exact rfl | (simp only [go_sem, seval]; done) | (simp only [go_sem, seval]; exact rfl)), (by first | exact rfl | (simp only [go_sem, seval]; done) | (simp only [go_sem, seval]; exact rfl))⟩ ?_
  repeat' (first | (with_reducible exact trivial) | simp (maxSteps := 2000000) (disch := omega) only [tA, go_sem, seval] | (first | ((with_reducible refine isC ?_); first | refine fork_P (fun h => ?_) (fun h => ?_) | refine fork_N (fun h => ?_) (fun h => ?_) | fail) | ((with_reducible refine isG ?_); first | refine fork_gP (fun h => ?_) (fun h => ?_) | refine fork_gN (fun h => ?_) (fun h => ?_) | refine fork_gnP (fun h => ?_) (fun h => ?_) | refine fork_gnN (fun h => ?_) (fun h => ?_) | fail) | fail) | ((with_reducible refine isE ?_); refine endA (by first | exact rfl | (simp only [go_sem, seval]; exact rfl) | (simp only [go_sem, seval]; done)) ?_ (by (repeat' (first | exact trivial | exact rfl | refine ⟨_, rfl, ?_⟩ | refine ⟨?_, ?_⟩ | fail)); first | done | fail) rfl rfl; (repeat' (first | exact trivial | refine le_int ?_ | refine le_bool ?_ | refine le_str ?_ | refine le_sl ?_ | refine le_own ?_ | refine le_osl ?_ | refine le_nsl ?_ | exact rfl | (first | exact (decide_eq_decide.2 ⟨fun h => ⟨by omega, by omega, by omega, h⟩, fun h => h.2.2.2⟩) | exact (decide_eq_false (fun h => by have := h.1; have := h.2.1; have := h.2.2.1; have := h.2.2.2; omega)).symm; done) | refine ⟨?_, ?_⟩ | fail))) | ((with_reducible refine isI ?_ ?_); (kernel_rfl)) | fail)
theorem gMark (is : Bool) (b : Int) : Good Tryd.prog Γ 32 [.bool is, .int .u8 b] [] (.ret (.int .u8 (if is = true then b else 0))) [] := by
  refine sh_start mixed F32 rfl ⟨(by first | exact rfl | (simp only [go_sem, seval]; done) | (simp only [go_sem, seval]; exact rfl)), (by first | exact rfl | (simp only [go_sem, seval]; done) | (simp only [go_sem, seval]; exact rfl)), (by first | exact rfl | (simp only [go_sem, seval]; done) | (simp only [go_sem, seval]; exact rfl)), (by first | exact rfl | (simp only [go_sem, seval]; done) | (simp only [go_sem, seval]; exact rfl)), (by first | exact rfl | (simp only [go_sem, seval]; done) | (simp only [go_sem, seval]; exact rfl))⟩ ?_
  cases is <;> repeat' (first | (with_reducible exact trivial) | simp (maxSteps := 2000000) (disch := omega) only [go_sem, seval] | (first | ((with_reducible refine isC ?_); first | refine fork_P (fun h => ?_) (fun h => ?_) | refine fork_N (fun h => ?_) (fun h => ?_) | fail) | ((with_reducible refine isG ?_); first | refine fork_gP (fun h => ?_) (fun h => ?_) | refine fork_gN (fun h => ?_) (fun h => ?_) | refine fork_gnP (fun h => ?_) (fun h => ?_) | refine fork_gnN (fun h => ?_) (fun h => ?_) | fail) | fail) | ((with_reducible refine isE ?_); refine endA (by first | exact rfl | (simp only [go_sem, seval]; exact rfl) | (simp only [go_sem, seval]; done)) ?_ (by (repeat' (first | exact trivial | exact rfl | refine ⟨_, rfl, ?_⟩ | refine ⟨?_, ?_⟩ | fail)); first | done | fail) rfl rfl; (repeat' (first | exact trivial | refine le_int ?_ | refine le_bool ?_ | refine le_str ?_ | refine le_sl ?_ | refine le_own ?_ | refine le_osl ?_ | refine le_nsl ?_ | exact rfl | (rfl; done) | refine ⟨?_, ?_⟩ | fail))) | ((with_reducible refine isI ?_ ?_); (kernel_rfl)) | fail)
end Go.Proofs.YtaopaggmhleeoaaDoor

/- Layer 7: put. Own work. -/
namespace Go.Proofs.YtaopaggmhleeoaaDoor
open Go Go.Shade
variable {Γ : Globs}
theorem putT_len : ∀ l : List T3, (putT l).length = 3 * l.length
  | [] => rfl
  | t :: l => by
    have := putT_len l
    simp only [putT, List.flatMap_cons, List.length_append, List.length_cons, List.length_nil] at this ⊢
    omega
theorem elem_at {l : List T3} {i : Nat} (h : i < l.length) : ∃ t, t ∈ l ∧ l.take (i + 1) = l.take i ++ [t] ∧ (l.map tP).getD i [] = tP t := by
  refine ⟨l[i], List.getElem_mem _, List.take_succ_eq_append_getElem h, ?_⟩
  rw [tP_getD h, List.getD_eq_getElem?_getD, List.getElem?_eq_getElem h]
  rfl
theorem putT_snoc (l : List T3) (t : T3) : putT (l ++ [t]) = putT l ++ [u8 t.f, mk t, t.v] := by
  rw [putT, List.flatMap_append]
  rfl
set_option maxHeartbeats 4000000 in
theorem gPutOk (l : List T3) (h : ∀ t ∈ l, mayT t) (hl : l.length ≤ 100000) : Good Tryd.prog Γ 19 [.sl 6 (l.map tP)] [] (.ret (.tup [.sl 1 (bys (putT l)), .int .i64 0])) [] := by
  refine sh_start mixed F19 rfl ⟨(by first | exact rfl | (simp only [go_sem, seval]; done) | (simp only [go_sem, seval]; exact rfl)), (by first | exact rfl | (simp only [go_sem, seval]; done) | (simp only [go_sem, seval]; exact rfl)), (by first | exact rfl | (simp only [go_sem, seval]; done) | (simp only [go_sem, seval]; exact rfl)), (by first | exact rfl | (simp only [go_sem, seval]; done) | (simp only [go_sem, seval]; exact rfl)), (by first | exact rfl | (simp only [go_sem, seval]; done) | (simp only [go_sem, seval]; exact rfl))⟩ ?_
  repeat' (first | (with_reducible exact trivial) | simp (maxSteps := 2000000) (disch := omega) only [go_sem, seval] | ((with_reducible refine isI ?_ ?_); (kernel_rfl)) | fail)
  refine sh_loopX mixed (fun i : Nat => ([(4, .own 0 1 (bys (putT (l.take i)))), (8, .sl 6 (l.map tP)), (9, .int .i64 l.length), (10, .int .i64 i)], [(0, .tok)])) (fun i => l.length - i) (fun i => i ≤ l.length) 0 (by omega)
    (weakG_nil 4 0 1 rfl rfl (sh_weakA (by first | exact rfl | (simp only [go_sem, seval]; exact rfl) | (simp only [go_sem, seval]; done)) (by (repeat' (first | exact trivial | exact rfl | refine le_int ?_ | refine le_bool ?_ | refine le_str ?_ | refine le_sl ?_ | refine le_own ?_ | refine le_osl ?_ | refine le_nsl ?_ | refine ⟨_, rfl, ?_⟩ | refine ⟨?_, ?_⟩ | (simp only [List.length_map]; done) | fail)); first | done | fail) (by (repeat' (first | exact trivial | exact rfl | refine le_int ?_ | refine le_bool ?_ | refine le_str ?_ | refine le_sl ?_ | refine le_own ?_ | refine le_osl ?_ | refine le_nsl ?_ | refine ⟨_, rfl, ?_⟩ | refine ⟨?_, ?_⟩ | (simp only [List.length_map]; done) | fail)); first | done | fail) rfl (by first | exact rfl | (simp only [go_sem, seval]; done) | (simp only [go_sem, seval]; exact rfl)) (by first | exact rfl | (simp only [go_sem, seval]; done) | (simp only [go_sem, seval]; exact rfl)) rfl (by first | exact rfl | (simp only [go_sem, seval]; done) | (simp only [go_sem, seval]; exact rfl)))) ?_
  intro i hi
  have lp : (putT (l.take i)).length ≤ 300000 := by rw [putT_len, List.length_take]; omega
  by_cases hlt : i < l.length
  · obtain ⟨t, ht, hs, hg⟩ := elem_at hlt
    have ht := h t ht
    repeat' (first | (with_reducible exact trivial) | simp (maxSteps := 2000000) (disch := omega) only [List.length_map, hg, tP, ht, wrapU8, bin_or8, u8_to, by2_nil, by2_cons, set_by1, bys_length, bys_cat, Int.toNat_natCast, go_sem, seval] | ((with_reducible refine isS ?_); first | refine sh_call (gCheck t) [] (by (repeat' (first | exact rfl | exact trivial | exact le_nbys | refine ⟨?_, ?_⟩ | fail)); first | done | fail) trivial rfl (by (repeat' (first | exact trivial | exact .inr rfl | refine ⟨?_, ?_⟩ | fail)); first | done | fail) ?_ | refine sh_call (gMark _ _) [] (by (repeat' (first | exact rfl | exact trivial | exact le_nbys | refine ⟨?_, ?_⟩ | fail)); first | done | fail) trivial rfl (by (repeat' (first | exact trivial | exact .inr rfl | refine ⟨?_, ?_⟩ | fail)); first | done | fail) ?_ | fail) | ((with_reducible refine isT ?_); first | refine sh_callT (gCheck t) [] (by (repeat' (first | exact rfl | exact trivial | exact le_nbys | refine ⟨?_, ?_⟩ | fail)); first | done | fail) trivial rfl (by (repeat' (first | exact trivial | exact .inr rfl | refine ⟨?_, ?_⟩ | fail)); first | done | fail) ?_ | refine sh_callT (gMark _ _) [] (by (repeat' (first | exact rfl | exact trivial | exact le_nbys | refine ⟨?_, ?_⟩ | fail)); first | done | fail) trivial rfl (by (repeat' (first | exact trivial | exact .inr rfl | refine ⟨?_, ?_⟩ | fail)); first | done | fail) ?_ | fail) | ((with_reducible refine isI ?_ ?_); (kernel_rfl)) | fail)
    exact ⟨i + 1, by omega, by omega, (sh_weakA (by first | exact rfl | (simp only [go_sem, seval]; exact rfl) | (simp only [go_sem, seval]; done)) (by (repeat' (first | exact trivial | exact rfl | refine le_int ?_ | refine le_bool ?_ | refine le_str ?_ | refine le_sl ?_ | refine le_own ?_ | refine le_osl ?_ | refine le_nsl ?_ | refine ⟨_, rfl, ?_⟩ | refine ⟨?_, ?_⟩ | ((rw [hs, putT_snoc, mk]); done) | fail)); first | done | fail) (by (repeat' (first | exact trivial | exact rfl | refine le_int ?_ | refine le_bool ?_ | refine le_str ?_ | refine le_sl ?_ | refine le_own ?_ | refine le_osl ?_ | refine le_nsl ?_ | refine ⟨_, rfl, ?_⟩ | refine ⟨?_, ?_⟩ | ((rw [hs, putT_snoc, mk]); done) | fail)); first | done | fail) rfl (by first | exact rfl | (simp only [go_sem, seval]; done) | (simp only [go_sem, seval]; exact rfl)) (by first | exact rfl | (simp only [go_sem, seval]; done) | (simp only [go_sem, seval]; exact rfl)) rfl (by first | exact rfl | (simp only [go_sem, seval]; done) | (simp only [go_sem, seval]; exact rfl)))⟩
  · repeat' (first | (with_reducible exact trivial) | simp (maxSteps := 2000000) (disch := omega) only [go_sem, seval] | ((with_reducible refine isE ?_); refine endA (by first | exact rfl | (simp only [go_sem, seval]; exact rfl) | (simp only [go_sem, seval]; done)) ?_ (by (repeat' (first | exact trivial | exact rfl | refine ⟨_, rfl, ?_⟩ | refine ⟨?_, ?_⟩ | fail)); first | done | fail) rfl rfl; (repeat' (first | exact trivial | refine le_int ?_ | refine le_bool ?_ | refine le_str ?_ | refine le_sl ?_ | refine le_own ?_ | refine le_osl ?_ | refine le_nsl ?_ | exact rfl | (rw [List.take_of_length_le (by omega)]; done) | refine ⟨?_, ?_⟩ | fail))) | ((with_reducible refine isI ?_ ?_); (kernel_rfl)) | fail)
set_option maxHeartbeats 4000000 in
theorem gPutNo (l : List T3) (h : ¬ ∀ t ∈ l, mayT t) (hl : l.length ≤ 100000) : Good Tryd.prog Γ 19 [.sl 6 (l.map tP)] [] (.ret (.tup [.sl 1 [], .int .i64 1])) [] := by
  refine sh_start mixed F19 rfl ⟨(by first | exact rfl | (simp only [go_sem, seval]; done) | (simp only [go_sem, seval]; exact rfl)), (by first | exact rfl | (simp only [go_sem, seval]; done) | (simp only [go_sem, seval]; exact rfl)), (by first | exact rfl | (simp only [go_sem, seval]; done) | (simp only [go_sem, seval]; exact rfl)), (by first | exact rfl | (simp only [go_sem, seval]; done) | (simp only [go_sem, seval]; exact rfl)), (by first | exact rfl | (simp only [go_sem, seval]; done) | (simp only [go_sem, seval]; exact rfl))⟩ ?_
  repeat' (first | (with_reducible exact trivial) | simp (maxSteps := 2000000) (disch := omega) only [go_sem, seval] | ((with_reducible refine isI ?_ ?_); (kernel_rfl)) | fail)
  refine sh_loopX mixed (fun i : Nat => ([(4, .own 0 1 (bys (putT (l.take i)))), (8, .sl 6 (l.map tP)), (9, .int .i64 l.length), (10, .int .i64 i)], [(0, .tok)])) (fun i => l.length - i) (fun i => i ≤ l.length ∧ ∀ t ∈ l.take i, mayT t) 0 (by simp)
    (weakG_nil 4 0 1 rfl rfl (sh_weakA (by first | exact rfl | (simp only [go_sem, seval]; exact rfl) | (simp only [go_sem, seval]; done)) (by (repeat' (first | exact trivial | exact rfl | refine le_int ?_ | refine le_bool ?_ | refine le_str ?_ | refine le_sl ?_ | refine le_own ?_ | refine le_osl ?_ | refine le_nsl ?_ | refine ⟨_, rfl, ?_⟩ | refine ⟨?_, ?_⟩ | (simp only [List.length_map]; done) | fail)); first | done | fail) (by (repeat' (first | exact trivial | exact rfl | refine le_int ?_ | refine le_bool ?_ | refine le_str ?_ | refine le_sl ?_ | refine le_own ?_ | refine le_osl ?_ | refine le_nsl ?_ | refine ⟨_, rfl, ?_⟩ | refine ⟨?_, ?_⟩ | (simp only [List.length_map]; done) | fail)); first | done | fail) rfl (by first | exact rfl | (simp only [go_sem, seval]; done) | (simp only [go_sem, seval]; exact rfl)) (by first | exact rfl | (simp only [go_sem, seval]; done) | (simp only [go_sem, seval]; exact rfl)) rfl (by first | exact rfl | (simp only [go_sem, seval]; done) | (simp only [go_sem, seval]; exact rfl)))) ?_
  rintro i ⟨hi, hm⟩
  have lp : (putT (l.take i)).length ≤ 300000 := by rw [putT_len, List.length_take]; omega
  by_cases hlt : i < l.length
  · obtain ⟨t, _, hs, hg⟩ := elem_at hlt
    by_cases ht : mayT t
    · repeat' (first | (with_reducible exact trivial) | simp (maxSteps := 2000000) (disch := omega) only [List.length_map, hg, tP, ht, wrapU8, bin_or8, u8_to, by2_nil, by2_cons, set_by1, bys_length, bys_cat, Int.toNat_natCast, go_sem, seval] | ((with_reducible refine isS ?_); first | refine sh_call (gCheck t) [] (by (repeat' (first | exact rfl | exact trivial | exact le_nbys | refine ⟨?_, ?_⟩ | fail)); first | done | fail) trivial rfl (by (repeat' (first | exact trivial | exact .inr rfl | refine ⟨?_, ?_⟩ | fail)); first | done | fail) ?_ | refine sh_call (gMark _ _) [] (by (repeat' (first | exact rfl | exact trivial | exact le_nbys | refine ⟨?_, ?_⟩ | fail)); first | done | fail) trivial rfl (by (repeat' (first | exact trivial | exact .inr rfl | refine ⟨?_, ?_⟩ | fail)); first | done | fail) ?_ | fail) | ((with_reducible refine isT ?_); first | refine sh_callT (gCheck t) [] (by (repeat' (first | exact rfl | exact trivial | exact le_nbys | refine ⟨?_, ?_⟩ | fail)); first | done | fail) trivial rfl (by (repeat' (first | exact trivial | exact .inr rfl | refine ⟨?_, ?_⟩ | fail)); first | done | fail) ?_ | refine sh_callT (gMark _ _) [] (by (repeat' (first | exact rfl | exact trivial | exact le_nbys | refine ⟨?_, ?_⟩ | fail)); first | done | fail) trivial rfl (by (repeat' (first | exact trivial | exact .inr rfl | refine ⟨?_, ?_⟩ | fail)); first | done | fail) ?_ | fail) | ((with_reducible refine isI ?_ ?_); (kernel_rfl)) | fail)
      exact ⟨i + 1, by omega, ⟨by omega, by rw [hs]; simp only [List.mem_append, List.mem_singleton]; exact fun x hx => hx.elim (hm x) (fun e => e ▸ ht)⟩, (sh_weakA (by first | exact rfl | (simp only [go_sem, seval]; exact rfl) | (simp only [go_sem, seval]; done)) (by (repeat' (first | exact trivial | exact rfl | refine le_int ?_ | refine le_bool ?_ | refine le_str ?_ | refine le_sl ?_ | refine le_own ?_ | refine le_osl ?_ | refine le_nsl ?_ | refine ⟨_, rfl, ?_⟩ | refine ⟨?_, ?_⟩ | ((rw [hs, putT_snoc, mk]); done) | fail)); first | done | fail) (by (repeat' (first | exact trivial | exact rfl | refine le_int ?_ | refine le_bool ?_ | refine le_str ?_ | refine le_sl ?_ | refine le_own ?_ | refine le_osl ?_ | refine le_nsl ?_ | refine ⟨_, rfl, ?_⟩ | refine ⟨?_, ?_⟩ | ((rw [hs, putT_snoc, mk]); done) | fail)); first | done | fail) rfl (by first | exact rfl | (simp only [go_sem, seval]; done) | (simp only [go_sem, seval]; exact rfl)) (by first | exact rfl | (simp only [go_sem, seval]; done) | (simp only [go_sem, seval]; exact rfl)) rfl (by first | exact rfl | (simp only [go_sem, seval]; done) | (simp only [go_sem, seval]; exact rfl)))⟩
    · repeat' (first | (with_reducible exact trivial) | simp (maxSteps := 2000000) (disch := omega) only [List.length_map, Int.toNat_natCast, hg, tP, ht, go_sem, seval] | ((with_reducible refine isS ?_); first | refine sh_call (gCheck t) [] (by (repeat' (first | exact rfl | exact trivial | exact le_nbys | refine ⟨?_, ?_⟩ | fail)); first | done | fail) trivial rfl (by (repeat' (first | exact trivial | exact .inr rfl | refine ⟨?_, ?_⟩ | fail)); first | done | fail) ?_ | refine sh_call (gMark _ _) [] (by (repeat' (first | exact rfl | exact trivial | exact le_nbys | refine ⟨?_, ?_⟩ | fail)); first | done | fail) trivial rfl (by (repeat' (first | exact trivial | exact .inr rfl | refine ⟨?_, ?_⟩ | fail)); first | done | fail) ?_ | fail) | ((with_reducible refine isT ?_); first | refine sh_callT (gCheck t) [] (by (repeat' (first | exact rfl | exact trivial | exact le_nbys | refine ⟨?_, ?_⟩ | fail)); first | done | fail) trivial rfl (by (repeat' (first | exact trivial | exact .inr rfl | refine ⟨?_, ?_⟩ | fail)); first | done | fail) ?_ | refine sh_callT (gMark _ _) [] (by (repeat' (first | exact rfl | exact trivial | exact le_nbys | refine ⟨?_, ?_⟩ | fail)); first | done | fail) trivial rfl (by (repeat' (first | exact trivial | exact .inr rfl | refine ⟨?_, ?_⟩ | fail)); first | done | fail) ?_ | fail) | ((with_reducible refine isE ?_); refine endA (by first | exact rfl | (simp only [go_sem, seval]; exact rfl) | (simp only [go_sem, seval]; done)) ?_ (by (repeat' (first | exact trivial | exact rfl | refine ⟨_, rfl, ?_⟩ | refine ⟨?_, ?_⟩ | fail)); first | done | fail) rfl rfl; (repeat' (first | exact trivial | refine le_int ?_ | refine le_bool ?_ | refine le_str ?_ | refine le_sl ?_ | refine le_own ?_ | refine le_osl ?_ | refine le_nsl ?_ | exact rfl | refine ⟨?_, ?_⟩ | fail))) | ((with_reducible refine isI ?_ ?_); (kernel_rfl)) | fail)
  · exact absurd (by rw [List.take_of_length_le (by omega)] at hm; exact hm) h
end Go.Proofs.YtaopaggmhleeoaaDoor

/- Layer 7: get, and whether two rows are the same. Own work. -/
namespace Go.Proofs.YtaopaggmhleeoaaDoor
open Go Go.Shade
variable {Γ : Globs}
theorem getT_mod : ∀ {b : List UInt8} {l : List T3}, getT b = some l → b.length = 3 * l.length
  | [], l, h => by simp [getT] at h; subst h; rfl
  | [a], l, h => by simp [getT] at h
  | [a, m], l, h => by simp [getT] at h
  | a :: m :: v :: r, l, h => by
    rw [getT] at h
    split at h
    · obtain ⟨l', h1, rfl⟩ := Option.map_eq_some_iff.1 h
      have := getT_mod h1
      simp only [List.length_cons] at this ⊢
      omega
    · cases h
def trip (a m v : UInt8) : T3 := ⟨a.toNat, ((m &&& 3).toNat : Int), decide (¬ (m &&& 128 = 0)), decide (¬ (m &&& 64 = 0)), decide (¬ (m &&& 32 = 0)), v⟩
theorem getT_cons (a m v : UInt8) (r : List UInt8) : getT (a :: m :: v :: r) = if m &&& 28 = 0 then (getT r).map (trip a m v :: ·) else none := rfl
theorem three_of {r : List UInt8} (h : r.length % 3 = 0) (h0 : 0 < r.length) : ∃ a m v r', r = a :: m :: v :: r' := by
  match r, h, h0 with
  | a :: m :: v :: r', _, _ => exact ⟨a, m, v, r', rfl⟩
  | [_], h, _ => simp at h
  | [_, _], h, _ => simp at h
theorem o28 : u8 28 = 28 := by decide
theorem o3 : u8 3 = 3 := by decide
theorem o128 : u8 128 = 128 := by decide
theorem o64 : u8 64 = 64 := by decide
theorem o32 : u8 32 = 32 := by decide
set_option maxHeartbeats 4000000 in
theorem gGetOk (b : List UInt8) (l : List T3) (h : getT b = some l) (hb : b.length ≤ 100000) : Good Tryd.prog Γ 36 [.sl 1 (bys b)] [] (.ret (.tup [.sl 6 (l.map tP), .int .i64 0])) [] := by
  have hm := getT_mod h
  have hz : ((b.length : Int) % 3) = 0 := by omega
  refine sh_start mixed F36 rfl ⟨(by first | exact rfl | (simp only [go_sem, seval]; done) | (simp only [go_sem, seval]; exact rfl)), (by first | exact rfl | (simp only [go_sem, seval]; done) | (simp only [go_sem, seval]; exact rfl)), (by first | exact rfl | (simp only [go_sem, seval]; done) | (simp only [go_sem, seval]; exact rfl)), (by first | exact rfl | (simp only [go_sem, seval]; done) | (simp only [go_sem, seval]; exact rfl)), (by first | exact rfl | (simp only [go_sem, seval]; done) | (simp only [go_sem, seval]; exact rfl))⟩ ?_
  repeat' (first | (with_reducible exact trivial) | simp (maxSteps := 2000000) (disch := omega) only [bys_length, bin_rem, tmod_pos, hz, go_sem, seval] | ((with_reducible refine isI ?_ ?_); (kernel_rfl)) | fail)
  refine sh_loopX mixed (fun x : List UInt8 × List T3 => ([(0, .sl 1 (bys x.1)), (4, .own 0 6 (x.2.map tP))], [(0, .tok)])) (fun x => x.1.length) (fun x => getT b = (getT x.1).map (x.2 ++ ·) ∧ x.1.length % 3 = 0 ∧ x.2.length ≤ 100000 ∧ x.1.length + x.2.length ≤ b.length) (b, []) (by simp; omega)
    (weakG_nil 4 0 6 rfl rfl (sh_weakA (by first | exact rfl | (simp only [go_sem, seval]; exact rfl) | (simp only [go_sem, seval]; done)) (by (repeat' (first | exact trivial | exact rfl | refine le_int ?_ | refine le_bool ?_ | refine le_str ?_ | refine le_sl ?_ | refine le_own ?_ | refine le_osl ?_ | refine le_nsl ?_ | refine ⟨_, rfl, ?_⟩ | refine ⟨?_, ?_⟩ | fail)); first | done | fail) (by (repeat' (first | exact trivial | exact rfl | refine le_int ?_ | refine le_bool ?_ | refine le_str ?_ | refine le_sl ?_ | refine le_own ?_ | refine le_osl ?_ | refine le_nsl ?_ | refine ⟨_, rfl, ?_⟩ | refine ⟨?_, ?_⟩ | fail)); first | done | fail) rfl (by first | exact rfl | (simp only [go_sem, seval]; done) | (simp only [go_sem, seval]; exact rfl)) (by first | exact rfl | (simp only [go_sem, seval]; done) | (simp only [go_sem, seval]; exact rfl)) rfl (by first | exact rfl | (simp only [go_sem, seval]; done) | (simp only [go_sem, seval]; exact rfl)))) ?_
  rintro ⟨r, acc⟩ ⟨hg, hr, ha, hs⟩
  by_cases h0 : 0 < r.length
  · obtain ⟨a, m, v, r', rfl⟩ := three_of hr h0
    rw [getT_cons] at hg
    simp only [List.length_cons] at hr hs
    by_cases hmm : m &&& 28 = 0
    · rw [if_pos hmm] at hg
      repeat' (first | (with_reducible exact trivial) | simp (maxSteps := 2000000) (disch := omega) only [List.length_map, List.length_cons, bys_getD, bys_take, bys_drop, List.take_length, List.take_succ_cons, List.drop_succ_cons, wrap64_u, bin_and8, u8_to, bys_length, bys_get0, bys_gets, and0, bys_get0, bys_gets, o28, o3, o128, o64, o32, hmm, go_sem, seval] | ((with_reducible refine isI ?_ ?_); (kernel_rfl)) | fail)
      exact ⟨(r', acc ++ [trip a m v]), by simp only [List.length_cons]; omega, ⟨by rw [hg, Option.map_map]; congr 1; funext z; simp, by simp only; omega, by simp; omega, by simp; omega⟩, (sh_weakA (by first | exact rfl | (simp only [go_sem, seval]; exact rfl) | (simp only [go_sem, seval]; done)) (by (repeat' (first | exact trivial | exact rfl | refine le_int ?_ | refine le_bool ?_ | refine le_str ?_ | refine le_sl ?_ | refine le_own ?_ | refine le_osl ?_ | refine le_nsl ?_ | refine ⟨_, rfl, ?_⟩ | refine ⟨?_, ?_⟩ | ((simp [tP, trip]); done) | fail)); first | done | fail) (by (repeat' (first | exact trivial | exact rfl | refine le_int ?_ | refine le_bool ?_ | refine le_str ?_ | refine le_sl ?_ | refine le_own ?_ | refine le_osl ?_ | refine le_nsl ?_ | refine ⟨_, rfl, ?_⟩ | refine ⟨?_, ?_⟩ | ((simp [tP, trip]); done) | fail)); first | done | fail) rfl (by first | exact rfl | (simp only [go_sem, seval]; done) | (simp only [go_sem, seval]; exact rfl)) (by first | exact rfl | (simp only [go_sem, seval]; done) | (simp only [go_sem, seval]; exact rfl)) rfl (by first | exact rfl | (simp only [go_sem, seval]; done) | (simp only [go_sem, seval]; exact rfl)))⟩
    · rw [if_neg hmm] at hg
      rw [hg] at h
      cases h
  · have e : r = [] := List.eq_nil_of_length_eq_zero (by omega)
    subst e
    have e : acc = l := by rw [h] at hg; simpa [getT] using hg.symm
    subst e
    repeat' (first | (with_reducible exact trivial) | simp (maxSteps := 2000000) (disch := omega) only [List.length_nil, go_sem, seval] | ((with_reducible refine isE ?_); refine endA (by first | exact rfl | (simp only [go_sem, seval]; exact rfl) | (simp only [go_sem, seval]; done)) ?_ (by (repeat' (first | exact trivial | exact rfl | refine ⟨_, rfl, ?_⟩ | refine ⟨?_, ?_⟩ | fail)); first | done | fail) rfl rfl; (repeat' (first | exact trivial | refine le_int ?_ | refine le_bool ?_ | refine le_str ?_ | refine le_sl ?_ | refine le_own ?_ | refine le_osl ?_ | refine le_nsl ?_ | exact rfl | refine ⟨?_, ?_⟩ | fail))) | ((with_reducible refine isI ?_ ?_); (kernel_rfl)) | fail)
set_option maxHeartbeats 4000000 in
theorem gGetNo (b : List UInt8) (h : getT b = none) (hb : b.length ≤ 100000) : Good Tryd.prog Γ 36 [.sl 1 (bys b)] [] (.ret (.tup [.sl 6 [], .int .i64 2])) [] := by
  refine sh_start mixed F36 rfl ⟨(by first | exact rfl | (simp only [go_sem, seval]; done) | (simp only [go_sem, seval]; exact rfl)), (by first | exact rfl | (simp only [go_sem, seval]; done) | (simp only [go_sem, seval]; exact rfl)), (by first | exact rfl | (simp only [go_sem, seval]; done) | (simp only [go_sem, seval]; exact rfl)), (by first | exact rfl | (simp only [go_sem, seval]; done) | (simp only [go_sem, seval]; exact rfl)), (by first | exact rfl | (simp only [go_sem, seval]; done) | (simp only [go_sem, seval]; exact rfl))⟩ ?_
  by_cases hz : ((b.length : Int) % 3) = 0
  · repeat' (first | (with_reducible exact trivial) | simp (maxSteps := 2000000) (disch := omega) only [bys_length, bin_rem, tmod_pos, hz, go_sem, seval] | ((with_reducible refine isI ?_ ?_); (kernel_rfl)) | fail)
    refine sh_loopX mixed (fun x : List UInt8 × List T3 => ([(0, .sl 1 (bys x.1)), (4, .own 0 6 (x.2.map tP))], [(0, .tok)])) (fun x => x.1.length) (fun x => getT b = (getT x.1).map (x.2 ++ ·) ∧ x.1.length % 3 = 0 ∧ x.2.length ≤ 100000 ∧ x.1.length + x.2.length ≤ b.length) (b, []) (by simp; omega)
      (weakG_nil 4 0 6 rfl rfl (sh_weakA (by first | exact rfl | (simp only [go_sem, seval]; exact rfl) | (simp only [go_sem, seval]; done)) (by (repeat' (first | exact trivial | exact rfl | refine le_int ?_ | refine le_bool ?_ | refine le_str ?_ | refine le_sl ?_ | refine le_own ?_ | refine le_osl ?_ | refine le_nsl ?_ | refine ⟨_, rfl, ?_⟩ | refine ⟨?_, ?_⟩ | fail)); first | done | fail) (by (repeat' (first | exact trivial | exact rfl | refine le_int ?_ | refine le_bool ?_ | refine le_str ?_ | refine le_sl ?_ | refine le_own ?_ | refine le_osl ?_ | refine le_nsl ?_ | refine ⟨_, rfl, ?_⟩ | refine ⟨?_, ?_⟩ | fail)); first | done | fail) rfl (by first | exact rfl | (simp only [go_sem, seval]; done) | (simp only [go_sem, seval]; exact rfl)) (by first | exact rfl | (simp only [go_sem, seval]; done) | (simp only [go_sem, seval]; exact rfl)) rfl (by first | exact rfl | (simp only [go_sem, seval]; done) | (simp only [go_sem, seval]; exact rfl)))) ?_
    rintro ⟨r, acc⟩ ⟨hg, hr, ha, hs⟩
    by_cases h0 : 0 < r.length
    · obtain ⟨a, m, v, r', rfl⟩ := three_of hr h0
      rw [getT_cons] at hg
      simp only [List.length_cons] at hr hs
      by_cases hmm : m &&& 28 = 0
      · rw [if_pos hmm] at hg
        repeat' (first | (with_reducible exact trivial) | simp (maxSteps := 2000000) (disch := omega) only [List.length_map, List.length_cons, bys_getD, bys_take, bys_drop, List.take_length, List.take_succ_cons, List.drop_succ_cons, wrap64_u, bin_and8, u8_to, bys_length, bys_get0, bys_gets, and0, bys_get0, bys_gets, o28, o3, o128, o64, o32, hmm, go_sem, seval] | ((with_reducible refine isI ?_ ?_); (kernel_rfl)) | fail)
        exact ⟨(r', acc ++ [trip a m v]), by simp only [List.length_cons]; omega, ⟨by rw [hg, Option.map_map]; congr 1; funext z; simp, by simp only; omega, by simp; omega, by simp; omega⟩, (sh_weakA (by first | exact rfl | (simp only [go_sem, seval]; exact rfl) | (simp only [go_sem, seval]; done)) (by (repeat' (first | exact trivial | exact rfl | refine le_int ?_ | refine le_bool ?_ | refine le_str ?_ | refine le_sl ?_ | refine le_own ?_ | refine le_osl ?_ | refine le_nsl ?_ | refine ⟨_, rfl, ?_⟩ | refine ⟨?_, ?_⟩ | ((simp [tP, trip]); done) | fail)); first | done | fail) (by (repeat' (first | exact trivial | exact rfl | refine le_int ?_ | refine le_bool ?_ | refine le_str ?_ | refine le_sl ?_ | refine le_own ?_ | refine le_osl ?_ | refine le_nsl ?_ | refine ⟨_, rfl, ?_⟩ | refine ⟨?_, ?_⟩ | ((simp [tP, trip]); done) | fail)); first | done | fail) rfl (by first | exact rfl | (simp only [go_sem, seval]; done) | (simp only [go_sem, seval]; exact rfl)) (by first | exact rfl | (simp only [go_sem, seval]; done) | (simp only [go_sem, seval]; exact rfl)) rfl (by first | exact rfl | (simp only [go_sem, seval]; done) | (simp only [go_sem, seval]; exact rfl)))⟩
      · repeat' (first | (with_reducible exact trivial) | simp (maxSteps := 2000000) (disch := omega) only [List.length_cons, bin_and8, u8_to, bys_length, bys_get0, bys_gets, and0, bys_get0, bys_gets, o28, hmm, go_sem, seval] | ((with_reducible refine isE ?_); refine endA (by first | exact rfl | (simp only [go_sem, seval]; exact rfl) | (simp only [go_sem, seval]; done)) ?_ (by (repeat' (first | exact trivial | exact rfl | refine ⟨_, rfl, ?_⟩ | refine ⟨?_, ?_⟩ | fail)); first | done | fail) rfl rfl; (repeat' (first | exact trivial | refine le_int ?_ | refine le_bool ?_ | refine le_str ?_ | refine le_sl ?_ | refine le_own ?_ | refine le_osl ?_ | refine le_nsl ?_ | exact rfl | refine ⟨?_, ?_⟩ | fail))) | ((with_reducible refine isI ?_ ?_); (kernel_rfl)) | fail)
    · have e : r = [] := List.eq_nil_of_length_eq_zero (by omega)
      subst e
      rw [h] at hg
      simp [getT] at hg
  · repeat' (first | (with_reducible exact trivial) | simp (maxSteps := 2000000) (disch := omega) only [bys_length, bin_rem, tmod_pos, hz, go_sem, seval] | ((with_reducible refine isE ?_); refine endA (by first | exact rfl | (simp only [go_sem, seval]; exact rfl) | (simp only [go_sem, seval]; done)) ?_ (by (repeat' (first | exact trivial | exact rfl | refine ⟨_, rfl, ?_⟩ | refine ⟨?_, ?_⟩ | fail)); first | done | fail) rfl rfl; (repeat' (first | exact trivial | refine le_int ?_ | refine le_bool ?_ | refine le_str ?_ | refine le_sl ?_ | refine le_own ?_ | refine le_osl ?_ | refine le_nsl ?_ | exact rfl | refine ⟨?_, ?_⟩ | fail))) | ((with_reducible refine isI ?_ ?_); (kernel_rfl)) | fail)
end Go.Proofs.YtaopaggmhleeoaaDoor

/- Layer 7: the document's own put and get, whether two rows are the same, signals. Own work. -/
namespace Go.Proofs.YtaopaggmhleeoaaDoor
open Go Go.Shade
variable {Γ : Globs}
theorem all8 {p : UInt8 → Prop} (h : ∀ n, n < 256 → p (UInt8.ofNat n)) (m : UInt8) : p m := by
  have := h m.toNat m.toNat_lt
  rwa [UInt8.ofNat_toNat] at this
theorem bits (m : UInt8) : ((((m.toNat : Nat) : Int) / 4 % 8 = 0) = (m &&& 28 = 0)) ∧ ((m.toNat : Int) % 4 = ((m &&& 3).toNat : Nat)) ∧ (((m.toNat : Int) / 128 = 1) = ¬ (m &&& 128 = 0)) ∧ (((m.toNat : Int) / 64 % 2 = 1) = ¬ (m &&& 64 = 0)) ∧ (((m.toNat : Int) / 32 % 2 = 1) = ¬ (m &&& 32 = 0)) := by
  have : ∀ n, n < 256 → (((((UInt8.ofNat n).toNat : Nat) : Int) / 4 % 8 = 0 ↔ (UInt8.ofNat n) &&& 28 = 0)) ∧ (((UInt8.ofNat n).toNat : Int) % 4 = (((UInt8.ofNat n) &&& 3).toNat : Nat)) ∧ ((((UInt8.ofNat n).toNat : Int) / 128 = 1 ↔ ¬ ((UInt8.ofNat n) &&& 128 = 0))) ∧ (((((UInt8.ofNat n).toNat : Int) / 64 % 2 = 1) ↔ ¬ ((UInt8.ofNat n) &&& 64 = 0))) ∧ ((((UInt8.ofNat n).toNat : Int) / 32 % 2 = 1) ↔ ¬ ((UInt8.ofNat n) &&& 32 = 0)) := by decide +kernel
  obtain ⟨h1, h2, h3, h4, h5⟩ := all8 (p := fun m => ((((m.toNat : Nat) : Int) / 4 % 8 = 0 ↔ m &&& 28 = 0)) ∧ ((m.toNat : Int) % 4 = ((m &&& 3).toNat : Nat)) ∧ (((m.toNat : Int) / 128 = 1 ↔ ¬ (m &&& 128 = 0))) ∧ ((((m.toNat : Int) / 64 % 2 = 1) ↔ ¬ (m &&& 64 = 0))) ∧ (((m.toNat : Int) / 32 % 2 = 1) ↔ ¬ (m &&& 32 = 0))) this m
  exact ⟨propext h1, h2, propext h3, propext h4, propext h5⟩
theorem mk_sum (t : T3) (h : mayT t) : u8 (t.level + (if t.ack = true then 128 else 0) + (if t.inn = true then 64 else 0) + (if t.out = true then 32 else 0)) = mk t := by
  obtain ⟨f, l, a, i, o, v⟩ := t
  obtain ⟨_, _, h1, h2⟩ := h
  simp only at h1 h2
  have : l = 0 ∨ l = 1 ∨ l = 2 ∨ l = 3 := by omega
  rcases this with rfl | rfl | rfl | rfl <;> cases a <;> cases i <;> cases o <;> simp only [mk, if_true, Bool.false_eq_true, if_false] <;> decide
set_option maxHeartbeats 4000000 in
theorem gRPutOk (l : List T3) (h : ∀ t ∈ l, mayT t) (hl : l.length ≤ 100000) : Good Tryd.prog Γ 26 [.sl 6 (l.map tP)] [] (.ret (.tup [.sl 1 (bys (putT l)), .bool true])) [] := by
  refine sh_start mixed F26 rfl ⟨(by first | exact rfl | (simp only [go_sem, seval]; done) | (simp only [go_sem, seval]; exact rfl)), (by first | exact rfl | (simp only [go_sem, seval]; done) | (simp only [go_sem, seval]; exact rfl)), (by first | exact rfl | (simp only [go_sem, seval]; done) | (simp only [go_sem, seval]; exact rfl)), (by first | exact rfl | (simp only [go_sem, seval]; done) | (simp only [go_sem, seval]; exact rfl)), (by first | exact rfl | (simp only [go_sem, seval]; done) | (simp only [go_sem, seval]; exact rfl))⟩ ?_
  repeat' (first | (with_reducible exact trivial) | simp (maxSteps := 2000000) (disch := omega) only [go_sem, seval] | ((with_reducible refine isI ?_ ?_); (kernel_rfl)) | fail)
  refine sh_loopX mixed (fun i : Nat => ([(0, .sl 6 (l.map tP)), (4, .own 0 1 (bys (putT (l.take i)))), (5, .int .i64 i)], [(0, .tok)])) (fun i => l.length - i) (fun i => i ≤ l.length) 0 (by omega)
    (weakG_nil 4 0 1 rfl rfl (sh_weakA (by first | exact rfl | (simp only [go_sem, seval]; exact rfl) | (simp only [go_sem, seval]; done)) (by (repeat' (first | exact trivial | exact rfl | refine le_int ?_ | refine le_bool ?_ | refine le_str ?_ | refine le_sl ?_ | refine le_own ?_ | refine le_osl ?_ | refine le_nsl ?_ | refine ⟨_, rfl, ?_⟩ | refine ⟨?_, ?_⟩ | fail)); first | done | fail) (by (repeat' (first | exact trivial | exact rfl | refine le_int ?_ | refine le_bool ?_ | refine le_str ?_ | refine le_sl ?_ | refine le_own ?_ | refine le_osl ?_ | refine le_nsl ?_ | refine ⟨_, rfl, ?_⟩ | refine ⟨?_, ?_⟩ | fail)); first | done | fail) rfl (by first | exact rfl | (simp only [go_sem, seval]; done) | (simp only [go_sem, seval]; exact rfl)) (by first | exact rfl | (simp only [go_sem, seval]; done) | (simp only [go_sem, seval]; exact rfl)) rfl (by first | exact rfl | (simp only [go_sem, seval]; done) | (simp only [go_sem, seval]; exact rfl)))) ?_
  intro i hi
  have lp : (putT (l.take i)).length ≤ 300000 := by rw [putT_len, List.length_take]; omega
  by_cases hlt : i < l.length
  · obtain ⟨t, ht, hs, hg⟩ := elem_at hlt
    have ht := h t ht
    obtain ⟨_, _, t3, t4⟩ := id ht
    have hmk := mk_sum t ht
    rcases t with ⟨f, lv, _ | _, _ | _, _ | _, v⟩
    all_goals
      simp only [Bool.false_eq_true, if_false, if_true, Int.add_zero] at hmk t3 t4
      repeat' (first | (with_reducible exact trivial) | simp (maxSteps := 2000000) (disch := omega) only [List.length_map, hg, tP, ht, wrapU8, by2_nil, by2_cons, set_by1, bys_length, bys_cat, Int.toNat_natCast, go_sem, seval] | ((with_reducible refine isS ?_); first | refine sh_call (gMay ⟨f, lv, _, _, _, v⟩) [] (by (repeat' (first | exact rfl | exact trivial | exact le_nbys | refine ⟨?_, ?_⟩ | fail)); first | done | fail) trivial rfl (by (repeat' (first | exact trivial | exact .inr rfl | refine ⟨?_, ?_⟩ | fail)); first | done | fail) ?_ | fail) | ((with_reducible refine isT ?_); first | refine sh_callT (gMay ⟨f, lv, _, _, _, v⟩) [] (by (repeat' (first | exact rfl | exact trivial | exact le_nbys | refine ⟨?_, ?_⟩ | fail)); first | done | fail) trivial rfl (by (repeat' (first | exact trivial | exact .inr rfl | refine ⟨?_, ?_⟩ | fail)); first | done | fail) ?_ | fail) | ((with_reducible refine isI ?_ ?_); (kernel_rfl)) | fail)
      exact ⟨i + 1, by omega, by omega, (sh_weakA (by first | exact rfl | (simp only [go_sem, seval]; exact rfl) | (simp only [go_sem, seval]; done)) (by (repeat' (first | exact trivial | exact rfl | refine le_int ?_ | refine le_bool ?_ | refine le_str ?_ | refine le_sl ?_ | refine le_own ?_ | refine le_osl ?_ | refine le_nsl ?_ | refine ⟨_, rfl, ?_⟩ | refine ⟨?_, ?_⟩ | ((rw [hs, putT_snoc, ← hmk]); done) | fail)); first | done | fail) (by (repeat' (first | exact trivial | exact rfl | refine le_int ?_ | refine le_bool ?_ | refine le_str ?_ | refine le_sl ?_ | refine le_own ?_ | refine le_osl ?_ | refine le_nsl ?_ | refine ⟨_, rfl, ?_⟩ | refine ⟨?_, ?_⟩ | ((rw [hs, putT_snoc, ← hmk]); done) | fail)); first | done | fail) rfl (by first | exact rfl | (simp only [go_sem, seval]; done) | (simp only [go_sem, seval]; exact rfl)) (by first | exact rfl | (simp only [go_sem, seval]; done) | (simp only [go_sem, seval]; exact rfl)) rfl (by first | exact rfl | (simp only [go_sem, seval]; done) | (simp only [go_sem, seval]; exact rfl)))⟩
  · repeat' (first | (with_reducible exact trivial) | simp (maxSteps := 2000000) (disch := omega) only [List.length_map, go_sem, seval] | ((with_reducible refine isE ?_); refine endA (by first | exact rfl | (simp only [go_sem, seval]; exact rfl) | (simp only [go_sem, seval]; done)) ?_ (by (repeat' (first | exact trivial | exact rfl | refine ⟨_, rfl, ?_⟩ | refine ⟨?_, ?_⟩ | fail)); first | done | fail) rfl rfl; (repeat' (first | exact trivial | refine le_int ?_ | refine le_bool ?_ | refine le_str ?_ | refine le_sl ?_ | refine le_own ?_ | refine le_osl ?_ | refine le_nsl ?_ | exact rfl | (rw [List.take_of_length_le (by omega)]; done) | refine ⟨?_, ?_⟩ | fail))) | ((with_reducible refine isI ?_ ?_); (kernel_rfl)) | fail)
set_option maxHeartbeats 4000000 in
theorem gRPutNo (l : List T3) (h : ¬ ∀ t ∈ l, mayT t) (hl : l.length ≤ 100000) : Good Tryd.prog Γ 26 [.sl 6 (l.map tP)] [] (.ret (.tup [.sl 1 [], .bool false])) [] := by
  refine sh_start mixed F26 rfl ⟨(by first | exact rfl | (simp only [go_sem, seval]; done) | (simp only [go_sem, seval]; exact rfl)), (by first | exact rfl | (simp only [go_sem, seval]; done) | (simp only [go_sem, seval]; exact rfl)), (by first | exact rfl | (simp only [go_sem, seval]; done) | (simp only [go_sem, seval]; exact rfl)), (by first | exact rfl | (simp only [go_sem, seval]; done) | (simp only [go_sem, seval]; exact rfl)), (by first | exact rfl | (simp only [go_sem, seval]; done) | (simp only [go_sem, seval]; exact rfl))⟩ ?_
  repeat' (first | (with_reducible exact trivial) | simp (maxSteps := 2000000) (disch := omega) only [go_sem, seval] | ((with_reducible refine isI ?_ ?_); (kernel_rfl)) | fail)
  refine sh_loopX mixed (fun i : Nat => ([(0, .sl 6 (l.map tP)), (4, .own 0 1 (bys (putT (l.take i)))), (5, .int .i64 i)], [(0, .tok)])) (fun i => l.length - i) (fun i => i ≤ l.length ∧ ∀ t ∈ l.take i, mayT t) 0 (by simp)
    (weakG_nil 4 0 1 rfl rfl (sh_weakA (by first | exact rfl | (simp only [go_sem, seval]; exact rfl) | (simp only [go_sem, seval]; done)) (by (repeat' (first | exact trivial | exact rfl | refine le_int ?_ | refine le_bool ?_ | refine le_str ?_ | refine le_sl ?_ | refine le_own ?_ | refine le_osl ?_ | refine le_nsl ?_ | refine ⟨_, rfl, ?_⟩ | refine ⟨?_, ?_⟩ | fail)); first | done | fail) (by (repeat' (first | exact trivial | exact rfl | refine le_int ?_ | refine le_bool ?_ | refine le_str ?_ | refine le_sl ?_ | refine le_own ?_ | refine le_osl ?_ | refine le_nsl ?_ | refine ⟨_, rfl, ?_⟩ | refine ⟨?_, ?_⟩ | fail)); first | done | fail) rfl (by first | exact rfl | (simp only [go_sem, seval]; done) | (simp only [go_sem, seval]; exact rfl)) (by first | exact rfl | (simp only [go_sem, seval]; done) | (simp only [go_sem, seval]; exact rfl)) rfl (by first | exact rfl | (simp only [go_sem, seval]; done) | (simp only [go_sem, seval]; exact rfl)))) ?_
  rintro i ⟨hi, hm⟩
  have lp : (putT (l.take i)).length ≤ 300000 := by rw [putT_len, List.length_take]; omega
  by_cases hlt : i < l.length
  · obtain ⟨t, _, hs, hg⟩ := elem_at hlt
    by_cases ht : mayT t
    · obtain ⟨_, _, t3, t4⟩ := id ht
      have hmk := mk_sum t ht
      rcases t with ⟨f, lv, _ | _, _ | _, _ | _, v⟩
      all_goals
        simp only [Bool.false_eq_true, if_false, if_true, Int.add_zero] at hmk t3 t4
        repeat' (first | (with_reducible exact trivial) | simp (maxSteps := 2000000) (disch := omega) only [List.length_map, hg, tP, ht, wrapU8, by2_nil, by2_cons, set_by1, bys_length, bys_cat, Int.toNat_natCast, go_sem, seval] | ((with_reducible refine isS ?_); first | refine sh_call (gMay ⟨f, lv, _, _, _, v⟩) [] (by (repeat' (first | exact rfl | exact trivial | exact le_nbys | refine ⟨?_, ?_⟩ | fail)); first | done | fail) trivial rfl (by (repeat' (first | exact trivial | exact .inr rfl | refine ⟨?_, ?_⟩ | fail)); first | done | fail) ?_ | fail) | ((with_reducible refine isT ?_); first | refine sh_callT (gMay ⟨f, lv, _, _, _, v⟩) [] (by (repeat' (first | exact rfl | exact trivial | exact le_nbys | refine ⟨?_, ?_⟩ | fail)); first | done | fail) trivial rfl (by (repeat' (first | exact trivial | exact .inr rfl | refine ⟨?_, ?_⟩ | fail)); first | done | fail) ?_ | fail) | ((with_reducible refine isI ?_ ?_); (kernel_rfl)) | fail)
        exact ⟨i + 1, by omega, ⟨by omega, by rw [hs]; simp only [List.mem_append, List.mem_singleton]; exact fun x hx => hx.elim (hm x) (fun e => e ▸ ht)⟩, (sh_weakA (by first | exact rfl | (simp only [go_sem, seval]; exact rfl) | (simp only [go_sem, seval]; done)) (by (repeat' (first | exact trivial | exact rfl | refine le_int ?_ | refine le_bool ?_ | refine le_str ?_ | refine le_sl ?_ | refine le_own ?_ | refine le_osl ?_ | refine le_nsl ?_ | refine ⟨_, rfl, ?_⟩ | refine ⟨?_, ?_⟩ | ((rw [hs, putT_snoc, ← hmk]); done) | fail)); first | done | fail) (by (repeat' (first | exact trivial | exact rfl | refine le_int ?_ | refine le_bool ?_ | refine le_str ?_ | refine le_sl ?_ | refine le_own ?_ | refine le_osl ?_ | refine le_nsl ?_ | refine ⟨_, rfl, ?_⟩ | refine ⟨?_, ?_⟩ | ((rw [hs, putT_snoc, ← hmk]); done) | fail)); first | done | fail) rfl (by first | exact rfl | (simp only [go_sem, seval]; done) | (simp only [go_sem, seval]; exact rfl)) (by first | exact rfl | (simp only [go_sem, seval]; done) | (simp only [go_sem, seval]; exact rfl)) rfl (by first | exact rfl | (simp only [go_sem, seval]; done) | (simp only [go_sem, seval]; exact rfl)))⟩
    · repeat' (first | (with_reducible exact trivial) | simp (maxSteps := 2000000) (disch := omega) only [List.length_map, Int.toNat_natCast, hg, tP, ht, go_sem, seval] | ((with_reducible refine isS ?_); first | refine sh_call (gMay t) [] (by (repeat' (first | exact rfl | exact trivial | exact le_nbys | refine ⟨?_, ?_⟩ | fail)); first | done | fail) trivial rfl (by (repeat' (first | exact trivial | exact .inr rfl | refine ⟨?_, ?_⟩ | fail)); first | done | fail) ?_ | fail) | ((with_reducible refine isT ?_); first | refine sh_callT (gMay t) [] (by (repeat' (first | exact rfl | exact trivial | exact le_nbys | refine ⟨?_, ?_⟩ | fail)); first | done | fail) trivial rfl (by (repeat' (first | exact trivial | exact .inr rfl | refine ⟨?_, ?_⟩ | fail)); first | done | fail) ?_ | fail) | ((with_reducible refine isE ?_); refine endA (by first | exact rfl | (simp only [go_sem, seval]; exact rfl) | (simp only [go_sem, seval]; done)) ?_ (by (repeat' (first | exact trivial | exact rfl | refine ⟨_, rfl, ?_⟩ | refine ⟨?_, ?_⟩ | fail)); first | done | fail) rfl rfl; (repeat' (first | exact trivial | refine le_int ?_ | refine le_bool ?_ | refine le_str ?_ | refine le_sl ?_ | refine le_own ?_ | refine le_osl ?_ | refine le_nsl ?_ | exact rfl | refine ⟨?_, ?_⟩ | fail))) | ((with_reducible refine isI ?_ ?_); (kernel_rfl)) | fail)
  · exact absurd (by rw [List.take_of_length_le (by omega)] at hm; exact hm) h
end Go.Proofs.YtaopaggmhleeoaaDoor

/- Layer 7: the document's own get, whether two rows are the same, signals. Own work. -/
namespace Go.Proofs.YtaopaggmhleeoaaDoor
open Go Go.Shade
variable {Γ : Globs}
theorem getT_app : ∀ (a b : List UInt8) {l : List T3}, getT a = some l → getT (a ++ b) = (getT b).map (l ++ ·)
  | [], b, l, h => by
    simp [getT] at h; subst h; simp
  | [_], b, l, h => by simp [getT] at h
  | [_, _], b, l, h => by simp [getT] at h
  | x :: m :: v :: r, b, l, h => by
    rw [getT_cons] at h
    split at h
    · rename_i hm
      obtain ⟨l', h1, rfl⟩ := Option.map_eq_some_iff.1 h
      rw [List.cons_append, List.cons_append, List.cons_append, getT_cons, if_pos hm, getT_app r b h1, Option.map_map]
      rfl
    · cases h
set_option maxHeartbeats 8000000 in
theorem gRGetOk (b : List UInt8) (l : List T3) (h : getT b = some l) (hb : b.length ≤ 100000) : Good Tryd.prog Γ 24 [.sl 1 (bys b)] [] (.ret (.tup [.sl 6 (l.map tP), .bool true])) [] := by
  have hlen := getT_mod h
  refine sh_start mixed F24 rfl ⟨(by first | exact rfl | (simp only [go_sem, seval]; done) | (simp only [go_sem, seval]; exact rfl)), (by first | exact rfl | (simp only [go_sem, seval]; done) | (simp only [go_sem, seval]; exact rfl)), (by first | exact rfl | (simp only [go_sem, seval]; done) | (simp only [go_sem, seval]; exact rfl)), (by first | exact rfl | (simp only [go_sem, seval]; done) | (simp only [go_sem, seval]; exact rfl)), (by first | exact rfl | (simp only [go_sem, seval]; done) | (simp only [go_sem, seval]; exact rfl))⟩ ?_
  repeat' (first | (with_reducible exact trivial) | simp (maxSteps := 2000000) (disch := omega) only [go_sem, seval] | ((with_reducible refine isI ?_ ?_); (kernel_rfl)) | fail)
  refine sh_loopX mixed (fun x : Nat × List T3 => ([(0, .sl 1 (bys b)), (4, .own 0 6 (x.2.map tP)), (5, .int .i64 (x.1 : Nat))], [(0, .tok)])) (fun x => b.length - x.1) (fun x => getT b = (getT (b.drop x.1)).map (x.2 ++ ·) ∧ x.1 = 3 * x.2.length ∧ x.1 ≤ b.length) (0, []) (by simp)
    (weakG_nil 4 0 6 rfl rfl (sh_weakA (by first | exact rfl | (simp only [go_sem, seval]; exact rfl) | (simp only [go_sem, seval]; done)) (by (repeat' (first | exact trivial | exact rfl | refine le_int ?_ | refine le_bool ?_ | refine le_str ?_ | refine le_sl ?_ | refine le_own ?_ | refine le_osl ?_ | refine le_nsl ?_ | refine ⟨_, rfl, ?_⟩ | refine ⟨?_, ?_⟩ | fail)); first | done | fail) (by (repeat' (first | exact trivial | exact rfl | refine le_int ?_ | refine le_bool ?_ | refine le_str ?_ | refine le_sl ?_ | refine le_own ?_ | refine le_osl ?_ | refine le_nsl ?_ | refine ⟨_, rfl, ?_⟩ | refine ⟨?_, ?_⟩ | fail)); first | done | fail) rfl (by first | exact rfl | (simp only [go_sem, seval]; done) | (simp only [go_sem, seval]; exact rfl)) (by first | exact rfl | (simp only [go_sem, seval]; done) | (simp only [go_sem, seval]; exact rfl)) rfl (by first | exact rfl | (simp only [go_sem, seval]; done) | (simp only [go_sem, seval]; exact rfl)))) ?_
  rintro ⟨i, acc⟩ ⟨hg, ha, hs⟩
  simp only at hg ha hs
  by_cases h0 : i < b.length
  · obtain ⟨a, m, v, r', hr⟩ := three_of (r := b.drop i) (by rw [List.length_drop]; omega) (by rw [List.length_drop]; omega)
    have hl : (b.drop i).length = r'.length + 3 := by rw [hr]; rfl
    rw [List.length_drop] at hl
    have g0 : (bys b).getD i [] = [.s (.int .u8 a.toNat)] := by rw [bys_getD h0, List.getD_eq_getElem?_getD, ← Nat.add_zero i, ← List.getElem?_drop, hr]; rfl
    have g1 : (bys b).getD (i + 1) [] = [.s (.int .u8 m.toNat)] := by rw [bys_getD (by omega), List.getD_eq_getElem?_getD, ← List.getElem?_drop, hr]; rfl
    have g2 : (bys b).getD (i + 2) [] = [.s (.int .u8 v.toNat)] := by rw [bys_getD (by omega), List.getD_eq_getElem?_getD, ← List.getElem?_drop, hr]; rfl
    have hr' : b.drop (i + 3) = r' := by rw [← List.drop_drop, hr]; rfl
    rw [hr, getT_cons] at hg
    obtain ⟨b1, b2, b3, b4, b5⟩ := bits m
    have hmn := u8_lt m
    have t1 : ((i : Int) + 1).toNat = i + 1 := by omega
    have t2 : ((i : Int) + 2).toNat = i + 2 := by omega
    by_cases hmm : m &&& 28 = 0
    · rw [if_pos hmm] at hg
      repeat' (first | (with_reducible exact trivial) | simp (maxSteps := 2000000) (disch := omega) only [List.length_map, wrap64_u, bys_length, Int.toNat_natCast, g0, g1, g2, t1, t2, bin_rem, bin_quo, tmod_pos, tdiv_pos, b1, b2, b3, b4, b5, hmm, go_sem, seval] | ((with_reducible refine isI ?_ ?_); (kernel_rfl)) | fail)
      exact ⟨(i + 3, acc ++ [trip a m v]), by simp only; omega, ⟨by simp only; rw [hg, hr', Option.map_map]; congr 1; funext z; simp, by simp; omega, by simp only; omega⟩, (sh_weakA (by first | exact rfl | (simp only [go_sem, seval]; exact rfl) | (simp only [go_sem, seval]; done)) (by (repeat' (first | exact trivial | exact rfl | refine le_int ?_ | refine le_bool ?_ | refine le_str ?_ | refine le_sl ?_ | refine le_own ?_ | refine le_osl ?_ | refine le_nsl ?_ | refine ⟨_, rfl, ?_⟩ | refine ⟨?_, ?_⟩ | ((simp [tP, trip]); done) | fail)); first | done | fail) (by (repeat' (first | exact trivial | exact rfl | refine le_int ?_ | refine le_bool ?_ | refine le_str ?_ | refine le_sl ?_ | refine le_own ?_ | refine le_osl ?_ | refine le_nsl ?_ | refine ⟨_, rfl, ?_⟩ | refine ⟨?_, ?_⟩ | ((simp [tP, trip]); done) | fail)); first | done | fail) rfl (by first | exact rfl | (simp only [go_sem, seval]; done) | (simp only [go_sem, seval]; exact rfl)) (by first | exact rfl | (simp only [go_sem, seval]; done) | (simp only [go_sem, seval]; exact rfl)) rfl (by first | exact rfl | (simp only [go_sem, seval]; done) | (simp only [go_sem, seval]; exact rfl)))⟩
    · rw [if_neg hmm] at hg
      rw [hg] at h
      cases h
  · have e : b.drop i = [] := List.drop_eq_nil_of_le (by omega)
    rw [e] at hg
    have e : acc = l := by rw [h] at hg; simpa [getT] using hg.symm
    subst e
    repeat' (first | (with_reducible exact trivial) | simp (maxSteps := 2000000) (disch := omega) only [bys_length, go_sem, seval] | ((with_reducible refine isE ?_); refine endA (by first | exact rfl | (simp only [go_sem, seval]; exact rfl) | (simp only [go_sem, seval]; done)) ?_ (by (repeat' (first | exact trivial | exact rfl | refine ⟨_, rfl, ?_⟩ | refine ⟨?_, ?_⟩ | fail)); first | done | fail) rfl rfl; (repeat' (first | exact trivial | refine le_int ?_ | refine le_bool ?_ | refine le_str ?_ | refine le_sl ?_ | refine le_own ?_ | refine le_osl ?_ | refine le_nsl ?_ | exact rfl | refine ⟨?_, ?_⟩ | fail))) | ((with_reducible refine isI ?_ ?_); (kernel_rfl)) | fail)
set_option maxHeartbeats 8000000 in
theorem gRGetNo (b : List UInt8) (h : getT b = none) (hb : b.length ≤ 100000) : Good Tryd.prog Γ 24 [.sl 1 (bys b)] [] (.ret (.tup [.sl 6 [], .bool false])) [] := by
  refine sh_start mixed F24 rfl ⟨(by first | exact rfl | (simp only [go_sem, seval]; done) | (simp only [go_sem, seval]; exact rfl)), (by first | exact rfl | (simp only [go_sem, seval]; done) | (simp only [go_sem, seval]; exact rfl)), (by first | exact rfl | (simp only [go_sem, seval]; done) | (simp only [go_sem, seval]; exact rfl)), (by first | exact rfl | (simp only [go_sem, seval]; done) | (simp only [go_sem, seval]; exact rfl)), (by first | exact rfl | (simp only [go_sem, seval]; done) | (simp only [go_sem, seval]; exact rfl))⟩ ?_
  repeat' (first | (with_reducible exact trivial) | simp (maxSteps := 2000000) (disch := omega) only [go_sem, seval] | ((with_reducible refine isI ?_ ?_); (kernel_rfl)) | fail)
  refine sh_loopX mixed (fun x : Nat × List T3 => ([(0, .sl 1 (bys b)), (4, .own 0 6 (x.2.map tP)), (5, .int .i64 (x.1 : Nat))], [(0, .tok)])) (fun x => b.length - x.1) (fun x => getT b = (getT (b.drop x.1)).map (x.2 ++ ·) ∧ x.1 = 3 * x.2.length ∧ x.1 ≤ b.length) (0, []) (by simp)
    (weakG_nil 4 0 6 rfl rfl (sh_weakA (by first | exact rfl | (simp only [go_sem, seval]; exact rfl) | (simp only [go_sem, seval]; done)) (by (repeat' (first | exact trivial | exact rfl | refine le_int ?_ | refine le_bool ?_ | refine le_str ?_ | refine le_sl ?_ | refine le_own ?_ | refine le_osl ?_ | refine le_nsl ?_ | refine ⟨_, rfl, ?_⟩ | refine ⟨?_, ?_⟩ | fail)); first | done | fail) (by (repeat' (first | exact trivial | exact rfl | refine le_int ?_ | refine le_bool ?_ | refine le_str ?_ | refine le_sl ?_ | refine le_own ?_ | refine le_osl ?_ | refine le_nsl ?_ | refine ⟨_, rfl, ?_⟩ | refine ⟨?_, ?_⟩ | fail)); first | done | fail) rfl (by first | exact rfl | (simp only [go_sem, seval]; done) | (simp only [go_sem, seval]; exact rfl)) (by first | exact rfl | (simp only [go_sem, seval]; done) | (simp only [go_sem, seval]; exact rfl)) rfl (by first | exact rfl | (simp only [go_sem, seval]; done) | (simp only [go_sem, seval]; exact rfl)))) ?_
  rintro ⟨i, acc⟩ ⟨hg, ha, hs⟩
  simp only at hg ha hs
  by_cases h0 : i < b.length
  · by_cases h3 : i + 3 ≤ b.length
    · obtain ⟨a, m, v, r', hr⟩ : ∃ a m v r', b.drop i = a :: m :: v :: r' := by
        have : 3 ≤ (b.drop i).length := by rw [List.length_drop]; omega
        match hd : b.drop i, this with
        | a :: m :: v :: r', _ => exact ⟨a, m, v, r', rfl⟩
      have g0 : (bys b).getD i [] = [.s (.int .u8 a.toNat)] := by rw [bys_getD h0, List.getD_eq_getElem?_getD, ← Nat.add_zero i, ← List.getElem?_drop, hr]; rfl
      have g1 : (bys b).getD (i + 1) [] = [.s (.int .u8 m.toNat)] := by rw [bys_getD (by omega), List.getD_eq_getElem?_getD, ← List.getElem?_drop, hr]; rfl
      have g2 : (bys b).getD (i + 2) [] = [.s (.int .u8 v.toNat)] := by rw [bys_getD (by omega), List.getD_eq_getElem?_getD, ← List.getElem?_drop, hr]; rfl
      have hr' : b.drop (i + 3) = r' := by rw [← List.drop_drop, hr]; rfl
      rw [hr, getT_cons] at hg
      obtain ⟨b1, b2, b3, b4, b5⟩ := bits m
      have hmn := u8_lt m
      have t1 : ((i : Int) + 1).toNat = i + 1 := by omega
      have t2 : ((i : Int) + 2).toNat = i + 2 := by omega
      by_cases hmm : m &&& 28 = 0
      · rw [if_pos hmm] at hg
        repeat' (first | (with_reducible exact trivial) | simp (maxSteps := 2000000) (disch := omega) only [List.length_map, wrap64_u, bys_length, Int.toNat_natCast, g0, g1, g2, t1, t2, bin_rem, bin_quo, tmod_pos, tdiv_pos, b1, b2, b3, b4, b5, hmm, go_sem, seval] | ((with_reducible refine isI ?_ ?_); (kernel_rfl)) | fail)
        exact ⟨(i + 3, acc ++ [trip a m v]), by simp only; omega, ⟨by simp only; rw [hg, hr', Option.map_map]; congr 1; funext z; simp, by simp; omega, by simp only; omega⟩, (sh_weakA (by first | exact rfl | (simp only [go_sem, seval]; exact rfl) | (simp only [go_sem, seval]; done)) (by (repeat' (first | exact trivial | exact rfl | refine le_int ?_ | refine le_bool ?_ | refine le_str ?_ | refine le_sl ?_ | refine le_own ?_ | refine le_osl ?_ | refine le_nsl ?_ | refine ⟨_, rfl, ?_⟩ | refine ⟨?_, ?_⟩ | ((simp [tP, trip]); done) | fail)); first | done | fail) (by (repeat' (first | exact trivial | exact rfl | refine le_int ?_ | refine le_bool ?_ | refine le_str ?_ | refine le_sl ?_ | refine le_own ?_ | refine le_osl ?_ | refine le_nsl ?_ | refine ⟨_, rfl, ?_⟩ | refine ⟨?_, ?_⟩ | ((simp [tP, trip]); done) | fail)); first | done | fail) rfl (by first | exact rfl | (simp only [go_sem, seval]; done) | (simp only [go_sem, seval]; exact rfl)) (by first | exact rfl | (simp only [go_sem, seval]; done) | (simp only [go_sem, seval]; exact rfl)) rfl (by first | exact rfl | (simp only [go_sem, seval]; done) | (simp only [go_sem, seval]; exact rfl)))⟩
      · repeat' (first | (with_reducible exact trivial) | simp (maxSteps := 2000000) (disch := omega) only [wrap64_u, bys_length, g1, t1, bin_rem, bin_quo, tmod_pos, tdiv_pos, b1, hmm, go_sem, seval] | ((with_reducible refine isE ?_); refine endA (by first | exact rfl | (simp only [go_sem, seval]; exact rfl) | (simp only [go_sem, seval]; done)) ?_ (by (repeat' (first | exact trivial | exact rfl | refine ⟨_, rfl, ?_⟩ | refine ⟨?_, ?_⟩ | fail)); first | done | fail) rfl rfl; (repeat' (first | exact trivial | refine le_int ?_ | refine le_bool ?_ | refine le_str ?_ | refine le_sl ?_ | refine le_own ?_ | refine le_osl ?_ | refine le_nsl ?_ | exact rfl | refine ⟨?_, ?_⟩ | fail))) | ((with_reducible refine isI ?_ ?_); (kernel_rfl)) | fail)
    · repeat' (first | (with_reducible exact trivial) | simp (maxSteps := 2000000) (disch := omega) only [bys_length, go_sem, seval] | ((with_reducible refine isE ?_); refine endA (by first | exact rfl | (simp only [go_sem, seval]; exact rfl) | (simp only [go_sem, seval]; done)) ?_ (by (repeat' (first | exact trivial | exact rfl | refine ⟨_, rfl, ?_⟩ | refine ⟨?_, ?_⟩ | fail)); first | done | fail) rfl rfl; (repeat' (first | exact trivial | refine le_int ?_ | refine le_bool ?_ | refine le_str ?_ | refine le_sl ?_ | refine le_own ?_ | refine le_osl ?_ | refine le_nsl ?_ | exact rfl | refine ⟨?_, ?_⟩ | fail))) | ((with_reducible refine isI ?_ ?_); (kernel_rfl)) | fail)
  · have e : b.drop i = [] := List.drop_eq_nil_of_le (by omega)
    rw [e, h] at hg
    simp [getT] at hg
theorem two_at {a b : List T3} {i : Nat} (hi : i < a.length) (hb : i < b.length) : ∃ t u, (a.map tP).getD i [] = tP t ∧ (b.map tP).getD i [] = tP u ∧ (a.take i = b.take i → (t = u ↔ a.take (i + 1) = b.take (i + 1))) := by
  refine ⟨a[i], b[i], ?_, ?_, fun h => ?_⟩
  · rw [tP_getD hi, List.getD_eq_getElem?_getD, List.getElem?_eq_getElem hi]; rfl
  · rw [tP_getD hb, List.getD_eq_getElem?_getD, List.getElem?_eq_getElem hb]; rfl
  · rw [List.take_succ_eq_append_getElem hi, List.take_succ_eq_append_getElem hb, h]
    exact ⟨fun e => by rw [e], fun e => (List.cons.inj (List.append_cancel_left e)).1⟩
set_option maxHeartbeats 4000000 in
theorem gSame (a b : List T3) (ha : a.length ≤ 1000000) (hb : b.length ≤ 1000000) : Good Tryd.prog Γ 28 [.sl 6 (a.map tP), .sl 6 (b.map tP)] [] (.ret (.bool (decide (a = b)))) [] := by
  refine sh_start mixed F28 rfl ⟨(by first | exact rfl | (simp only [go_sem, seval]; done) | (simp only [go_sem, seval]; exact rfl)), (by first | exact rfl | (simp only [go_sem, seval]; done) | (simp only [go_sem, seval]; exact rfl)), (by first | exact rfl | (simp only [go_sem, seval]; done) | (simp only [go_sem, seval]; exact rfl)), (by first | exact rfl | (simp only [go_sem, seval]; done) | (simp only [go_sem, seval]; exact rfl)), (by first | exact rfl | (simp only [go_sem, seval]; done) | (simp only [go_sem, seval]; exact rfl))⟩ ?_
  by_cases hl : a.length = b.length
  · repeat' (first | (with_reducible exact trivial) | simp (maxSteps := 2000000) (disch := omega) only [List.length_map, hl, go_sem, seval] | ((with_reducible refine isI ?_ ?_); (kernel_rfl)) | fail)
    refine sh_loopX mixed (fun i : Nat => ([(0, .sl 6 (a.map tP)), (1, .sl 6 (b.map tP)), (5, .int .i64 i)], [])) (fun i => a.length - i) (fun i => i ≤ a.length ∧ a.take i = b.take i) 0 (by simp) (weakG_go (weakE_of [] ⟨rfl, rfl, rfl, trivial⟩ trivial rfl rfl rfl rfl rfl)) ?_
    rintro i ⟨hi, he⟩
    by_cases h : i < a.length
    · obtain ⟨t, u, h1, h2, h3⟩ := two_at h (by omega : i < b.length)
      have h3 := h3 he
      by_cases htu : t = u
      · repeat' (first | (with_reducible exact trivial) | simp (maxSteps := 2000000) (disch := omega) only [List.length_map, Int.toNat_natCast, h1, h2, tP, eq_tt, htu, decide_true, go_sem, seval] | ((with_reducible refine isI ?_ ?_); (kernel_rfl)) | fail)
        exact ⟨i + 1, by omega, ⟨by omega, h3.1 htu⟩, (sh_weakA (by first | exact rfl | (simp only [go_sem, seval]; exact rfl) | (simp only [go_sem, seval]; done)) (by (repeat' (first | exact trivial | exact rfl | refine le_int ?_ | refine le_bool ?_ | refine le_str ?_ | refine le_sl ?_ | refine le_own ?_ | refine le_osl ?_ | refine le_nsl ?_ | refine ⟨_, rfl, ?_⟩ | refine ⟨?_, ?_⟩ | fail)); first | done | fail) (by (repeat' (first | exact trivial | exact rfl | refine le_int ?_ | refine le_bool ?_ | refine le_str ?_ | refine le_sl ?_ | refine le_own ?_ | refine le_osl ?_ | refine le_nsl ?_ | refine ⟨_, rfl, ?_⟩ | refine ⟨?_, ?_⟩ | fail)); first | done | fail) rfl (by first | exact rfl | (simp only [go_sem, seval]; done) | (simp only [go_sem, seval]; exact rfl)) (by first | exact rfl | (simp only [go_sem, seval]; done) | (simp only [go_sem, seval]; exact rfl)) rfl (by first | exact rfl | (simp only [go_sem, seval]; done) | (simp only [go_sem, seval]; exact rfl)))⟩
      · have hne : a ≠ b := fun e => htu (h3.2 (by rw [e]))
        repeat' (first | (with_reducible exact trivial) | simp (maxSteps := 2000000) (disch := omega) only [List.length_map, Int.toNat_natCast, h1, h2, tP, eq_tt, htu, decide_false, go_sem, seval] | ((with_reducible refine isE ?_); refine endA (by first | exact rfl | (simp only [go_sem, seval]; exact rfl) | (simp only [go_sem, seval]; done)) ?_ (by (repeat' (first | exact trivial | exact rfl | refine ⟨_, rfl, ?_⟩ | refine ⟨?_, ?_⟩ | fail)); first | done | fail) rfl rfl; (repeat' (first | exact trivial | refine le_int ?_ | refine le_bool ?_ | refine le_str ?_ | refine le_sl ?_ | refine le_own ?_ | refine le_osl ?_ | refine le_nsl ?_ | exact rfl | (exact (decide_eq_false hne).symm; done) | refine ⟨?_, ?_⟩ | fail))) | ((with_reducible refine isI ?_ ?_); (kernel_rfl)) | fail)
    · have e : a = b := by rw [← List.take_of_length_le (l := a) (i := i) (by omega), he, List.take_of_length_le (by omega)]
      repeat' (first | (with_reducible exact trivial) | simp (maxSteps := 2000000) (disch := omega) only [List.length_map, go_sem, seval] | ((with_reducible refine isE ?_); refine endA (by first | exact rfl | (simp only [go_sem, seval]; exact rfl) | (simp only [go_sem, seval]; done)) ?_ (by (repeat' (first | exact trivial | exact rfl | refine ⟨_, rfl, ?_⟩ | refine ⟨?_, ?_⟩ | fail)); first | done | fail) rfl rfl; (repeat' (first | exact trivial | refine le_int ?_ | refine le_bool ?_ | refine le_str ?_ | refine le_sl ?_ | refine le_own ?_ | refine le_osl ?_ | refine le_nsl ?_ | exact rfl | (exact (decide_eq_true e).symm; done) | refine ⟨?_, ?_⟩ | fail))) | ((with_reducible refine isI ?_ ?_); (kernel_rfl)) | fail)
  · repeat' (first | (with_reducible exact trivial) | simp (maxSteps := 2000000) (disch := omega) only [List.length_map, Int.natCast_inj, hl, go_sem, seval] | ((with_reducible refine isE ?_); refine endA (by first | exact rfl | (simp only [go_sem, seval]; exact rfl) | (simp only [go_sem, seval]; done)) ?_ (by (repeat' (first | exact trivial | exact rfl | refine ⟨_, rfl, ?_⟩ | refine ⟨?_, ?_⟩ | fail)); first | done | fail) rfl rfl; (repeat' (first | exact trivial | refine le_int ?_ | refine le_bool ?_ | refine le_str ?_ | refine le_sl ?_ | refine le_own ?_ | refine le_osl ?_ | refine le_nsl ?_ | exact rfl | (exact (decide_eq_false (fun e => hl (by rw [e]))).symm; done) | refine ⟨?_, ?_⟩ | fail))) | ((with_reducible refine isI ?_ ?_); (kernel_rfl)) | fail)
end Go.Proofs.YtaopaggmhleeoaaDoor

/- Functions of Go's library and small ones of the laws, on octets: what they come to. Own work. -/
namespace Go.Proofs.YtaopaggmhleeoaaDoor
open Go Go.Shade
variable {Γ : Globs}
theorem nilV_cons (x : UInt8) (xs : List UInt8) : nilV (.p (.sl 1 (bys (x :: xs)))) = some (some false) := by simp [nilV, bys, by1]
theorem bys_at {b : List UInt8} {i : Nat} (h : i < b.length) : (bys b).getD i [] = [.s (.int .u8 (b.getD i 0).toNat)] := bys_getD h
theorem gClone (b : List UInt8) (h : b.length ≤ 140737488355328) : Good Tryd.prog Γ 34 [.sl 1 (bys b)] [] (.ret (.own 0 1 (bys b))) [(0, .tok)] := by
  refine sh_startG mixed F34 rfl ⟨(by first | exact rfl | (simp only [go_sem, seval]; done) | (simp only [go_sem, seval]; exact rfl)), (by first | exact rfl | (simp only [go_sem, seval]; done) | (simp only [go_sem, seval]; exact rfl)), (by first | exact rfl | (simp only [go_sem, seval]; done) | (simp only [go_sem, seval]; exact rfl)), (by first | exact rfl | (simp only [go_sem, seval]; done) | (simp only [go_sem, seval]; exact rfl)), (by first | exact rfl | (simp only [go_sem, seval]; done) | (simp only [go_sem, seval]; exact rfl))⟩ ?_
  simp (disch := omega) only [go_sem, seval]
  cases b with
  | cons x xs =>
    rw [List.length_cons] at h
    refine nil_no (nilV_cons x xs) ?_
    simp (disch := omega) only [go_sem, seval]
    refine finY_S ?_
    simp (disch := omega) only [go_sem, seval]
    exact endE_by [(0, 1)] rfl ⟨rfl, trivial⟩ rfl rfl
  | nil =>
    refine nil_open rfl (fun t => ?_)
    cases t with
    | false =>
      simp (disch := omega) only [go_sem, seval]
      refine finY_S ?_
      simp (disch := omega) only [go_sem, seval]
      exact endE_by [(0, 1)] rfl ⟨rfl, trivial⟩ rfl rfl
    | true =>
      simp (disch := omega) only [go_sem, seval]
      refine finY_nil 2 0 1 rfl rfl (finY_S ?_)
      simp (disch := omega) only [go_sem, seval]
      exact endE_by [(0, 0)] rfl ⟨rfl, trivial⟩ rfl rfl
theorem gOctets (a b : List UInt8) : Good Tryd.prog Γ 17 [.sl 1 (bys a), .sl 1 (bys b)] [] (.ret (.bool (decide (a = b)))) [] := by
  refine sh_start mixed F17 rfl ⟨(by first | exact rfl | (simp only [go_sem, seval]; done) | (simp only [go_sem, seval]; exact rfl)), (by first | exact rfl | (simp only [go_sem, seval]; done) | (simp only [go_sem, seval]; exact rfl)), (by first | exact rfl | (simp only [go_sem, seval]; done) | (simp only [go_sem, seval]; exact rfl)), (by first | exact rfl | (simp only [go_sem, seval]; done) | (simp only [go_sem, seval]; exact rfl)), (by first | exact rfl | (simp only [go_sem, seval]; done) | (simp only [go_sem, seval]; exact rfl))⟩ ?_
  repeat' (first | (with_reducible exact trivial) | simp (maxSteps := 2000000) (disch := omega) only [go_sem, seval] | ((with_reducible refine isE ?_); refine endA (by first | exact rfl | (simp only [go_sem, seval]; exact rfl) | (simp only [go_sem, seval]; done)) ?_ (by (repeat' (first | exact trivial | exact rfl | refine ⟨_, rfl, ?_⟩ | refine ⟨?_, ?_⟩ | fail)); first | done | fail) rfl rfl; (repeat' (first | exact le_mq0 rfl | exact le_mq0r rfl | refine le_mqr ?_ | refine le_mq ?_ | exact trivial | refine le_int ?_ | refine le_bool ?_ | refine le_str ?_ | refine le_sl ?_ | refine le_own ?_ | refine le_osl ?_ | refine le_nsl ?_ | exact rfl | refine ⟨?_, ?_⟩ | fail))) | ((with_reducible refine isI ?_ ?_); (kernel_rfl)) | fail)
/-- How many are left, without those at the end that are such. -/
def trimTo (p : UInt8 → Bool) (l : List UInt8) : Nat → Nat
  | 0 => 0
  | n + 1 => if p (l.getD n 0) = true then trimTo p l n else n + 1
theorem trimTo_le (p : UInt8 → Bool) (l : List UInt8) : ∀ n, trimTo p l n ≤ n
  | 0 => Nat.le_refl _
  | n + 1 => by
    rw [trimTo]
    split
    · exact Nat.le_succ_of_le (trimTo_le p l n)
    · exact Nat.le_refl _
def trimR (p : UInt8 → Bool) (l : List UInt8) : List UInt8 := l.take (trimTo p l l.length)
theorem take_len {b : List UInt8} {n : Nat} (h : n ≤ b.length) : (b.take n).length = n := by rw [List.length_take]; omega
theorem gTrimByte (b : List UInt8) (c : UInt8) (h : b.length ≤ 140737488355328) : Good Tryd.prog Γ 40 [.sl 1 (bys b), .int .u8 c.toNat] [] (.ret (.sl 1 (bys (trimR (· == c) b)))) [] := by
  refine sh_start mixed F40 rfl ⟨(by first | exact rfl | (simp only [go_sem, seval]; done) | (simp only [go_sem, seval]; exact rfl)), (by first | exact rfl | (simp only [go_sem, seval]; done) | (simp only [go_sem, seval]; exact rfl)), (by first | exact rfl | (simp only [go_sem, seval]; done) | (simp only [go_sem, seval]; exact rfl)), (by first | exact rfl | (simp only [go_sem, seval]; done) | (simp only [go_sem, seval]; exact rfl)), (by first | exact rfl | (simp only [go_sem, seval]; done) | (simp only [go_sem, seval]; exact rfl))⟩ ?_
  repeat' (first | (with_reducible exact trivial) | simp (maxSteps := 2000000) (disch := omega) only [go_sem, seval] | ((with_reducible refine isI ?_ ?_); (kernel_rfl)) | fail)
  refine sh_loopX mixed (fun n : Nat => ([(0, .sl 1 (bys (b.take n))), (1, .int .u8 c.toNat)], [])) (fun n => n) (fun n => n ≤ b.length ∧ trimTo (· == c) b b.length = trimTo (· == c) b n) b.length ⟨Nat.le_refl _, rfl⟩ (sh_weakA (by first | exact rfl | (simp only [go_sem, seval]; exact rfl) | (simp only [go_sem, seval]; done)) (by (repeat' (first | exact le_mq0 rfl | exact le_mq0r rfl | refine le_mqr ?_ | refine le_mq ?_ | exact trivial | exact rfl | refine le_int ?_ | refine le_bool ?_ | refine le_str ?_ | refine le_sl ?_ | refine le_own ?_ | refine le_osl ?_ | refine le_nsl ?_ | refine ⟨_, rfl, ?_⟩ | refine ⟨?_, ?_⟩ | (rw [List.take_of_length_le (Nat.le_refl _)]; done) | fail)); first | done | fail) (by (repeat' (first | exact le_mq0 rfl | exact le_mq0r rfl | refine le_mqr ?_ | refine le_mq ?_ | exact trivial | exact rfl | refine le_int ?_ | refine le_bool ?_ | refine le_str ?_ | refine le_sl ?_ | refine le_own ?_ | refine le_osl ?_ | refine le_nsl ?_ | refine ⟨_, rfl, ?_⟩ | refine ⟨?_, ?_⟩ | (rw [List.take_of_length_le (Nat.le_refl _)]; done) | fail)); first | done | fail) rfl (by first | exact rfl | (simp only [go_sem, seval]; done) | (simp only [go_sem, seval]; exact rfl)) (by first | exact rfl | (simp only [go_sem, seval]; done) | (simp only [go_sem, seval]; exact rfl)) rfl (by first | exact rfl | (simp only [go_sem, seval]; done) | (simp only [go_sem, seval]; exact rfl))) ?_
  rintro n ⟨hn, he⟩
  cases n with
  | zero => repeat' (first | (with_reducible exact trivial) | simp (maxSteps := 2000000) (disch := omega) only [List.take_zero, List.length_nil, go_sem, seval] | ((with_reducible refine isE ?_); refine endA (by first | exact rfl | (simp only [go_sem, seval]; exact rfl) | (simp only [go_sem, seval]; done)) ?_ (by (repeat' (first | exact trivial | exact rfl | refine ⟨_, rfl, ?_⟩ | refine ⟨?_, ?_⟩ | fail)); first | done | fail) rfl rfl; (repeat' (first | exact le_mq0 rfl | exact le_mq0r rfl | refine le_mqr ?_ | refine le_mq ?_ | exact trivial | refine le_int ?_ | refine le_bool ?_ | refine le_str ?_ | refine le_sl ?_ | refine le_own ?_ | refine le_osl ?_ | refine le_nsl ?_ | exact rfl | ((unfold trimR; rw [he]; rfl); done) | refine ⟨?_, ?_⟩ | fail))) | ((with_reducible refine isI ?_ ?_); (kernel_rfl)) | fail)
  | succ n =>
    have hl := take_len hn
    have hg : (bys (b.take (n + 1))).getD n [] = [.s (.int .u8 (b.getD n 0).toNat)] := by
      rw [bys_at (by omega)]
      congr 3
      rw [List.getD_eq_getElem?_getD, List.getElem?_take, if_pos (by omega), List.getD_eq_getElem?_getD]
    have e1 : ((n : Int) + 1 - 1).toNat = n := by omega
    rw [trimTo] at he
    by_cases hc : b.getD n 0 = c
    · rw [if_pos (by simpa using hc)] at he
      have ht : (b.take (n + 1)).take n = b.take n := by rw [List.take_take, Nat.min_eq_left (by omega)]
      repeat' (first | (with_reducible exact trivial) | simp (maxSteps := 2000000) (disch := omega) only [bys_length, hl, hg, e1, hc, Int.natCast_add, Int.natCast_one, bys_take, ht, go_sem, seval] | ((with_reducible refine isI ?_ ?_); (kernel_rfl)) | fail)
      exact ⟨n, by omega, ⟨by omega, he⟩, (sh_weakA (by first | exact rfl | (simp only [go_sem, seval]; exact rfl) | (simp only [go_sem, seval]; done)) (by (repeat' (first | exact le_mq0 rfl | exact le_mq0r rfl | refine le_mqr ?_ | refine le_mq ?_ | exact trivial | exact rfl | refine le_int ?_ | refine le_bool ?_ | refine le_str ?_ | refine le_sl ?_ | refine le_own ?_ | refine le_osl ?_ | refine le_nsl ?_ | refine ⟨_, rfl, ?_⟩ | refine ⟨?_, ?_⟩ | fail)); first | done | fail) (by (repeat' (first | exact le_mq0 rfl | exact le_mq0r rfl | refine le_mqr ?_ | refine le_mq ?_ | exact trivial | exact rfl | refine le_int ?_ | refine le_bool ?_ | refine le_str ?_ | refine le_sl ?_ | refine le_own ?_ | refine le_osl ?_ | refine le_nsl ?_ | refine ⟨_, rfl, ?_⟩ | refine ⟨?_, ?_⟩ | fail)); first | done | fail) rfl (by first | exact rfl | (simp only [go_sem, seval]; done) | (simp only [go_sem, seval]; exact rfl)) (by first | exact rfl | (simp only [go_sem, seval]; done) | (simp only [go_sem, seval]; exact rfl)) rfl (by first | exact rfl | (simp only [go_sem, seval]; done) | (simp only [go_sem, seval]; exact rfl)))⟩
    · rw [if_neg (by simpa using hc)] at he
      repeat' (first | (with_reducible exact trivial) | simp (maxSteps := 2000000) (disch := omega) only [bys_length, hl, hg, e1, hc, Int.natCast_add, Int.natCast_one, u8n_eq, go_sem, seval] | ((with_reducible refine isE ?_); refine endA (by first | exact rfl | (simp only [go_sem, seval]; exact rfl) | (simp only [go_sem, seval]; done)) ?_ (by (repeat' (first | exact trivial | exact rfl | refine ⟨_, rfl, ?_⟩ | refine ⟨?_, ?_⟩ | fail)); first | done | fail) rfl rfl; (repeat' (first | exact le_mq0 rfl | exact le_mq0r rfl | refine le_mqr ?_ | refine le_mq ?_ | exact trivial | refine le_int ?_ | refine le_bool ?_ | refine le_str ?_ | refine le_sl ?_ | refine le_own ?_ | refine le_osl ?_ | refine le_nsl ?_ | exact rfl | ((unfold trimR; rw [he]); done) | refine ⟨?_, ?_⟩ | fail))) | ((with_reducible refine isI ?_ ?_); (kernel_rfl)) | fail)
theorem gTrim0 (b : List UInt8) (h : b.length ≤ 140737488355328) : Good Tryd.prog Γ 33 [.sl 1 (bys b), .p (.s (.string { data := #[0] }))] [] (.ret (.sl 1 (bys (trimR (· == 0) b)))) [] := by
  refine sh_start mixed F33 rfl ⟨(by first | exact rfl | (simp only [go_sem, seval]; done) | (simp only [go_sem, seval]; exact rfl)), (by first | exact rfl | (simp only [go_sem, seval]; done) | (simp only [go_sem, seval]; exact rfl)), (by first | exact rfl | (simp only [go_sem, seval]; done) | (simp only [go_sem, seval]; exact rfl)), (by first | exact rfl | (simp only [go_sem, seval]; done) | (simp only [go_sem, seval]; exact rfl)), (by first | exact rfl | (simp only [go_sem, seval]; done) | (simp only [go_sem, seval]; exact rfl))⟩ ?_
  have h1 := gTrimByte (Γ := Γ) b 0 h
  cases b with
  | nil => repeat' (first | (with_reducible exact trivial) | simp (maxSteps := 2000000) (disch := omega) only [go_sem, seval] | ((with_reducible refine isE ?_); refine endA (by first | exact rfl | (simp only [go_sem, seval]; exact rfl) | (simp only [go_sem, seval]; done)) ?_ (by (repeat' (first | exact trivial | exact rfl | refine ⟨_, rfl, ?_⟩ | refine ⟨?_, ?_⟩ | fail)); first | done | fail) rfl rfl; (repeat' (first | exact le_mq0 rfl | exact le_mq0r rfl | refine le_mqr ?_ | refine le_mq ?_ | exact trivial | refine le_int ?_ | refine le_bool ?_ | refine le_str ?_ | refine le_sl ?_ | refine le_own ?_ | refine le_osl ?_ | refine le_nsl ?_ | exact rfl | (rfl; done) | refine ⟨?_, ?_⟩ | fail))) | ((with_reducible refine isI ?_ ?_); (kernel_rfl)) | fail)
  | cons x xs =>
    rw [List.length_cons] at h
    generalize hb : x :: xs = b at h1 ⊢
    have hl : b.length ≠ 0 := by rw [← hb]; simp
    repeat' (first | (with_reducible exact trivial) | simp (maxSteps := 2000000) (disch := omega) only [bys_length, go_sem, seval] | ((with_reducible refine isS ?_); first | refine sh_call (h1) [] (by (repeat' (first | exact le_mq0 rfl | exact le_mq0r rfl | refine le_mqr ?_ | refine le_mq ?_ | exact rfl | exact trivial | exact le_nbys | refine ⟨?_, ?_⟩ | fail)); first | done | fail) trivial rfl (by (repeat' (first | exact trivial | exact .inr rfl | refine ⟨?_, ?_⟩ | fail)); first | done | fail) ?_ | fail) | ((with_reducible refine isT ?_); first | refine sh_callT (h1) [] (by (repeat' (first | exact le_mq0 rfl | exact le_mq0r rfl | refine le_mqr ?_ | refine le_mq ?_ | exact rfl | exact trivial | exact le_nbys | refine ⟨?_, ?_⟩ | fail)); first | done | fail) trivial rfl (by (repeat' (first | exact trivial | exact .inr rfl | refine ⟨?_, ?_⟩ | fail)); first | done | fail) ?_ | fail) | ((with_reducible refine isE ?_); refine endA (by first | exact rfl | (simp only [go_sem, seval]; exact rfl) | (simp only [go_sem, seval]; done)) ?_ (by (repeat' (first | exact trivial | exact rfl | refine ⟨_, rfl, ?_⟩ | refine ⟨?_, ?_⟩ | fail)); first | done | fail) rfl rfl; (repeat' (first | exact le_mq0 rfl | exact le_mq0r rfl | refine le_mqr ?_ | refine le_mq ?_ | exact trivial | refine le_int ?_ | refine le_bool ?_ | refine le_str ?_ | refine le_sl ?_ | refine le_own ?_ | refine le_osl ?_ | refine le_nsl ?_ | exact rfl | refine ⟨?_, ?_⟩ | fail))) | ((with_reducible refine isI ?_ ?_); (kernel_rfl)) | fail)
end Go.Proofs.YtaopaggmhleeoaaDoor

/- Layer 10: what the program's functions come to. Own work. -/
namespace Go.Proofs.YtaopaggmhleeoaaDoor
open Go Go.Shade
variable {Γ : Globs}
theorem gBit (c : UInt8) : Good Tryd.prog Γ 39 [.int .u8 c.toNat] [] (.ret (.tup [.int .i64 ((c.toNat / 8 : Nat) : Int), .int .u8 (bitU c).toNat])) [] := by
  refine sh_start mixed F39 rfl ⟨(by first | exact rfl | (simp only [go_sem, seval]; done) | (simp only [go_sem, seval]; exact rfl)), (by first | exact rfl | (simp only [go_sem, seval]; done) | (simp only [go_sem, seval]; exact rfl)), (by first | exact rfl | (simp only [go_sem, seval]; done) | (simp only [go_sem, seval]; exact rfl)), (by first | exact rfl | (simp only [go_sem, seval]; done) | (simp only [go_sem, seval]; exact rfl)), (by first | exact rfl | (simp only [go_sem, seval]; done) | (simp only [go_sem, seval]; exact rfl))⟩ ?_
  have hc := c.toNat_lt
  repeat' (first | (with_reducible exact trivial) | simp (maxSteps := 2000000) (disch := omega) only [bin_and8, u8_to, go_sem, seval] | ((with_reducible refine isE ?_); refine endA (by first | exact rfl | (simp only [go_sem, seval]; exact rfl) | (simp only [go_sem, seval]; done)) ?_ (by (repeat' (first | exact trivial | exact rfl | refine ⟨_, rfl, ?_⟩ | refine ⟨?_, ?_⟩ | fail)); first | done | fail) rfl rfl; (repeat' (first | exact le_mq0 rfl | exact le_mq0r rfl | refine le_mqr ?_ | refine le_mq ?_ | exact trivial | refine le_int ?_ | refine le_bool ?_ | refine le_str ?_ | refine le_sl ?_ | refine le_own ?_ | refine le_osl ?_ | refine le_nsl ?_ | exact rfl | refine ⟨?_, ?_⟩ | fail))) | ((with_reducible refine isI ?_ ?_); (kernel_rfl)) | fail)
theorem gHas (m : Mask) (c : UInt8) : Good Tryd.prog Γ 29 [.agg (mq m), .int .u8 c.toNat] [] (.ret (.bool (m.has c))) [] := by
  refine sh_start mixed F29 rfl ⟨(by first | exact rfl | (simp only [go_sem, seval]; done) | (simp only [go_sem, seval]; exact rfl)), (by first | exact rfl | (simp only [go_sem, seval]; done) | (simp only [go_sem, seval]; exact rfl)), (by first | exact rfl | (simp only [go_sem, seval]; done) | (simp only [go_sem, seval]; exact rfl)), (by first | exact rfl | (simp only [go_sem, seval]; done) | (simp only [go_sem, seval]; exact rfl)), (by first | exact rfl | (simp only [go_sem, seval]; done) | (simp only [go_sem, seval]; exact rfl))⟩ ?_
  have hc := c.toNat_lt
  have hi : c.toNat / 8 < 32 := by omega
  repeat' (first | (with_reducible exact trivial) | simp (maxSteps := 2000000) (disch := omega) only [bin_and8, u8_to, Int.toNat_natCast, mq_at hi, and0, go_sem, seval] | ((with_reducible refine isS ?_); first | refine sh_call (gBit c) [] (by (repeat' (first | exact le_mq0 rfl | exact le_mq0r rfl | refine le_mqr ?_ | refine le_mq ?_ | exact rfl | exact trivial | exact le_nbys | refine ⟨?_, ?_⟩ | fail)); first | done | fail) trivial rfl (by (repeat' (first | exact trivial | exact .inr rfl | refine ⟨?_, ?_⟩ | fail)); first | done | fail) ?_ | fail) | ((with_reducible refine isT ?_); first | refine sh_callT (gBit c) [] (by (repeat' (first | exact le_mq0 rfl | exact le_mq0r rfl | refine le_mqr ?_ | refine le_mq ?_ | exact rfl | exact trivial | exact le_nbys | refine ⟨?_, ?_⟩ | fail)); first | done | fail) trivial rfl (by (repeat' (first | exact trivial | exact .inr rfl | refine ⟨?_, ?_⟩ | fail)); first | done | fail) ?_ | fail) | ((with_reducible refine isE ?_); refine endA (by first | exact rfl | (simp only [go_sem, seval]; exact rfl) | (simp only [go_sem, seval]; done)) ?_ (by (repeat' (first | exact trivial | exact rfl | refine ⟨_, rfl, ?_⟩ | refine ⟨?_, ?_⟩ | fail)); first | done | fail) rfl rfl; (repeat' (first | exact le_mq0 rfl | exact le_mq0r rfl | refine le_mqr ?_ | refine le_mq ?_ | exact trivial | refine le_int ?_ | refine le_bool ?_ | refine le_str ?_ | refine le_sl ?_ | refine le_own ?_ | refine le_osl ?_ | refine le_nsl ?_ | exact rfl | (rfl; done) | refine ⟨?_, ?_⟩ | fail))) | ((with_reducible refine isI ?_ ?_); (kernel_rfl)) | fail)
theorem wit_f (m : Mask) (c : UInt8) : m.put (c.toNat / 8) (m.at (c.toNat / 8) &&& ~~~bitU c) = m.wit c false := rfl
theorem wit_t (m : Mask) (c : UInt8) : (m.put (c.toNat / 8) (m.at (c.toNat / 8) &&& ~~~bitU c)).put (c.toNat / 8) ((m.put (c.toNat / 8) (m.at (c.toNat / 8) &&& ~~~bitU c)).at (c.toNat / 8) ||| bitU c) = m.wit c true := by
  have hc := c.toNat_lt
  rw [Mask.put_put, Mask.at_put (by omega), if_pos rfl]
  rfl
/-- The keys that a set has. -/
def keyL (m : Mask) (n : Nat) : List UInt8 := ((List.range n).map UInt8.ofNat).filter m.has
theorem keyL_succ (m : Mask) (n : Nat) : keyL m (n + 1) = keyL m n ++ (if m.has (UInt8.ofNat n) = true then [UInt8.ofNat n] else []) := by
  unfold keyL
  rw [List.range_succ, List.map_append, List.filter_append, List.map_cons, List.map_nil]
  by_cases h : m.has (UInt8.ofNat n) = true <;> simp [h]
theorem keyL_len (m : Mask) (n : Nat) : (keyL m n).length ≤ n := by
  unfold keyL
  refine Nat.le_trans (List.length_filter_le _ _) ?_
  simp
def keysM (m : Mask) : List UInt8 := keyL m 256
theorem u8_nat {n : Nat} (h : n < 256) : ((UInt8.ofNat n).toNat : Int) = n := by
  rw [UInt8.toNat_ofNat', Nat.mod_eq_of_lt h]
theorem wrap_u8 {n : Nat} (h : n < 256) : IntKind.wrap .u8 (n : Int) = ((UInt8.ofNat n).toNat : Int) := by
  rw [wrapU8, u8_in (by omega) (by omega), u8_nat h]
theorem gGet (b : List UInt8) (h : b.length ≤ 1000000) : Good Tryd.prog Γ 37 [.sl 1 (bys b)] [] (.ret (.tup [.agg (mq (if b.length ≤ 32 then padM b else .zero)), .int .i64 (if b.length ≤ 32 then 0 else 3)])) [] := by
  refine sh_start mixed F37 rfl ⟨(by first | exact rfl | (simp only [go_sem, seval]; done) | (simp only [go_sem, seval]; exact rfl)), (by first | exact rfl | (simp only [go_sem, seval]; done) | (simp only [go_sem, seval]; exact rfl)), (by first | exact rfl | (simp only [go_sem, seval]; done) | (simp only [go_sem, seval]; exact rfl)), (by first | exact rfl | (simp only [go_sem, seval]; done) | (simp only [go_sem, seval]; exact rfl)), (by first | exact rfl | (simp only [go_sem, seval]; done) | (simp only [go_sem, seval]; exact rfl))⟩ ?_
  by_cases hl : b.length ≤ 32
  · have hmin : min b.length 32 = b.length := by omega
    have hc := mq_copy b hl
    rw [if_pos hl, if_pos hl]
    repeat' (first | (with_reducible exact trivial) | simp (maxSteps := 2000000) (disch := omega) only [bys_length, hmin, List.take_zero, List.nil_append, List.take_length, Nat.zero_add, hc, go_sem, seval] | ((with_reducible refine isE ?_); refine endA (by first | exact rfl | (simp only [go_sem, seval]; exact rfl) | (simp only [go_sem, seval]; done)) ?_ (by (repeat' (first | exact trivial | exact rfl | refine ⟨_, rfl, ?_⟩ | refine ⟨?_, ?_⟩ | fail)); first | done | fail) rfl rfl; (repeat' (first | exact le_mq0 rfl | exact le_mq0r rfl | refine le_mqr ?_ | refine le_mq ?_ | exact trivial | refine le_int ?_ | refine le_bool ?_ | refine le_str ?_ | refine le_sl ?_ | refine le_own ?_ | refine le_osl ?_ | refine le_nsl ?_ | exact rfl | refine ⟨?_, ?_⟩ | fail))) | ((with_reducible refine isI ?_ ?_); (kernel_rfl)) | fail)
  · rw [if_neg hl, if_neg hl]
    repeat' (first | (with_reducible exact trivial) | simp (maxSteps := 2000000) (disch := omega) only [bys_length, go_sem, seval] | ((with_reducible refine isE ?_); refine endA (by first | exact rfl | (simp only [go_sem, seval]; exact rfl) | (simp only [go_sem, seval]; done)) ?_ (by (repeat' (first | exact trivial | exact rfl | refine ⟨_, rfl, ?_⟩ | refine ⟨?_, ?_⟩ | fail)); first | done | fail) rfl rfl; (repeat' (first | exact le_mq0 rfl | exact le_mq0r rfl | refine le_mqr ?_ | refine le_mq ?_ | exact trivial | refine le_int ?_ | refine le_bool ?_ | refine le_str ?_ | refine le_sl ?_ | refine le_own ?_ | refine le_osl ?_ | refine le_nsl ?_ | exact rfl | refine ⟨?_, ?_⟩ | fail))) | ((with_reducible refine isI ?_ ?_); (kernel_rfl)) | fail)
theorem gPut (m : Mask) : Good Tryd.prog Γ 20 [.agg (mq m)] [] (.ret (.sl 1 (bys (trimR (· == 0) m.l)))) [] := by
  refine sh_start mixed F20 rfl ⟨(by first | exact rfl | (simp only [go_sem, seval]; done) | (simp only [go_sem, seval]; exact rfl)), (by first | exact rfl | (simp only [go_sem, seval]; done) | (simp only [go_sem, seval]; exact rfl)), (by first | exact rfl | (simp only [go_sem, seval]; done) | (simp only [go_sem, seval]; exact rfl)), (by first | exact rfl | (simp only [go_sem, seval]; done) | (simp only [go_sem, seval]; exact rfl)), (by first | exact rfl | (simp only [go_sem, seval]; done) | (simp only [go_sem, seval]; exact rfl))⟩ ?_
  have h := m.h
  repeat' (first | (with_reducible exact trivial) | simp (maxSteps := 2000000) (disch := omega) only [go_sem, seval] | ((with_reducible refine isS ?_); first | refine sh_call (gClone m.l (by omega)) [] (by (repeat' (first | exact le_mq0 rfl | exact le_mq0r rfl | refine le_mqr ?_ | refine le_mq ?_ | exact rfl | exact trivial | exact le_nbys | refine ⟨?_, ?_⟩ | fail)); first | done | fail) trivial rfl (by (repeat' (first | exact trivial | exact .inr rfl | refine ⟨?_, ?_⟩ | fail)); first | done | fail) ?_ | refine sh_call (gTrim0 m.l (by omega)) [] (by (repeat' (first | exact le_mq0 rfl | exact le_mq0r rfl | refine le_mqr ?_ | refine le_mq ?_ | exact rfl | exact trivial | exact le_nbys | refine ⟨?_, ?_⟩ | fail)); first | done | fail) trivial rfl (by (repeat' (first | exact trivial | exact .inr rfl | refine ⟨?_, ?_⟩ | fail)); first | done | fail) ?_ | fail) | ((with_reducible refine isT ?_); first | refine sh_callT (gClone m.l (by omega)) [] (by (repeat' (first | exact le_mq0 rfl | exact le_mq0r rfl | refine le_mqr ?_ | refine le_mq ?_ | exact rfl | exact trivial | exact le_nbys | refine ⟨?_, ?_⟩ | fail)); first | done | fail) trivial rfl (by (repeat' (first | exact trivial | exact .inr rfl | refine ⟨?_, ?_⟩ | fail)); first | done | fail) ?_ | refine sh_callT (gTrim0 m.l (by omega)) [] (by (repeat' (first | exact le_mq0 rfl | exact le_mq0r rfl | refine le_mqr ?_ | refine le_mq ?_ | exact rfl | exact trivial | exact le_nbys | refine ⟨?_, ?_⟩ | fail)); first | done | fail) trivial rfl (by (repeat' (first | exact trivial | exact .inr rfl | refine ⟨?_, ?_⟩ | fail)); first | done | fail) ?_ | fail) | ((with_reducible refine isE ?_); refine endA (by first | exact rfl | (simp only [go_sem, seval]; exact rfl) | (simp only [go_sem, seval]; done)) ?_ (by (repeat' (first | exact trivial | exact rfl | refine ⟨_, rfl, ?_⟩ | refine ⟨?_, ?_⟩ | fail)); first | done | fail) rfl rfl; (repeat' (first | exact le_mq0 rfl | exact le_mq0r rfl | refine le_mqr ?_ | refine le_mq ?_ | exact trivial | refine le_int ?_ | refine le_bool ?_ | refine le_str ?_ | refine le_sl ?_ | refine le_own ?_ | refine le_osl ?_ | refine le_nsl ?_ | exact rfl | refine ⟨?_, ?_⟩ | fail))) | ((with_reducible refine isI ?_ ?_); (kernel_rfl)) | fail)
end Go.Proofs.YtaopaggmhleeoaaDoor

/- Layer 10: what the document's functions come to. Own work. -/
namespace Go.Proofs.YtaopaggmhleeoaaDoor
open Go Go.Shade
variable {Γ : Globs}
theorem has_row (m : Mask) (c : UInt8) : decide ((((m.at (c.toNat / 8)).toNat / 2 ^ (7 - c.toNat % 8) : Nat) : Int) % 2 = 1) = m.has c := by
  rw [← m.has_div c]
  exact decide_eq_decide.2 ⟨fun h => by omega, fun h => by omega⟩
theorem div_two (n i : Nat) : n / 2 ^ i / 2 = n / 2 ^ (i + 1) := by rw [Nat.div_div_eq_div_mul, Nat.pow_succ]
theorem u8_two (o : UInt8) : u8 (2 * (o.toNat : Int)) = 2 * o := all256 (p := fun o => u8 (2 * (o.toNat : Int)) = 2 * o) (by decide +kernel) o
theorem u8_one (o : UInt8) : u8 ((o.toNat : Int) + 1) = o + 1 := all256 (p := fun o => u8 ((o.toNat : Int) + 1) = o + 1) (by decide +kernel) o
theorem ofN_f {r : Row} {c : Nat} (h : r.at c = false) : (ofN r c).put (c / 8) (2 * (ofN r c).at (c / 8)) = ofN r (c + 1) := by
  rw [ofN, h, if_neg (by simp)]
  simp
theorem ofN_t {r : Row} {c : Nat} (hc : c < 256) (h : r.at c = true) : ((ofN r c).put (c / 8) (2 * (ofN r c).at (c / 8))).put (c / 8) (((ofN r c).put (c / 8) (2 * (ofN r c).at (c / 8))).at (c / 8) + 1) = ofN r (c + 1) := by
  rw [Mask.put_put, Mask.at_put (by omega), if_pos rfl, ofN, h, if_pos rfl]
/-- Which keys it has, as a row. -/
def rowN (m : Mask) : Nat → Row
  | 0 => .zero
  | i + 1 => (rowN m i).put i (m.has (UInt8.ofNat i))
theorem rowN_at (m : Mask) (j : Nat) : ∀ i : Nat, i ≤ 256 → (rowN m i).at j = (decide (j < i) && m.has (UInt8.ofNat j))
  | 0, _ => by simp [rowN, Row.at_zero]
  | i + 1, h => by
    rw [rowN, Row.at_put (by omega), rowN_at m j i (by omega)]
    by_cases hj : j = i
    · subst hj; simp
    · rw [if_neg hj]
      congr 1
      exact decide_eq_decide.2 ⟨fun h => by omega, fun h => by omega⟩
def rowK (l : List UInt8) : Row := l.foldl (fun r c => r.put c.toNat true) .zero
theorem rowK_fold (c : UInt8) : ∀ (l : List UInt8) (r : Row), (l.foldl (fun r c => r.put c.toNat true) r).at c.toNat = (r.at c.toNat || l.contains c)
  | [], r => by simp
  | x :: l, r => by
    have hx := x.toNat_lt
    rw [List.foldl_cons, rowK_fold c l, Row.at_put (by omega), List.contains_cons]
    by_cases h : c = x
    · subst h; simp
    · have h1 : ¬ c.toNat = x.toNat := fun e => h (UInt8.toNat_inj.1 e)
      have h2 : (c == x) = false := by simpa using h
      rw [if_neg h1, h2, Bool.false_or]
theorem rowK_snoc (l : List UInt8) (c : UInt8) : rowK (l ++ [c]) = (rowK l).put c.toNat true := by simp [rowK]
theorem of_rowK (l : List UInt8) : ofN (rowK l) 256 = Mask.of l := Mask.ext_has (fun c => by
  rw [ofN_has, Mask.has_of, rowK, rowK_fold, Row.at_zero, Bool.false_or])
theorem of_rowN (m : Mask) (c : UInt8) (on : Bool) : ofN ((rowN m 256).put c.toNat on) 256 = m.wit c on := Mask.ext_has (fun d => by
  have hc := c.toNat_lt
  have hd := d.toNat_lt
  rw [ofN_has, Mask.has_wit, Row.at_put (by omega), rowN_at m _ 256 (by omega), UInt8.ofNat_toNat]
  by_cases h : d = c
  · subst h; rw [if_pos rfl, if_pos rfl]
  · have : ¬ d.toNat = c.toNat := fun e => h (UInt8.toNat_inj.1 e)
    rw [if_neg this, if_neg h, decide_eq_true (by omega : d.toNat < 256), Bool.true_and])
set_option maxRecDepth 20000 in
theorem gRPut (m : Mask) : Good Tryd.prog Γ 30 [.agg (mq m)] [] (.ret (.sl 1 (bys (trimR (· == 0) m.l)))) [] := by
  refine sh_start mixed F30 rfl ⟨(by first | (with_reducible exact rfl) | (simp only [go_sem, seval]; done) | (simp only [go_sem, seval]; exact rfl) | exact rfl), (by first | (with_reducible exact rfl) | (simp only [go_sem, seval]; done) | (simp only [go_sem, seval]; exact rfl) | exact rfl), (by first | (with_reducible exact rfl) | (simp only [go_sem, seval]; done) | (simp only [go_sem, seval]; exact rfl) | exact rfl), (by first | (with_reducible exact rfl) | (simp only [go_sem, seval]; done) | (simp only [go_sem, seval]; exact rfl) | exact rfl), (by first | (with_reducible exact rfl) | (simp only [go_sem, seval]; done) | (simp only [go_sem, seval]; exact rfl) | exact rfl)⟩ ?_
  have hm := m.h
  repeat' (first | (with_reducible exact trivial) | simp (maxSteps := 2000000) (disch := omega) only [go_sem, seval, -List.reduceReplicate] | ((with_reducible refine isI ?_ ?_); (kernel_rfl)) | fail)
  refine sh_loopX mixed (fun n : Nat => ([(1, .ptr 0 0), (3, .int .i64 n)], [(0, .box (mq m) false)])) (fun n => n) (fun n => n ≤ 32 ∧ trimTo (· == 0) m.l 32 = trimTo (· == 0) m.l n) 32 ⟨Nat.le_refl _, rfl⟩ (sh_weakA (by first | exact rfl | (simp only [go_sem, seval]; exact rfl) | (simp only [go_sem, seval]; done)) (by (repeat' (first | exact le_rqr rfl | exact le_rq rfl | refine le_rqr ?_ | refine le_rq ?_ | exact le_mq0 rfl | exact le_mq0r rfl | refine le_mqr ?_ | refine le_mq ?_ | exact trivial | exact rfl | refine le_int ?_ | refine le_bool ?_ | refine le_str ?_ | refine le_sl ?_ | refine le_own ?_ | refine le_osl ?_ | refine le_nsl ?_ | refine ⟨_, rfl, ?_⟩ | refine ⟨?_, ?_⟩ | fail)); first | done | fail) (by (repeat' (first | exact le_rqr rfl | exact le_rq rfl | refine le_rqr ?_ | refine le_rq ?_ | exact le_mq0 rfl | exact le_mq0r rfl | refine le_mqr ?_ | refine le_mq ?_ | exact trivial | exact rfl | refine le_int ?_ | refine le_bool ?_ | refine le_str ?_ | refine le_sl ?_ | refine le_own ?_ | refine le_osl ?_ | refine le_nsl ?_ | refine ⟨_, rfl, ?_⟩ | refine ⟨?_, ?_⟩ | fail)); first | done | fail) rfl (by first | (with_reducible exact rfl) | (simp only [go_sem, seval]; done) | (simp only [go_sem, seval]; exact rfl) | exact rfl) (by first | (with_reducible exact rfl) | (simp only [go_sem, seval]; done) | (simp only [go_sem, seval]; exact rfl) | exact rfl) rfl (by first | (with_reducible exact rfl) | (simp only [go_sem, seval]; done) | (simp only [go_sem, seval]; exact rfl) | exact rfl)) ?_
  rintro n ⟨hn, he⟩
  cases n with
  | zero => repeat' (first | (with_reducible exact trivial) | simp (maxSteps := 2000000) (disch := omega) only [go_sem, seval, List.replicate_zero, -List.reduceReplicate] | ((with_reducible refine isE ?_); refine endA (by first | exact rfl | (simp only [go_sem, seval]; exact rfl) | (simp only [go_sem, seval]; done)) ?_ (by (repeat' (first | exact trivial | exact rfl | refine ⟨_, rfl, ?_⟩ | refine ⟨?_, ?_⟩ | fail)); first | done | fail) rfl rfl; (repeat' (first | exact le_rqr rfl | exact le_rq rfl | refine le_rqr ?_ | refine le_rq ?_ | exact le_mq0 rfl | exact le_mq0r rfl | refine le_mqr ?_ | refine le_mq ?_ | exact trivial | refine le_int ?_ | refine le_bool ?_ | refine le_str ?_ | refine le_sl ?_ | refine le_own ?_ | refine le_osl ?_ | refine le_nsl ?_ | exact rfl | ((unfold trimR; rw [hm, he]; rfl); done) | refine ⟨?_, ?_⟩ | fail))) | ((with_reducible refine isI ?_ ?_); (kernel_rfl)) | fail)
  | succ n =>
    have hg := mq_at (m := m) (by omega : n < 32)
    have e1 : ((n : Int) + 1 - 1).toNat = n := by omega
    have e2 : ((n : Int) + 1).toNat = n + 1 := by omega
    have hstep : trimTo (· == 0) m.l (n + 1) = if (m.at n == 0) = true then trimTo (· == 0) m.l n else n + 1 := rfl
    rw [hstep] at he
    by_cases hc : m.at n = 0
    · rw [if_pos (by simpa using hc)] at he
      repeat' (first | (with_reducible exact trivial) | simp (maxSteps := 2000000) (disch := omega) only [hg, e1, hc, Int.natCast_add, Int.natCast_one, go_sem, seval, -List.reduceReplicate] | ((with_reducible refine isI ?_ ?_); (kernel_rfl)) | fail)
      exact ⟨n, by omega, ⟨by omega, he⟩, (sh_weakA (by first | exact rfl | (simp only [go_sem, seval]; exact rfl) | (simp only [go_sem, seval]; done)) (by (repeat' (first | exact le_rqr rfl | exact le_rq rfl | refine le_rqr ?_ | refine le_rq ?_ | exact le_mq0 rfl | exact le_mq0r rfl | refine le_mqr ?_ | refine le_mq ?_ | exact trivial | exact rfl | refine le_int ?_ | refine le_bool ?_ | refine le_str ?_ | refine le_sl ?_ | refine le_own ?_ | refine le_osl ?_ | refine le_nsl ?_ | refine ⟨_, rfl, ?_⟩ | refine ⟨?_, ?_⟩ | (omega; done) | fail)); first | done | fail) (by (repeat' (first | exact le_rqr rfl | exact le_rq rfl | refine le_rqr ?_ | refine le_rq ?_ | exact le_mq0 rfl | exact le_mq0r rfl | refine le_mqr ?_ | refine le_mq ?_ | exact trivial | exact rfl | refine le_int ?_ | refine le_bool ?_ | refine le_str ?_ | refine le_sl ?_ | refine le_own ?_ | refine le_osl ?_ | refine le_nsl ?_ | refine ⟨_, rfl, ?_⟩ | refine ⟨?_, ?_⟩ | (omega; done) | fail)); first | done | fail) rfl (by first | (with_reducible exact rfl) | (simp only [go_sem, seval]; done) | (simp only [go_sem, seval]; exact rfl) | exact rfl) (by first | (with_reducible exact rfl) | (simp only [go_sem, seval]; done) | (simp only [go_sem, seval]; exact rfl) | exact rfl) rfl (by first | (with_reducible exact rfl) | (simp only [go_sem, seval]; done) | (simp only [go_sem, seval]; exact rfl) | exact rfl))⟩
    · rw [if_neg (by simpa using hc)] at he
      have htl : (mq m).take (n + 1) = bq (m.l.take (n + 1)) := by rw [show mq m = bq m.l from rfl, bq_take]
      repeat' (first | (with_reducible exact trivial) | simp (maxSteps := 2000000) (disch := omega) only [hg, e1, e2, and0, hc, Int.natCast_add, Int.natCast_one, htl, go_sem, seval, List.replicate_zero, -List.reduceReplicate] | ((with_reducible refine isE ?_); refine endA (by first | exact rfl | (simp only [go_sem, seval]; exact rfl) | (simp only [go_sem, seval]; done)) ?_ (by (repeat' (first | exact trivial | exact rfl | refine ⟨_, rfl, ?_⟩ | refine ⟨?_, ?_⟩ | fail)); first | done | fail) rfl rfl; (repeat' (first | exact le_rqr rfl | exact le_rq rfl | refine le_rqr ?_ | refine le_rq ?_ | exact le_mq0 rfl | exact le_mq0r rfl | refine le_mqr ?_ | refine le_mq ?_ | exact trivial | refine le_int ?_ | refine le_bool ?_ | refine le_str ?_ | refine le_sl ?_ | refine le_own ?_ | refine le_osl ?_ | refine le_nsl ?_ | exact rfl | ((unfold trimR; rw [hm, he]); done) | refine ⟨?_, ?_⟩ | fail))) | ((with_reducible refine isI ?_ ?_); (kernel_rfl)) | fail)
set_option maxRecDepth 20000 in
theorem gRGet (b : List UInt8) (h : b.length ≤ 1000000) : Good Tryd.prog Γ 23 [.sl 1 (bys b)] [] (.ret (.tup [.agg (mq (if b.length ≤ 32 then padM b else .zero)), .bool (decide (b.length ≤ 32))])) [] := by
  refine sh_start mixed F23 rfl ⟨(by first | (with_reducible exact rfl) | (simp only [go_sem, seval]; done) | (simp only [go_sem, seval]; exact rfl) | exact rfl), (by first | (with_reducible exact rfl) | (simp only [go_sem, seval]; done) | (simp only [go_sem, seval]; exact rfl) | exact rfl), (by first | (with_reducible exact rfl) | (simp only [go_sem, seval]; done) | (simp only [go_sem, seval]; exact rfl) | exact rfl), (by first | (with_reducible exact rfl) | (simp only [go_sem, seval]; done) | (simp only [go_sem, seval]; exact rfl) | exact rfl), (by first | (with_reducible exact rfl) | (simp only [go_sem, seval]; done) | (simp only [go_sem, seval]; exact rfl) | exact rfl)⟩ ?_
  by_cases hl : b.length ≤ 32
  · rw [if_pos hl, decide_eq_true hl]
    repeat' (first | (with_reducible exact trivial) | simp (maxSteps := 2000000) (disch := omega) only [bys_length, go_sem, seval, mq_zero32, -List.reduceReplicate] | ((with_reducible refine isI ?_ ?_); (kernel_rfl)) | fail)
    refine sh_loopX mixed (fun i : Nat => ([(0, .sl 1 (bys b)), (2, .ptr 0 0), (4, .ptr 1 0), (5, .int .i64 i)], [(0, .box (mq .zero) false), (1, .box (mq (padM (b.take i))) false)])) (fun i => b.length - i) (fun i => i ≤ b.length) 0 (by omega) (sh_weakA (by first | exact rfl | (simp only [go_sem, seval]; exact rfl) | (simp only [go_sem, seval]; done)) (by (repeat' (first | exact le_rqr rfl | exact le_rq rfl | refine le_rqr ?_ | refine le_rq ?_ | exact le_mq0 rfl | exact le_mq0r rfl | refine le_mqr ?_ | refine le_mq ?_ | exact trivial | exact rfl | refine le_int ?_ | refine le_bool ?_ | refine le_str ?_ | refine le_sl ?_ | refine le_own ?_ | refine le_osl ?_ | refine le_nsl ?_ | refine ⟨_, rfl, ?_⟩ | refine ⟨?_, ?_⟩ | fail)); first | done | fail) (by (repeat' (first | exact le_rqr rfl | exact le_rq rfl | refine le_rqr ?_ | refine le_rq ?_ | exact le_mq0 rfl | exact le_mq0r rfl | refine le_mqr ?_ | refine le_mq ?_ | exact trivial | exact rfl | refine le_int ?_ | refine le_bool ?_ | refine le_str ?_ | refine le_sl ?_ | refine le_own ?_ | refine le_osl ?_ | refine le_nsl ?_ | refine ⟨_, rfl, ?_⟩ | refine ⟨?_, ?_⟩ | fail)); first | done | fail) rfl (by first | (with_reducible exact rfl) | (simp only [go_sem, seval]; done) | (simp only [go_sem, seval]; exact rfl) | exact rfl) (by first | (with_reducible exact rfl) | (simp only [go_sem, seval]; done) | (simp only [go_sem, seval]; exact rfl) | exact rfl) rfl (by first | (with_reducible exact rfl) | (simp only [go_sem, seval]; done) | (simp only [go_sem, seval]; exact rfl) | exact rfl)) ?_
    intro i hi
    by_cases hi2 : i < b.length
    · have hg := bys_at hi2
      have hp := padM_put hi2 hl
      have hi32 : i < 32 := by omega
      repeat' (first | (with_reducible exact trivial) | simp (maxSteps := 2000000) (disch := omega) only [bys_length, hg, Int.toNat_natCast, mq_put hi32, hp, go_sem, seval, -List.reduceReplicate] | ((with_reducible refine isI ?_ ?_); (kernel_rfl)) | fail)
      exact ⟨i + 1, by omega, by omega, (sh_weakA (by first | exact rfl | (simp only [go_sem, seval]; exact rfl) | (simp only [go_sem, seval]; done)) (by (repeat' (first | exact le_rqr rfl | exact le_rq rfl | refine le_rqr ?_ | refine le_rq ?_ | exact le_mq0 rfl | exact le_mq0r rfl | refine le_mqr ?_ | refine le_mq ?_ | exact trivial | exact rfl | refine le_int ?_ | refine le_bool ?_ | refine le_str ?_ | refine le_sl ?_ | refine le_own ?_ | refine le_osl ?_ | refine le_nsl ?_ | refine ⟨_, rfl, ?_⟩ | refine ⟨?_, ?_⟩ | fail)); first | done | fail) (by (repeat' (first | exact le_rqr rfl | exact le_rq rfl | refine le_rqr ?_ | refine le_rq ?_ | exact le_mq0 rfl | exact le_mq0r rfl | refine le_mqr ?_ | refine le_mq ?_ | exact trivial | exact rfl | refine le_int ?_ | refine le_bool ?_ | refine le_str ?_ | refine le_sl ?_ | refine le_own ?_ | refine le_osl ?_ | refine le_nsl ?_ | refine ⟨_, rfl, ?_⟩ | refine ⟨?_, ?_⟩ | fail)); first | done | fail) rfl (by first | (with_reducible exact rfl) | (simp only [go_sem, seval]; done) | (simp only [go_sem, seval]; exact rfl) | exact rfl) (by first | (with_reducible exact rfl) | (simp only [go_sem, seval]; done) | (simp only [go_sem, seval]; exact rfl) | exact rfl) rfl (by first | (with_reducible exact rfl) | (simp only [go_sem, seval]; done) | (simp only [go_sem, seval]; exact rfl) | exact rfl))⟩
    · have he : i = b.length := by omega
      subst he
      repeat' (first | (with_reducible exact trivial) | simp (maxSteps := 2000000) (disch := omega) only [bys_length, List.take_length, go_sem, seval, -List.reduceReplicate] | ((with_reducible refine isE ?_); refine endA (by first | exact rfl | (simp only [go_sem, seval]; exact rfl) | (simp only [go_sem, seval]; done)) ?_ (by (repeat' (first | exact trivial | exact rfl | refine ⟨_, rfl, ?_⟩ | refine ⟨?_, ?_⟩ | fail)); first | done | fail) rfl rfl; (repeat' (first | exact le_rqr rfl | exact le_rq rfl | refine le_rqr ?_ | refine le_rq ?_ | exact le_mq0 rfl | exact le_mq0r rfl | refine le_mqr ?_ | refine le_mq ?_ | exact trivial | refine le_int ?_ | refine le_bool ?_ | refine le_str ?_ | refine le_sl ?_ | refine le_own ?_ | refine le_osl ?_ | refine le_nsl ?_ | exact rfl | refine ⟨?_, ?_⟩ | fail))) | ((with_reducible refine isI ?_ ?_); (kernel_rfl)) | fail)
  · rw [if_neg hl, decide_eq_false hl]
    repeat' (first | (with_reducible exact trivial) | simp (maxSteps := 2000000) (disch := omega) only [bys_length, go_sem, seval, mq_zero32, -List.reduceReplicate] | ((with_reducible refine isE ?_); refine endA (by first | exact rfl | (simp only [go_sem, seval]; exact rfl) | (simp only [go_sem, seval]; done)) ?_ (by (repeat' (first | exact trivial | exact rfl | refine ⟨_, rfl, ?_⟩ | refine ⟨?_, ?_⟩ | fail)); first | done | fail) rfl rfl; (repeat' (first | exact le_rqr rfl | exact le_rq rfl | refine le_rqr ?_ | refine le_rq ?_ | exact le_mq0 rfl | exact le_mq0r rfl | refine le_mqr ?_ | refine le_mq ?_ | exact trivial | refine le_int ?_ | refine le_bool ?_ | refine le_str ?_ | refine le_sl ?_ | refine le_own ?_ | refine le_osl ?_ | refine le_nsl ?_ | exact rfl | refine ⟨?_, ?_⟩ | fail))) | ((with_reducible refine isI ?_ ?_); (kernel_rfl)) | fail)
end Go.Proofs.YtaopaggmhleeoaaDoor

/- Layer 10: the plain laws of sets of keys. Own work. -/
namespace Go.Proofs.YtaopaggmhleeoaaDoor
open Go Go.Shade

/-! ### Without the noughts at the end -/
theorem trimR_len (p : UInt8 → Bool) (l : List UInt8) : (trimR p l).length = trimTo p l l.length := take_len (trimTo_le p l _)
theorem trimTo_gone (p : UInt8 → Bool) (l : List UInt8) : ∀ n i : Nat, trimTo p l n ≤ i → i < n → p (l.getD i 0) = true
  | 0, i, _, h => by omega
  | n + 1, i, h1, h2 => by
    rw [trimTo] at h1
    split at h1
    · next h =>
      by_cases he : i = n
      · rw [he]; exact h
      · exact trimTo_gone p l n i h1 (by omega)
    · omega
theorem trimTo_last (p : UInt8 → Bool) (l : List UInt8) : ∀ n k : Nat, trimTo p l n = k + 1 → p (l.getD k 0) = false
  | 0, k, h => by simp [trimTo] at h
  | n + 1, k, h => by
    rw [trimTo] at h
    split at h
    · exact trimTo_last p l n k h
    · next h1 =>
      have : n = k := by omega
      subst this
      simpa using h1
theorem trimTo_congr (p : UInt8 → Bool) {l q : List UInt8} (h : ∀ i, l.getD i 0 = q.getD i 0) : ∀ n, trimTo p l n = trimTo p q n
  | 0 => rfl
  | n + 1 => by rw [trimTo, trimTo, h n, trimTo_congr p h n]
theorem trimTo_more (l : List UInt8) : ∀ k : Nat, trimTo (· == 0) l (l.length + k) = trimTo (· == 0) l l.length
  | 0 => rfl
  | k + 1 => by
    rw [← Nat.add_assoc, trimTo, if_pos, trimTo_more l k]
    rw [List.getD_eq_getElem?_getD, List.getElem?_eq_none (by omega)]
    rfl
theorem padM_getD {b : List UInt8} (h : b.length ≤ 32) (i : Nat) : (padM b).l.getD i 0 = b.getD i 0 := by
  rw [List.getD_eq_getElem?_getD, List.getD_eq_getElem?_getD]
  unfold padM
  simp only
  rw [List.getElem?_take]
  by_cases h1 : i < 32
  · rw [if_pos h1]
    by_cases h2 : i < b.length
    · rw [List.getElem?_append_left h2]
    · rw [List.getElem?_append_right (by omega), List.getElem?_replicate, if_pos (by omega), List.getElem?_eq_none (by omega)]
      rfl
  · rw [if_neg h1, List.getElem?_eq_none (by omega)]
theorem trim_pad {b : List UInt8} (h : b.length ≤ 32) : trimR (· == 0) (padM b).l = trimR (· == 0) b := by
  have h1 : trimTo (· == 0) (padM b).l (padM b).l.length = trimTo (· == 0) b b.length := by
    rw [trimTo_congr _ (padM_getD h), (padM b).h, show 32 = b.length + (32 - b.length) by omega, trimTo_more]
  have hk := trimTo_le (· == 0) b b.length
  unfold trimR
  rw [h1]
  unfold padM
  simp only
  rw [List.take_take, Nat.min_eq_left (by omega), List.take_append, Nat.sub_eq_zero_of_le hk, List.take_zero, List.append_nil]
theorem pad_trim (m : Mask) : padM (trimR (· == 0) m.l) = m := by
  have hk := trimTo_le (· == 0) m.l m.l.length
  have hl : (trimR (· == 0) m.l).length ≤ 32 := by rw [trimR_len, ← m.h]; exact hk
  apply Mask.ext'
  apply List.ext_getElem (by rw [(padM _).h, m.h])
  intro i h1 h2
  have hp := padM_getD hl i
  rw [List.getD_eq_getElem?_getD, List.getElem?_eq_getElem h1] at hp
  have h3 : (trimR (· == 0) m.l).getD i 0 = m.l[i] := by
    rw [List.getD_eq_getElem?_getD]
    unfold trimR
    rw [List.getElem?_take]
    by_cases h4 : i < trimTo (· == 0) m.l m.l.length
    · rw [if_pos h4, List.getElem?_eq_getElem h2]
      rfl
    · rw [if_neg h4]
      have := trimTo_gone (· == 0) m.l m.l.length i (by omega) h2
      rw [List.getD_eq_getElem?_getD, List.getElem?_eq_getElem h2] at this
      have h5 : m.l[i] = 0 := by simpa using this
      rw [h5]
      rfl
  rw [h3] at hp
  exact hp

/-! ### Keys -/
theorem mem_keys {m : Mask} {c : UInt8} : c ∈ keysM m ↔ m.has c = true := by
  unfold keysM keyL
  rw [List.mem_filter, List.mem_map]
  constructor
  · exact fun h => h.2
  · exact fun h => ⟨⟨c.toNat, List.mem_range.2 c.toNat_lt, UInt8.ofNat_toNat⟩, h⟩
theorem of_keys (m : Mask) : Mask.of (keysM m) = m := Mask.ext_has (fun c => by
  rw [Mask.has_of, Bool.eq_iff_iff, List.contains_iff_mem, mem_keys])
theorem keysM_len (m : Mask) : (keysM m).length ≤ 256 := keyL_len m 256
theorem keys_up (m : Mask) : (keysM m).Pairwise fun a b => a.toNat < b.toNat := by
  unfold keysM keyL
  refine List.Pairwise.filter _ ?_
  rw [List.pairwise_map]
  refine List.Pairwise.imp_of_mem (R := fun a b => a < b) (fun ha hb h => ?_) List.pairwise_lt_range
  have ha := List.mem_range.1 ha
  have hb := List.mem_range.1 hb
  rw [UInt8.toNat_ofNat', UInt8.toNat_ofNat', Nat.mod_eq_of_lt ha, Nat.mod_eq_of_lt hb]
  exact h
theorem getD_at {l : List UInt8} {i : Nat} (h : i < l.length) : l.getD i 0 = l[i] := by
  rw [List.getD_eq_getElem?_getD, List.getElem?_eq_getElem h]
  rfl
theorem keys_lt {m : Mask} {i : Nat} (h : i + 1 < (keysM m).length) : ((keysM m).getD i 0).toNat < ((keysM m).getD (i + 1) 0).toNat := by
  rw [getD_at h, getD_at (by omega)]
  exact List.pairwise_iff_getElem.1 (keys_up m) i (i + 1) _ _ (by omega)
theorem keys_has {m : Mask} {i : Nat} (h : i < (keysM m).length) : m.has ((keysM m).getD i 0) = true := by
  rw [getD_at h]
  exact mem_keys.1 (List.getElem_mem h)

/-! ### As many as bits -/
def popN : Nat → Nat → Nat
  | 0, _ => 0
  | f + 1, x => x % 2 + popN f (x / 2)
theorem pop_dec : ∀ x : Nat, x < 256 → popN 8 x = x % 2 + popN 8 (x / 2) := by decide +kernel
theorem pop_bits : ∀ n : Nat, n < 256 → ((List.range 8).map fun j => if (!decide (UInt8.ofNat n &&& bitN j = 0)) = true then 1 else 0).sum = popN 8 n := by decide +kernel
def popM (m : Mask) (n : Nat) : Nat := ((List.range n).map fun i => popN 8 (m.at i).toNat).sum
theorem popM_succ (m : Mask) (n : Nat) : popM m (n + 1) = popM m n + popN 8 (m.at n).toNat := by
  unfold popM
  rw [List.range_succ, List.map_append, List.sum_append]
  simp
theorem at_has (m : Mask) {i j : Nat} (hi : i < 32) (hj : j < 8) : m.has (UInt8.ofNat (8 * i + j)) = !decide (m.at i &&& bitN j = 0) := by
  unfold Mask.has bitU
  have e : (UInt8.ofNat (8 * i + j)).toNat = 8 * i + j := by rw [UInt8.toNat_ofNat']; exact Nat.mod_eq_of_lt (by omega)
  rw [e, show (8 * i + j) / 8 = i by omega, show (8 * i + j) % 8 = j by omega]
theorem keyL_cnt (m : Mask) (n : Nat) : (keyL m (n + 1)).length = (keyL m n).length + if m.has (UInt8.ofNat n) = true then 1 else 0 := by
  rw [keyL_succ, List.length_append]
  split <;> rfl
theorem keyL_oct (m : Mask) : ∀ i : Nat, i ≤ 32 → (keyL m (8 * i)).length = popM m i
  | 0, _ => rfl
  | i + 1, h => by
    have hi : i < 32 := by omega
    have ih := keyL_oct m i (by omega)
    have hb := pop_bits (m.at i).toNat (m.at i).toNat_lt
    rw [UInt8.ofNat_toNat] at hb
    simp only [List.range_succ, List.range_zero, List.nil_append, List.map_append, List.map_cons, List.map_nil, List.sum_append, List.sum_cons, List.sum_nil] at hb
    rw [popM_succ, ← ih, ← hb, show 8 * (i + 1) = 8 * i + 0 + 1 + 1 + 1 + 1 + 1 + 1 + 1 + 1 by omega]
    simp only [keyL_cnt]
    rw [show 8 * i + 0 + 1 = 8 * i + 1 from rfl, show 8 * i + 1 + 1 = 8 * i + 2 from rfl, show 8 * i + 2 + 1 = 8 * i + 3 from rfl, show 8 * i + 3 + 1 = 8 * i + 4 from rfl, show 8 * i + 4 + 1 = 8 * i + 5 from rfl, show 8 * i + 5 + 1 = 8 * i + 6 from rfl, show 8 * i + 6 + 1 = 8 * i + 7 from rfl]
    have h0 := at_has m hi (by omega : 0 < 8)
    rw [Nat.add_zero] at h0
    rw [h0, at_has m hi (by omega : 1 < 8), at_has m hi (by omega : 2 < 8), at_has m hi (by omega : 3 < 8), at_has m hi (by omega : 4 < 8), at_has m hi (by omega : 5 < 8), at_has m hi (by omega : 6 < 8), at_has m hi (by omega : 7 < 8)]
    simp only [Nat.add_zero]
    omega
theorem keys_pop (m : Mask) : (keysM m).length = popM m 32 := keyL_oct m 32 (Nat.le_refl _)
theorem none_trim (m : Mask) : (trimR (· == 0) m.l).length = 0 ↔ (keysM m).length = 0 := by
  constructor
  · intro h
    have h1 := List.eq_nil_of_length_eq_zero h
    have h2 := pad_trim m
    rw [h1, padM_nil] at h2
    subst h2
    rw [List.length_eq_zero_iff, List.eq_nil_iff_forall_not_mem]
    intro c hc
    rw [mem_keys, Mask.has_zero] at hc
    cases hc
  · intro h
    have h1 := List.eq_nil_of_length_eq_zero h
    have h2 := of_keys m
    rw [h1] at h2
    subst h2
    decide +kernel

/-! ### With and without a key; two rows of keys -/
theorem wit_twice (m : Mask) (c : UInt8) (on : Bool) : (m.wit c on).wit c on = m.wit c on := Mask.ext_has (fun d => by
  rw [Mask.has_wit, Mask.has_wit]
  split <;> rfl)
theorem wit_back (m : Mask) (c : UInt8) (on : Bool) : (m.wit c on).wit c (m.has c) = m := Mask.ext_has (fun d => by
  rw [Mask.has_wit, Mask.has_wit]
  split
  · next h => rw [h]
  · rfl)
theorem of_same {a b : List UInt8} (h : ∀ c, a.contains c = b.contains c) : Mask.of a = Mask.of b := Mask.ext_has (fun c => by rw [Mask.has_of, Mask.has_of, h])
theorem con_app (a b : List UInt8) (c : UInt8) : (a ++ b).contains c = (a.contains c || b.contains c) := by
  rw [Bool.eq_iff_iff, Bool.or_eq_true, List.contains_iff_mem, List.contains_iff_mem, List.contains_iff_mem, List.mem_append]
theorem con_rev (a : List UInt8) (c : UInt8) : a.reverse.contains c = a.contains c := by
  rw [Bool.eq_iff_iff, List.contains_iff_mem, List.contains_iff_mem, List.mem_reverse]
theorem or_bit (o p q : UInt8) : (!decide ((o ||| p) &&& q = 0)) = ((!decide (o &&& q = 0)) || !decide (p &&& q = 0)) := by
  have : (o ||| p) &&& q = 0 ↔ o &&& q = 0 ∧ p &&& q = 0 := by
    rw [← UInt8.toNat_inj, ← UInt8.toNat_inj, ← UInt8.toNat_inj, UInt8.toNat_and, UInt8.toNat_and, UInt8.toNat_and, UInt8.toNat_or, Nat.and_or_distrib_right]
    exact Nat.or_eq_zero_iff
  by_cases h1 : o &&& q = 0 <;> by_cases h2 : p &&& q = 0 <;> simp_all
theorem of_or (a b : List UInt8) {i : Nat} (hi : i < 32) : (Mask.of (a ++ b)).at i = (Mask.of a).at i ||| (Mask.of b).at i := oct_ext (fun j hj => by
  rw [or_bit, ← at_has _ hi hj, ← at_has _ hi hj, ← at_has _ hi hj, Mask.has_of, Mask.has_of, Mask.has_of, con_app])
end Go.Proofs.YtaopaggmhleeoaaDoor

/- Layer 11's Check, and layer 16's small functions: what they come to. Own work. -/
namespace Go.Proofs.YtaopaggmhleeoaaDoor
open Go Go.Shade
variable {Γ : Globs}
structure Sub where
  kind : Int
  mode : Int
  verb : Int
  m : Mask
  l : List T3
theorem sub_eq {a b : Sub} : a = b ↔ a.kind = b.kind ∧ a.mode = b.mode ∧ a.verb = b.verb ∧ a.m = b.m ∧ a.l = b.l := by
  constructor
  · rintro rfl; exact ⟨rfl, rfl, rfl, rfl, rfl⟩
  · cases a; cases b; rintro ⟨h1, h2, h3, h4, h5⟩; simp_all
instance : DecidableEq Sub := fun a b => decidable_of_iff _ sub_eq.symm
def sA (s : Sub) : AV := .agg (.int .i64 s.kind :: .int .i64 s.mode :: .int .i64 s.verb :: (mq s.m ++ [.sl 6 (s.l.map tP)]))
def sP (s : Sub) : List PV := .s (.int .i64 s.kind) :: .s (.int .i64 s.mode) :: .s (.int .i64 s.verb) :: (mqP s.m ++ [.sl 6 (s.l.map tP)])
def cut180 (s : Sub) : Sub := ⟨s.kind, s.mode, s.verb, s.m, s.l.take 180⟩
def parts (s : Sub) : Sub := if s.kind = 1 then ⟨1, s.mode, 0, .zero, []⟩ else if s.kind = 2 then ⟨2, 0, s.verb, if s.verb = 253 then s.m else .zero, []⟩ else if s.kind = 3 then ⟨3, 0, 0, .zero, s.l⟩ else ⟨s.kind, 0, 0, .zero, []⟩
/-- What may be told. -/
def mayS (s : Sub) : Prop := s = parts s ∧ ((s.kind = 1 ∧ 0 ≤ s.mode ∧ s.mode ≤ 31) ∨ (s.kind = 2 ∧ 251 ≤ s.verb ∧ s.verb ≤ 254) ∨ (s.kind = 3 ∧ (∀ t ∈ s.l, mayT t) ∧ s.l.length ≤ 170))
attribute [go_sem] sA tA
theorem gOne (s : Sub) : Good Tryd.prog Γ 7 [sA s] [] (.ret (sA (cut180 s))) [] := by
  refine sh_start mixed F7 rfl ⟨(by first | exact rfl | (simp only [go_sem, seval]; done) | (simp only [go_sem, seval]; exact rfl)), (by first | exact rfl | (simp only [go_sem, seval]; done) | (simp only [go_sem, seval]; exact rfl)), (by first | exact rfl | (simp only [go_sem, seval]; done) | (simp only [go_sem, seval]; exact rfl)), (by first | exact rfl | (simp only [go_sem, seval]; done) | (simp only [go_sem, seval]; exact rfl)), (by first | exact rfl | (simp only [go_sem, seval]; done) | (simp only [go_sem, seval]; exact rfl))⟩ ?_
  by_cases h : 180 < s.l.length
  · repeat' (first | (with_reducible exact trivial) | simp (maxSteps := 2000000) (disch := omega) only [sA, cut180, List.length_map, ← List.map_take, go_sem, seval] | ((with_reducible refine isE ?_); refine endA (by first | exact rfl | (simp only [go_sem, seval]; exact rfl) | (simp only [go_sem, seval]; done)) ?_ (by (repeat' (first | exact trivial | exact rfl | refine ⟨_, rfl, ?_⟩ | refine ⟨?_, ?_⟩ | fail)); first | done | fail) rfl rfl; (repeat' (first | exact le_mq0 rfl | exact le_mq0r rfl | refine le_mqr ?_ | refine le_mq ?_ | exact trivial | refine le_int ?_ | refine le_bool ?_ | refine le_str ?_ | refine le_sl ?_ | refine le_own ?_ | refine le_osl ?_ | refine le_nsl ?_ | exact rfl | refine ⟨?_, ?_⟩ | fail))) | ((with_reducible refine isI ?_ ?_); (kernel_rfl)) | fail)
  · repeat' (first | (with_reducible exact trivial) | simp (maxSteps := 2000000) (disch := omega) only [sA, cut180, List.length_map, go_sem, seval] | ((with_reducible refine isE ?_); refine endA (by first | exact rfl | (simp only [go_sem, seval]; exact rfl) | (simp only [go_sem, seval]; done)) ?_ (by (repeat' (first | exact trivial | exact rfl | refine ⟨_, rfl, ?_⟩ | refine ⟨?_, ?_⟩ | fail)); first | done | fail) rfl rfl; (repeat' (first | exact le_mq0 rfl | exact le_mq0r rfl | refine le_mqr ?_ | refine le_mq ?_ | exact trivial | refine le_int ?_ | refine le_bool ?_ | refine le_str ?_ | refine le_sl ?_ | refine le_own ?_ | refine le_osl ?_ | refine le_nsl ?_ | exact rfl | (rw [List.take_of_length_le (by omega)]; done) | refine ⟨?_, ?_⟩ | fail))) | ((with_reducible refine isI ?_ ?_); (kernel_rfl)) | fail)
theorem gEqT (a b : List T3) (ha : a.length ≤ 1000000) (hb : b.length ≤ 1000000) : Good Tryd.prog Γ 27 [.sl 6 (a.map tP), .sl 6 (b.map tP)] [] (.ret (.bool (decide (a = b)))) [] := by
  refine sh_start mixed F27 rfl ⟨(by first | exact rfl | (simp only [go_sem, seval]; done) | (simp only [go_sem, seval]; exact rfl)), (by first | exact rfl | (simp only [go_sem, seval]; done) | (simp only [go_sem, seval]; exact rfl)), (by first | exact rfl | (simp only [go_sem, seval]; done) | (simp only [go_sem, seval]; exact rfl)), (by first | exact rfl | (simp only [go_sem, seval]; done) | (simp only [go_sem, seval]; exact rfl)), (by first | exact rfl | (simp only [go_sem, seval]; done) | (simp only [go_sem, seval]; exact rfl))⟩ ?_
  by_cases hl : a.length = b.length
  · repeat' (first | (with_reducible exact trivial) | simp (maxSteps := 2000000) (disch := omega) only [List.length_map, hl, go_sem, seval] | ((with_reducible refine isI ?_ ?_); (kernel_rfl)) | fail)
    refine sh_loopX mixed (fun i : Nat => ([(0, .sl 6 (a.map tP)), (1, .sl 6 (b.map tP)), (12, .int .i64 b.length), (13, .int .i64 i)], [])) (fun i => a.length - i) (fun i => i ≤ a.length ∧ a.take i = b.take i) 0 (by simp) (sh_weakA (by first | exact rfl | (simp only [go_sem, seval]; exact rfl) | (simp only [go_sem, seval]; done)) (by (repeat' (first | exact le_mq0 rfl | exact le_mq0r rfl | refine le_mqr ?_ | refine le_mq ?_ | exact trivial | exact rfl | refine le_int ?_ | refine le_bool ?_ | refine le_str ?_ | refine le_sl ?_ | refine le_own ?_ | refine le_osl ?_ | refine le_nsl ?_ | refine ⟨_, rfl, ?_⟩ | refine ⟨?_, ?_⟩ | (simp only [hl]; done) | fail)); first | done | fail) (by (repeat' (first | exact le_mq0 rfl | exact le_mq0r rfl | refine le_mqr ?_ | refine le_mq ?_ | exact trivial | exact rfl | refine le_int ?_ | refine le_bool ?_ | refine le_str ?_ | refine le_sl ?_ | refine le_own ?_ | refine le_osl ?_ | refine le_nsl ?_ | refine ⟨_, rfl, ?_⟩ | refine ⟨?_, ?_⟩ | (simp only [hl]; done) | fail)); first | done | fail) rfl (by first | exact rfl | (simp only [go_sem, seval]; done) | (simp only [go_sem, seval]; exact rfl)) (by first | exact rfl | (simp only [go_sem, seval]; done) | (simp only [go_sem, seval]; exact rfl)) rfl (by first | exact rfl | (simp only [go_sem, seval]; done) | (simp only [go_sem, seval]; exact rfl))) ?_
    rintro i ⟨hi, he⟩
    by_cases h : i < a.length
    · obtain ⟨t, u, h1, h2, h3⟩ := two_at h (by omega : i < b.length)
      have h3 := h3 he
      by_cases htu : t = u
      · repeat' (first | (with_reducible exact trivial) | simp (maxSteps := 2000000) (disch := omega) only [List.length_map, Int.toNat_natCast, h1, h2, tP, eq_tt, htu, decide_true, go_sem, seval] | ((with_reducible refine isI ?_ ?_); (kernel_rfl)) | fail)
        exact ⟨i + 1, by omega, ⟨by omega, h3.1 htu⟩, (sh_weakA (by first | exact rfl | (simp only [go_sem, seval]; exact rfl) | (simp only [go_sem, seval]; done)) (by (repeat' (first | exact le_mq0 rfl | exact le_mq0r rfl | refine le_mqr ?_ | refine le_mq ?_ | exact trivial | exact rfl | refine le_int ?_ | refine le_bool ?_ | refine le_str ?_ | refine le_sl ?_ | refine le_own ?_ | refine le_osl ?_ | refine le_nsl ?_ | refine ⟨_, rfl, ?_⟩ | refine ⟨?_, ?_⟩ | fail)); first | done | fail) (by (repeat' (first | exact le_mq0 rfl | exact le_mq0r rfl | refine le_mqr ?_ | refine le_mq ?_ | exact trivial | exact rfl | refine le_int ?_ | refine le_bool ?_ | refine le_str ?_ | refine le_sl ?_ | refine le_own ?_ | refine le_osl ?_ | refine le_nsl ?_ | refine ⟨_, rfl, ?_⟩ | refine ⟨?_, ?_⟩ | fail)); first | done | fail) rfl (by first | exact rfl | (simp only [go_sem, seval]; done) | (simp only [go_sem, seval]; exact rfl)) (by first | exact rfl | (simp only [go_sem, seval]; done) | (simp only [go_sem, seval]; exact rfl)) rfl (by first | exact rfl | (simp only [go_sem, seval]; done) | (simp only [go_sem, seval]; exact rfl)))⟩
      · have hne : a ≠ b := fun e => htu (h3.2 (by rw [e]))
        repeat' (first | (with_reducible exact trivial) | simp (maxSteps := 2000000) (disch := omega) only [List.length_map, Int.toNat_natCast, h1, h2, tP, eq_tt, htu, decide_false, go_sem, seval] | ((with_reducible refine isE ?_); refine endA (by first | exact rfl | (simp only [go_sem, seval]; exact rfl) | (simp only [go_sem, seval]; done)) ?_ (by (repeat' (first | exact trivial | exact rfl | refine ⟨_, rfl, ?_⟩ | refine ⟨?_, ?_⟩ | fail)); first | done | fail) rfl rfl; (repeat' (first | exact le_mq0 rfl | exact le_mq0r rfl | refine le_mqr ?_ | refine le_mq ?_ | exact trivial | refine le_int ?_ | refine le_bool ?_ | refine le_str ?_ | refine le_sl ?_ | refine le_own ?_ | refine le_osl ?_ | refine le_nsl ?_ | exact rfl | (exact (decide_eq_false hne).symm; done) | refine ⟨?_, ?_⟩ | fail))) | ((with_reducible refine isI ?_ ?_); (kernel_rfl)) | fail)
    · have e : a = b := by rw [← List.take_of_length_le (l := a) (i := i) (by omega), he, List.take_of_length_le (by omega)]
      repeat' (first | (with_reducible exact trivial) | simp (maxSteps := 2000000) (disch := omega) only [go_sem, seval] | ((with_reducible refine isE ?_); refine endA (by first | exact rfl | (simp only [go_sem, seval]; exact rfl) | (simp only [go_sem, seval]; done)) ?_ (by (repeat' (first | exact trivial | exact rfl | refine ⟨_, rfl, ?_⟩ | refine ⟨?_, ?_⟩ | fail)); first | done | fail) rfl rfl; (repeat' (first | exact le_mq0 rfl | exact le_mq0r rfl | refine le_mqr ?_ | refine le_mq ?_ | exact trivial | refine le_int ?_ | refine le_bool ?_ | refine le_str ?_ | refine le_sl ?_ | refine le_own ?_ | refine le_osl ?_ | refine le_nsl ?_ | exact rfl | (exact (decide_eq_true e).symm; done) | refine ⟨?_, ?_⟩ | fail))) | ((with_reducible refine isI ?_ ?_); (kernel_rfl)) | fail)
  · repeat' (first | (with_reducible exact trivial) | simp (maxSteps := 2000000) (disch := omega) only [List.length_map, Int.natCast_inj, hl, go_sem, seval] | ((with_reducible refine isE ?_); refine endA (by first | exact rfl | (simp only [go_sem, seval]; exact rfl) | (simp only [go_sem, seval]; done)) ?_ (by (repeat' (first | exact trivial | exact rfl | refine ⟨_, rfl, ?_⟩ | refine ⟨?_, ?_⟩ | fail)); first | done | fail) rfl rfl; (repeat' (first | exact le_mq0 rfl | exact le_mq0r rfl | refine le_mqr ?_ | refine le_mq ?_ | exact trivial | refine le_int ?_ | refine le_bool ?_ | refine le_str ?_ | refine le_sl ?_ | refine le_own ?_ | refine le_osl ?_ | refine le_nsl ?_ | exact rfl | (exact (decide_eq_false (fun e => hl (by rw [e]))).symm; done) | refine ⟨?_, ?_⟩ | fail))) | ((with_reducible refine isI ?_ ?_); (kernel_rfl)) | fail)
set_option maxHeartbeats 4000000 in
theorem gSSame (a b : Sub) (ha : a.l.length ≤ 1000000) (hb : b.l.length ≤ 1000000) : Good Tryd.prog Γ 14 [sA a, sA b] [] (.ret (.bool (decide (a = b)))) [] := by
  refine sh_start mixed F14 rfl ⟨(by first | exact rfl | (simp only [go_sem, seval]; done) | (simp only [go_sem, seval]; exact rfl)), (by first | exact rfl | (simp only [go_sem, seval]; done) | (simp only [go_sem, seval]; exact rfl)), (by first | exact rfl | (simp only [go_sem, seval]; done) | (simp only [go_sem, seval]; exact rfl)), (by first | exact rfl | (simp only [go_sem, seval]; done) | (simp only [go_sem, seval]; exact rfl)), (by first | exact rfl | (simp only [go_sem, seval]; done) | (simp only [go_sem, seval]; exact rfl))⟩ ?_
  rw [show decide (a = b) = decide (a.kind = b.kind ∧ a.mode = b.mode ∧ a.verb = b.verb ∧ a.m = b.m ∧ a.l = b.l) from decide_eq_decide.2 sub_eq]
  by_cases h1 : a.kind = b.kind <;> by_cases h2 : a.mode = b.mode <;> by_cases h3 : a.verb = b.verb <;> by_cases h4 : a.m = b.m
  all_goals repeat' (first | (with_reducible exact trivial) | simp (maxSteps := 2000000) (disch := omega) only [sA, h1, h2, h3, h4, decide_true, decide_false, eq_self, go_sem, seval] | ((with_reducible refine isS ?_); first | refine sh_call (gEqT a.l b.l ha hb) [] (by (repeat' (first | exact le_mq0 rfl | exact le_mq0r rfl | refine le_mqr ?_ | refine le_mq ?_ | exact rfl | exact trivial | exact le_nbys | refine ⟨?_, ?_⟩ | fail)); first | done | fail) trivial rfl (by (repeat' (first | exact trivial | exact .inr rfl | refine ⟨?_, ?_⟩ | fail)); first | done | fail) ?_ | fail) | ((with_reducible refine isT ?_); first | refine sh_callT (gEqT a.l b.l ha hb) [] (by (repeat' (first | exact le_mq0 rfl | exact le_mq0r rfl | refine le_mqr ?_ | refine le_mq ?_ | exact rfl | exact trivial | exact le_nbys | refine ⟨?_, ?_⟩ | fail)); first | done | fail) trivial rfl (by (repeat' (first | exact trivial | exact .inr rfl | refine ⟨?_, ?_⟩ | fail)); first | done | fail) ?_ | fail) | ((with_reducible refine isE ?_); refine endA (by first | exact rfl | (simp only [go_sem, seval]; exact rfl) | (simp only [go_sem, seval]; done)) ?_ (by (repeat' (first | exact trivial | exact rfl | refine ⟨_, rfl, ?_⟩ | refine ⟨?_, ?_⟩ | fail)); first | done | fail) rfl rfl; (repeat' (first | exact le_mq0 rfl | exact le_mq0r rfl | refine le_mqr ?_ | refine le_mq ?_ | exact trivial | refine le_int ?_ | refine le_bool ?_ | refine le_str ?_ | refine le_sl ?_ | refine le_own ?_ | refine le_osl ?_ | refine le_nsl ?_ | exact rfl | (simp; done) | refine ⟨?_, ?_⟩ | fail))) | ((with_reducible refine isI ?_ ?_); (kernel_rfl)) | fail)
set_option maxHeartbeats 4000000 in
theorem gPartsS (s : Sub) : Good Tryd.prog Γ 25 [sA s] [] (.ret (sA (parts s))) [] := by
  refine sh_start mixed F25 rfl ⟨(by first | exact rfl | (simp only [go_sem, seval]; done) | (simp only [go_sem, seval]; exact rfl)), (by first | exact rfl | (simp only [go_sem, seval]; done) | (simp only [go_sem, seval]; exact rfl)), (by first | exact rfl | (simp only [go_sem, seval]; done) | (simp only [go_sem, seval]; exact rfl)), (by first | exact rfl | (simp only [go_sem, seval]; done) | (simp only [go_sem, seval]; exact rfl)), (by first | exact rfl | (simp only [go_sem, seval]; done) | (simp only [go_sem, seval]; exact rfl))⟩ ?_
  by_cases h1 : s.kind = 1
  · repeat' (first | (with_reducible exact trivial) | simp (maxSteps := 2000000) (disch := omega) only [sA, parts, h1, go_sem, seval] | ((with_reducible refine isE ?_); refine endA (by first | exact rfl | (simp only [go_sem, seval]; exact rfl) | (simp only [go_sem, seval]; done)) ?_ (by (repeat' (first | exact trivial | exact rfl | refine ⟨_, rfl, ?_⟩ | refine ⟨?_, ?_⟩ | fail)); first | done | fail) rfl rfl; (repeat' (first | exact le_mq0 rfl | exact le_mq0r rfl | refine le_mqr ?_ | refine le_mq ?_ | exact trivial | refine le_int ?_ | refine le_bool ?_ | refine le_str ?_ | refine le_sl ?_ | refine le_own ?_ | refine le_osl ?_ | refine le_nsl ?_ | exact rfl | refine ⟨?_, ?_⟩ | fail))) | ((with_reducible refine isI ?_ ?_); (kernel_rfl)) | fail)
  · by_cases h2 : s.kind = 2
    · by_cases h3 : s.verb = 253
      · repeat' (first | (with_reducible exact trivial) | simp (maxSteps := 2000000) (disch := omega) only [sA, parts, h2, h3, go_sem, seval] | ((with_reducible refine isE ?_); refine endA (by first | exact rfl | (simp only [go_sem, seval]; exact rfl) | (simp only [go_sem, seval]; done)) ?_ (by (repeat' (first | exact trivial | exact rfl | refine ⟨_, rfl, ?_⟩ | refine ⟨?_, ?_⟩ | fail)); first | done | fail) rfl rfl; (repeat' (first | exact le_mq0 rfl | exact le_mq0r rfl | refine le_mqr ?_ | refine le_mq ?_ | exact trivial | refine le_int ?_ | refine le_bool ?_ | refine le_str ?_ | refine le_sl ?_ | refine le_own ?_ | refine le_osl ?_ | refine le_nsl ?_ | exact rfl | refine ⟨?_, ?_⟩ | fail))) | ((with_reducible refine isI ?_ ?_); (kernel_rfl)) | fail)
      · repeat' (first | (with_reducible exact trivial) | simp (maxSteps := 2000000) (disch := omega) only [sA, parts, h2, h3, go_sem, seval] | ((with_reducible refine isE ?_); refine endA (by first | exact rfl | (simp only [go_sem, seval]; exact rfl) | (simp only [go_sem, seval]; done)) ?_ (by (repeat' (first | exact trivial | exact rfl | refine ⟨_, rfl, ?_⟩ | refine ⟨?_, ?_⟩ | fail)); first | done | fail) rfl rfl; (repeat' (first | exact le_mq0 rfl | exact le_mq0r rfl | refine le_mqr ?_ | refine le_mq ?_ | exact trivial | refine le_int ?_ | refine le_bool ?_ | refine le_str ?_ | refine le_sl ?_ | refine le_own ?_ | refine le_osl ?_ | refine le_nsl ?_ | exact rfl | refine ⟨?_, ?_⟩ | fail))) | ((with_reducible refine isI ?_ ?_); (kernel_rfl)) | fail)
    · by_cases h3 : s.kind = 3
      · repeat' (first | (with_reducible exact trivial) | simp (maxSteps := 2000000) (disch := omega) only [sA, parts, h3, go_sem, seval] | ((with_reducible refine isE ?_); refine endA (by first | exact rfl | (simp only [go_sem, seval]; exact rfl) | (simp only [go_sem, seval]; done)) ?_ (by (repeat' (first | exact trivial | exact rfl | refine ⟨_, rfl, ?_⟩ | refine ⟨?_, ?_⟩ | fail)); first | done | fail) rfl rfl; (repeat' (first | exact le_mq0 rfl | exact le_mq0r rfl | refine le_mqr ?_ | refine le_mq ?_ | exact trivial | refine le_int ?_ | refine le_bool ?_ | refine le_str ?_ | refine le_sl ?_ | refine le_own ?_ | refine le_osl ?_ | refine le_nsl ?_ | exact rfl | refine ⟨?_, ?_⟩ | fail))) | ((with_reducible refine isI ?_ ?_); (kernel_rfl)) | fail)
      · repeat' (first | (with_reducible exact trivial) | simp (maxSteps := 2000000) (disch := omega) only [sA, parts, h1, h2, h3, go_sem, seval] | ((with_reducible refine isE ?_); refine endA (by first | exact rfl | (simp only [go_sem, seval]; exact rfl) | (simp only [go_sem, seval]; done)) ?_ (by (repeat' (first | exact trivial | exact rfl | refine ⟨_, rfl, ?_⟩ | refine ⟨?_, ?_⟩ | fail)); first | done | fail) rfl rfl; (repeat' (first | exact le_mq0 rfl | exact le_mq0r rfl | refine le_mqr ?_ | refine le_mq ?_ | exact trivial | refine le_int ?_ | refine le_bool ?_ | refine le_str ?_ | refine le_sl ?_ | refine le_own ?_ | refine le_osl ?_ | refine le_nsl ?_ | exact rfl | refine ⟨?_, ?_⟩ | fail))) | ((with_reducible refine isI ?_ ?_); (kernel_rfl)) | fail)
end Go.Proofs.YtaopaggmhleeoaaDoor
