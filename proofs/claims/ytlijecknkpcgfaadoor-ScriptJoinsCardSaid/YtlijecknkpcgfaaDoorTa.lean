/- Layer 7: what its functions come to. Own work. -/
import Derived.Test.YtlijecknkpcgfaaDoorCode
import Derived.Test.YtlijecknkpcgfaaDoorZ3
namespace Go.Proofs.YtlijecknkpcgfaaDoor
open Go Go.Shade
variable {Γ : Globs}
theorem mixed : Tryd.prog.follows .mixedOrders = true := by kernel_rfl

structure T3 where
  f : Int
  level : Int
  ack : Bool
  inn : Bool
  out : Bool
  v : UInt8
theorem t3_eq {t u : T3} : t = u ↔ t.f = u.f ∧ t.level = u.level ∧ t.ack = u.ack ∧ t.inn = u.inn ∧ t.out = u.out ∧ t.v = u.v := by
  constructor
  · rintro rfl; exact ⟨rfl, rfl, rfl, rfl, rfl, rfl⟩
  · cases t; cases u; rintro ⟨h1, h2, h3, h4, h5, h6⟩; simp_all
instance : DecidableEq T3 := fun t u => decidable_of_iff _ t3_eq.symm
def T3.zero : T3 := ⟨0, 0, false, false, false, 0⟩
def tP (t : T3) : List PV := [.s (.int .i64 t.f), .s (.int .i64 t.level), .s (.bool t.ack), .s (.bool t.inn), .s (.bool t.out), .s (.int .u8 t.v.toNat)]
def tA (t : T3) : AV := .agg [.int .i64 t.f, .int .i64 t.level, .bool t.ack, .bool t.inn, .bool t.out, .int .u8 t.v.toNat]
theorem tP_getD {l : List T3} {i : Nat} (h : i < l.length) : (l.map tP).getD i [] = tP (l.getD i .zero) := by
  rw [List.getD_eq_getElem?_getD, List.getElem?_map, List.getD_eq_getElem?_getD, List.getElem?_eq_getElem h]
  rfl
theorem eq_tt (t u : T3) : eqAs [0, 0, 1, 1, 1, 0] [.int .i64 t.f, .int .i64 t.level, .bool t.ack, .bool t.inn, .bool t.out, .int .u8 t.v.toNat] [.int .i64 u.f, .int .i64 u.level, .bool u.ack, .bool u.inn, .bool u.out, .int .u8 u.v.toNat] = some (decide (t = u)) := by
  simp only [eqAs_int, eqAs_bool, eqAs_nil, Option.map_some, Option.some.injEq, t3_eq, u8n_eq]
  simp [Bool.decide_and]

def mayT (t : T3) : Prop := 0 ≤ t.f ∧ t.f ≤ 255 ∧ 0 ≤ t.level ∧ t.level ≤ 3
instance (t : T3) : Decidable (mayT t) := inferInstanceAs (Decidable (_ ∧ _))
def mk (t : T3) : UInt8 := ((u8 t.level ||| u8 (if t.ack = true then 128 else 0)) ||| u8 (if t.inn = true then 64 else 0)) ||| u8 (if t.out = true then 32 else 0)
def putT (l : List T3) : List UInt8 := l.flatMap fun t => [u8 t.f, mk t, t.v]
def getT : List UInt8 → Option (List T3)
  | [] => some []
  | a :: m :: v :: r => if m &&& 28 = 0 then (getT r).map (⟨a.toNat, ((m &&& 3).toNat : Int), decide (¬ (m &&& 128 = 0)), decide (¬ (m &&& 64 = 0)), decide (¬ (m &&& 32 = 0)), v⟩ :: ·) else none
  | _ => none

theorem gCheck (t : T3) : Good Tryd.prog Γ 89 [tA t] [] (.ret (.int .i64 (if mayT t then 0 else 1))) [] := by
  refine sh_start mixed F89 rfl ⟨(by first | exact rfl | (simp only [go_sem, seval]; done) | (simp only [go_sem, seval]; exact rfl)), (by first | exact rfl | (simp only [go_sem, seval]; done) | (simp only [go_sem, seval]; exact rfl)), (by first | exact rfl | (simp only [go_sem, seval]; done) | (simp only [go_sem, seval]; exact rfl)), (by first | exact rfl | (simp only [go_sem, seval]; done) | (simp only [go_sem, seval]; exact rfl)), (by first | exact rfl | (simp only [go_sem, seval]; done) | (simp only [go_sem, seval]; exact rfl))⟩ ?_
  repeat' (first | (with_reducible exact trivial) | simp (maxSteps := 2000000) (disch := omega) only [tA, go_sem, seval] | (first | ((with_reducible refine isC ?_); first | refine fork_P (fun h => ?_) (fun h => ?_) | refine fork_N (fun h => ?_) (fun h => ?_) | fail) | ((with_reducible refine isG ?_); first | refine fork_gP (fun h => ?_) (fun h => ?_) | refine fork_gN (fun h => ?_) (fun h => ?_) | refine fork_gnP (fun h => ?_) (fun h => ?_) | refine fork_gnN (fun h => ?_) (fun h => ?_) | fail) | fail) | ((with_reducible refine isE ?_); refine endA (by first | exact rfl | (simp only [go_sem, seval]; exact rfl) | (simp only [go_sem, seval]; done)) ?_ (by (repeat' (first | exact trivial | exact rfl | refine ⟨_, rfl, ?_⟩ | refine ⟨?_, ?_⟩ | fail)); first | done | fail) rfl rfl; (repeat' (first | exact trivial | refine le_int ?_ | refine le_bool ?_ | refine le_str ?_ | refine le_sl ?_ | refine le_own ?_ | refine le_osl ?_ | refine le_nsl ?_ | exact rfl | (first | (rw [if_pos (show mayT t from ⟨by omega, by omega, by omega, by omega⟩)]) | (rw [if_neg (show ¬ mayT t from fun h => by have := h.1; have := h.2.1; have := h.2.2.1; have := h.2.2.2; omega)]); done) | refine ⟨?_, ?_⟩ | fail))) | ((with_reducible refine isI ?_ ?_); (kernel_rfl)) | fail)
theorem gMay (t : T3) : Good Tryd.prog Γ 35 [tA t] [] (.ret (.bool (decide (mayT t)))) [] := by
  refine sh_start mixed F35 rfl ⟨(by first | exact rfl | (simp only [go_sem, seval]; done) | (simp only [go_sem, seval]; exact rfl)), (by first | exact rfl | (simp only [go_sem, seval]; done) | (simp only [go_sem, seval]; exact rfl)), (by first | exact rfl | (simp only [go_sem, seval]; done) | (simp only [go_sem, seval]; exact rfl)), (by first | exact rfl | (simp only [go_sem, seval]; done) | (simp only [go_sem, seval]; exact rfl)), (by first | exact rfl | (simp only [go_sem, seval]; done) | (simp only [go_sem, seval]; exact rfl))⟩ ?_
  repeat' (first | (with_reducible exact trivial) | simp (maxSteps := 2000000) (disch := omega) only [tA, go_sem, seval] | (first | ((with_reducible refine isC ?_); first | refine fork_P (fun h => ?_) (fun h => ?_) | refine fork_N (fun h => ?_) (fun h => ?_) | fail) | ((with_reducible refine isG ?_); first | refine fork_gP (fun h => ?_) (fun h => ?_) | refine fork_gN (fun h => ?_) (fun h => ?_) | refine fork_gnP (fun h => ?_) (fun h => ?_) | refine fork_gnN (fun h => ?_) (fun h => ?_) | fail) | fail) | ((with_reducible refine isE ?_); refine endA (by first | exact rfl | (simp only [go_sem, seval]; exact rfl) | (simp only [go_sem, seval]; done)) ?_ (by (repeat' (first | exact trivial | exact rfl | refine ⟨_, rfl, ?_⟩ | refine ⟨?_, ?_⟩ | fail)); first | done | fail) rfl rfl; (repeat' (first | exact trivial | refine le_int ?_ | refine le_bool ?_ | refine le_str ?_ | refine le_sl ?_ | refine le_own ?_ | refine le_osl ?_ | refine le_nsl ?_ | exact rfl | (first | exact (decide_eq_decide.2 ⟨fun h => ⟨by omega, by omega, by omega, h⟩, fun h => h.2.2.2⟩) | exact (decide_eq_false (fun h => by have := h.1; have := h.2.1; have := h.2.2.1; have := h.2.2.2; omega)).symm; done) | refine ⟨?_, ?_⟩ | fail))) | ((with_reducible refine isI ?_ ?_); (kernel_rfl)) | fail)
theorem gMark (is : Bool) (b : Int) : Good Tryd.prog Γ 90 [.bool is, .int .u8 b] [] (.ret (.int .u8 (if is = true then b else 0))) [] := by
  refine sh_start mixed F90 rfl ⟨(by first | exact rfl | (simp only [go_sem, seval]; done) | (simp only [go_sem, seval]; exact rfl)), (by first | exact rfl | (simp only [go_sem, seval]; done) | (simp only [go_sem, seval]; exact rfl)), (by first | exact rfl | (simp only [go_sem, seval]; done) | (simp only [go_sem, seval]; exact rfl)), (by first | exact rfl | (simp only [go_sem, seval]; done) | (simp only [go_sem, seval]; exact rfl)), (by first | exact rfl | (simp only [go_sem, seval]; done) | (simp only [go_sem, seval]; exact rfl))⟩ ?_
  cases is <;> repeat' (first | (with_reducible exact trivial) | simp (maxSteps := 2000000) (disch := omega) only [go_sem, seval] | (first | ((with_reducible refine isC ?_); first | refine fork_P (fun h => ?_) (fun h => ?_) | refine fork_N (fun h => ?_) (fun h => ?_) | fail) | ((with_reducible refine isG ?_); first | refine fork_gP (fun h => ?_) (fun h => ?_) | refine fork_gN (fun h => ?_) (fun h => ?_) | refine fork_gnP (fun h => ?_) (fun h => ?_) | refine fork_gnN (fun h => ?_) (fun h => ?_) | fail) | fail) | ((with_reducible refine isE ?_); refine endA (by first | exact rfl | (simp only [go_sem, seval]; exact rfl) | (simp only [go_sem, seval]; done)) ?_ (by (repeat' (first | exact trivial | exact rfl | refine ⟨_, rfl, ?_⟩ | refine ⟨?_, ?_⟩ | fail)); first | done | fail) rfl rfl; (repeat' (first | exact trivial | refine le_int ?_ | refine le_bool ?_ | refine le_str ?_ | refine le_sl ?_ | refine le_own ?_ | refine le_osl ?_ | refine le_nsl ?_ | exact rfl | (rfl; done) | refine ⟨?_, ?_⟩ | fail))) | ((with_reducible refine isI ?_ ?_); (kernel_rfl)) | fail)
end Go.Proofs.YtlijecknkpcgfaaDoor
