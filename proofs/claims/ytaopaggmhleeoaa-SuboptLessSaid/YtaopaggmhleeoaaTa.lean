/- Layer 7: what its functions come to. Own work. -/
import Derived.Test.YtaopaggmhleeoaaCode
import Derived.Test.YtaopaggmhleeoaaSub
namespace Go.Proofs.Ytaopaggmhleeoaa
open Go Go.Shade
variable {Γ : Globs}
theorem mixed : Try.prog.follows .mixedOrders = true := by kernel_rfl

structure T3 where
  f : Int
  level : Int
  ack : Bool
  inn : Bool
  out : Bool
  v : UInt8
theorem t3_eq {t u : T3} : t = u ↔ t.f = u.f ∧ t.level = u.level ∧ t.ack = u.ack ∧ t.inn = u.inn ∧ t.out = u.out ∧ t.v = u.v := by
  constructor
  · rintro rfl; exact ⟨rfl, rfl, rfl, rfl, rfl, rfl⟩
  · cases t; cases u; rintro ⟨h1, h2, h3, h4, h5, h6⟩; simp_all
instance : DecidableEq T3 := fun t u => decidable_of_iff _ t3_eq.symm
def T3.zero : T3 := ⟨0, 0, false, false, false, 0⟩
def tP (t : T3) : List PV := [.s (.int .i64 t.f), .s (.int .i64 t.level), .s (.bool t.ack), .s (.bool t.inn), .s (.bool t.out), .s (.int .u8 t.v.toNat)]
def tA (t : T3) : AV := .agg [.int .i64 t.f, .int .i64 t.level, .bool t.ack, .bool t.inn, .bool t.out, .int .u8 t.v.toNat]
theorem tP_getD {l : List T3} {i : Nat} (h : i < l.length) : (l.map tP).getD i [] = tP (l.getD i .zero) := by
  rw [List.getD_eq_getElem?_getD, List.getElem?_map, List.getD_eq_getElem?_getD, List.getElem?_eq_getElem h]
  rfl
theorem eq_tt (t u : T3) : eqAs [0, 0, 1, 1, 1, 0] [.int .i64 t.f, .int .i64 t.level, .bool t.ack, .bool t.inn, .bool t.out, .int .u8 t.v.toNat] [.int .i64 u.f, .int .i64 u.level, .bool u.ack, .bool u.inn, .bool u.out, .int .u8 u.v.toNat] = some (decide (t = u)) := by
  simp only [eqAs_int, eqAs_bool, eqAs_nil, Option.map_some, Option.some.injEq, t3_eq, u8n_eq]
  simp [Bool.decide_and]

def mayT (t : T3) : Prop := 0 ≤ t.f ∧ t.f ≤ 255 ∧ 0 ≤ t.level ∧ t.level ≤ 3
instance (t : T3) : Decidable (mayT t) := inferInstanceAs (Decidable (_ ∧ _))
def mk (t : T3) : UInt8 := ((u8 t.level ||| u8 (if t.ack = true then 128 else 0)) ||| u8 (if t.inn = true then 64 else 0)) ||| u8 (if t.out = true then 32 else 0)
def putT (l : List T3) : List UInt8 := l.flatMap fun t => [u8 t.f, mk t, t.v]
def getT : List UInt8 → Option (List T3)
  | [] => some []
  | a :: m :: v :: r => if m &&& 28 = 0 then (getT r).map (⟨a.toNat, ((m &&& 3).toNat : Int), decide (¬ (m &&& 128 = 0)), decide (¬ (m &&& 64 = 0)), decide (¬ (m &&& 32 = 0)), v⟩ :: ·) else none
  | _ => none

end Go.Proofs.Ytaopaggmhleeoaa
