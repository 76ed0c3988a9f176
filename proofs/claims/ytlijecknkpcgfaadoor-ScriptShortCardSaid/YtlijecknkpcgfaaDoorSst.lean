/- The zero of a step (50 cells), kept shut. Own work. -/
import Derived.Test.YtlijecknkpcgfaaDoorZ3
namespace Go.Shade
open Go
def tz50 : List PV := .s (.int .i64 0) :: .s (.int .i64 0) :: .s (.int .i64 0) :: .s (.int .u8 0) :: .s (.bool false) :: .s (.bool false) :: (List.replicate 32 (.s (.int .u8 0)) ++ [.s (.int .i64 0), .s (.int .i64 0), .s (.bool false), .s (.bool false), .s (.bool false), .s (.int .u8 0), .s (.slice none 0 0), .s (.float .f64 0), .s (.float .f64 0), .s (.float .f64 0), .s (.float .f64 0), .s (.int .u64 0)])
theorem tz50_map : List.map AV.p tz50 = .p (.s (.int .i64 0)) :: .p (.s (.int .i64 0)) :: .p (.s (.int .i64 0)) :: .p (.s (.int .u8 0)) :: .p (.s (.bool false)) :: .p (.s (.bool false)) :: (mq .zero ++ [.p (.s (.int .i64 0)), .p (.s (.int .i64 0)), .p (.s (.bool false)), .p (.s (.bool false)), .p (.s (.bool false)), .p (.s (.int .u8 0)), .p (.s (.slice none 0 0)), .p (.s (.float .f64 0)), .p (.s (.float .f64 0)), .p (.s (.float .f64 0)), .p (.s (.float .f64 0)), .p (.s (.int .u64 0))]) := rfl
theorem tz50_len : tz50.length = 50 := rfl
theorem tz50_one : tz50.all PV.oneCell = true := rfl
theorem pairs_u8 : ∀ (l k : List UInt8) (us vs : List AV), l.length = k.length → pairs (l.map (fun b => AV.p (.s (.int .u8 b.toNat))) ++ us) (k.map (fun b => AV.p (.s (.int .u8 b.toNat))) ++ vs) = pairs us vs
  | [], [], us, vs, _ => rfl
  | c :: l, d :: k, us, vs, h => by
    rw [List.map_cons, List.map_cons, List.cons_append, List.cons_append, pairs_c, pair_p, List.nil_append]
    exact pairs_u8 l k us vs (by simpa using h)
theorem pairs_mqa (m n : Mask) (us vs : List AV) : pairs (mq m ++ us) (mq n ++ vs) = pairs us vs := pairs_u8 _ _ us vs (by rw [m.h, n.h])
theorem mqP_takeE (m : Mask) : (mqP m).take 32 = mqP m := List.take_of_length_le (by rw [mqP_len]; omega)
theorem mqP_getr (m : Mask) (l : List PV) (k : Nat) : (mqP m ++ l)[k + 32]? = l[k]? := by
  rw [List.getElem?_append_right (by rw [mqP_len]; omega), mqP_len]
  congr 1
theorem mqP_dropr (m : Mask) (l : List PV) (k : Nat) : (mqP m ++ l).drop (k + 32) = l.drop k := by
  rw [List.drop_append, mqP_len]
  simp [List.drop_eq_nil_of_le, mqP_len]
theorem mqP_taker (m : Mask) (l : List PV) (k : Nat) : (mqP m ++ l).take (k + 32) = mqP m ++ l.take k := by
  rw [List.take_append, mqP_len]
  simp [List.take_of_length_le, mqP_len]
attribute [go_sem] tz50_map tz50_len tz50_one pairs_mqa mqP_takeE mqP_getr mqP_dropr mqP_taker
/-- Cells of which nothing is told. -/
def jk50 : List AV := List.replicate 50 .junk
theorem renL_jk50 (ρ : Nat → Nat) : renL ρ jk50 = jk50 := rfl
theorem names_jk50 : namesL jk50 = [] := rfl
theorem jk50_len : jk50.length = 50 := rfl
theorem pairs_junk : ∀ (n : Nat) (us : List AV), pairs (List.replicate n .junk) us = []
  | 0, us => by rw [List.replicate_zero, pairs_n]
  | n + 1, [] => pairs_n' _
  | n + 1, u :: us => by rw [List.replicate_succ, pairs_c, pair_j, List.nil_append, pairs_junk n us]
theorem pairs_jk50 (us : List AV) : pairs jk50 us = [] := pairs_junk 50 us
theorem le_junkL : ∀ (l : List AV), LeAs l (List.replicate l.length .junk)
  | [] => by rw [List.length_nil, List.replicate_zero, LeAs]; trivial
  | a :: l => by rw [List.length_cons, List.replicate_succ, LeAs]; exact ⟨by cases a <;> (unfold LeA; trivial), le_junkL l⟩
theorem le_jk50 {l : List AV} {ρ : Nat → Nat} (h : l.length = 50) : LeAs l (renL ρ jk50) := by
  rw [renL_jk50, jk50, ← h]
  exact le_junkL l
attribute [go_sem] renL_jk50 names_jk50 jk50_len pairs_jk50
end Go.Shade
