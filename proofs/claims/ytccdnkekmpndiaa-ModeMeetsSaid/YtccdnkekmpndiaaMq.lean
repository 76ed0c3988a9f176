/- Layer 16: what both have at rest: the walk. Own work. -/
import Derived.Test.YtccdnkekmpndiaaMp
namespace Go.Proofs.Ytccdnkekmpndiaa
open Go Go.Shade
variable {Γ : Globs}
theorem pairs_u8 : ∀ (l k : List UInt8) (us vs : List AV), l.length = k.length → pairs (l.map (fun b => AV.p (.s (.int .u8 b.toNat))) ++ us) (k.map (fun b => AV.p (.s (.int .u8 b.toNat))) ++ vs) = pairs us vs
  | [], [], us, vs, _ => rfl
  | c :: l, d :: k, us, vs, h => by
    rw [List.map_cons, List.map_cons, List.cons_append, List.cons_append, pairs_c, pair_p, List.nil_append]
    exact pairs_u8 l k us vs (by simpa using h)
theorem pairs_mqa (m n : Mask) (us vs : List AV) : pairs (mq m ++ us) (mq n ++ vs) = pairs us vs := pairs_u8 _ _ us vs (by rw [m.h, n.h])
theorem mqP_takeE (m : Mask) : (mqP m).take 32 = mqP m := List.take_of_length_le (by rw [mqP_len]; omega)
attribute [go_sem] mqP_takeE pairs_mqa asksZ rulesZ
structure MAct where
  comes : Bool
  toC : Bool
  A : Ask
def cP (x : MAct) : List PV := .s (.bool x.comes) :: .s (.bool x.toC) :: .s (.int .i64 x.A.mode) :: .s (.bool x.A.masks) :: .s (.bool x.A.on) :: mqP x.A.m
def iP (n : Int) : List PV := [.s (.int .i64 n)]
structure MS where
  i : Nat
  a : Asks
  r : Rules
  to : List Sub
  fr : List Sub
  had : List Int
  asked : Nat
  said : Nat
def stM (may : Bool) (l : List MAct) (x : MS) : EL × ML := ([(0, .bool may), (1, .sl 37 (l.map cP)), (5, .ptr 0 0), (6, .ptr 1 0), (7, .own 2 36 (x.to.map sN)), (8, .own 3 36 (x.fr.map sN)), (9, .own 4 1 (x.had.map iP)), (10, .int .i64 (x.asked : Nat)),
    (11, .int .i64 (x.said : Nat)), (12, .int .i64 x.a.asked), (13, .int .i64 (x.i : Nat))],
  [(0, .box (.int .i64 x.a.asked :: .int .i64 x.a.has :: .int .i64 x.a.waits :: (mq x.a.fwd ++ (mq x.a.got ++ [.bool x.a.on, .bool x.a.gotOn, .int .i64 x.a.masks]))) false), (1, .box (.int .i64 x.r.mode :: (mq x.r.m ++ [.bool x.r.on, .bool x.r.may])) false), (2, .tok), (3, .tok), (4, .tok)])
attribute [go_sem] stM
def okM (may : Bool) (n : Nat) (x : MS) : Prop := Inv may x.a x.r x.to x.fr x.had x.asked x.said ∧ x.asked ≤ min x.i (min n 60) ∧ 2 * x.to.length + x.fr.length + (x.i - min x.i (min n 60)) ≤ 2 * min x.i (min n 60)
theorem cP_at {l : List MAct} {i : Nat} (h : i < l.length) : ∃ x, x ∈ l ∧ (l.map cP).getD i [] = cP x := by
  refine ⟨l[i], List.getElem_mem h, ?_⟩
  rw [List.getD_eq_getElem?_getD, List.getElem?_map, List.getElem?_eq_getElem h]
  rfl
theorem iP_at {l : List Int} {i : Nat} (h : i < l.length) : (l.map iP).getD i [] = iP (l.getD i 0) := by
  rw [List.getD_eq_getElem?_getD, List.getElem?_map, List.getD_eq_getElem?_getD, List.getElem?_eq_getElem h]
  rfl
theorem mem_step {l : List Int} {i : Nat} {x : Int} (h : i < l.length) : decide (x ∈ l.take (i + 1)) = (decide (x ∈ l.take i) || decide (l.getD i 0 = x)) := by
  have e1 : l.take (i + 1) = l.take i ++ [l[i]] := by rw [List.take_add_one, List.getElem?_eq_getElem h]; rfl
  have e2 : l.getD i 0 = l[i] := by rw [List.getD_eq_getElem?_getD, List.getElem?_eq_getElem h]; rfl
  rw [e1, e2, Bool.eq_iff_iff, Bool.or_eq_true, decide_eq_true_iff, decide_eq_true_iff, decide_eq_true_iff, List.mem_append, List.mem_singleton]
  exact or_congr Iff.rfl ⟨fun h => h.symm, fun h => h.symm⟩
theorem okM0 (may : Bool) (n : Nat) : okM may n ⟨0, asksZ, rulesZ may, [], [], [0], 0, 0⟩ := ⟨inv0 may, Nat.zero_le _, by simp⟩
theorem in_64m {r : Rules} (h : mayR r) : in64 r.mode := by
  have h1 := h.1.1
  have h2 := h.1.2.1
  exact ⟨by omega, by omega⟩
abbrev QM (may : Bool) (l : List MAct) (i : Nat) (Q : QE) (fs : List Fr) : QE := thenE (fun L M => ∃ y : MS, l.length + 200 - y.i < l.length + 200 - i ∧ okM may l.length y ∧ WeakG (Rof []) L M (stM may l y).1 (stM may l y).2) (QF Try.prog Γ 255 (Rof []) Q fs)
end Go.Proofs.Ytccdnkekmpndiaa
