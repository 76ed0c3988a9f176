/- Rows of 32 octets held by value (sets of keys). Own work. -/
import Derived.Test.YtnhkcalanpepoaaSub
namespace Go.Shade
open Go

structure Mask where
  l : List UInt8
  h : l.length = 32
theorem Mask.ext' {a b : Mask} (h : a.l = b.l) : a = b := by cases a; cases b; cases h; rfl
theorem Mask.eq_iff {a b : Mask} : a = b ↔ a.l = b.l := ⟨fun h => by rw [h], Mask.ext'⟩
instance : DecidableEq Mask := fun _ _ => decidable_of_iff _ Mask.eq_iff.symm
def Mask.zero : Mask := ⟨List.replicate 32 0, rfl⟩
def mqP (m : Mask) : List PV := m.l.map fun b => .s (.int .u8 b.toNat)
def mq (m : Mask) : List AV := m.l.map fun b => .p (.s (.int .u8 b.toNat))
theorem mq_len (m : Mask) : (mq m).length = 32 := by simp [mq, m.h]
theorem mqP_len (m : Mask) : (mqP m).length = 32 := by simp [mqP, m.h]
theorem mqP_map (m : Mask) : (mqP m).map AV.p = mq m := by simp [mqP, mq]
theorem mq_one (m : Mask) : (mq m).all AV.oneCell = true := by simp [mq, AV.oneCell, Value.oneCell']
theorem mq_getr (m : Mask) (l : List AV) (k : Nat) : (mq m ++ l)[k + 32]? = l[k]? := by
  rw [List.getElem?_append_right (by rw [mq_len]; omega), mq_len]
  congr 1
theorem mq_dropr (m : Mask) (l : List AV) (k : Nat) : (mq m ++ l).drop (k + 32) = l.drop k := by
  rw [List.drop_append, mq_len]
  simp [List.drop_eq_nil_of_le, mq_len]
theorem mq_taker (m : Mask) (l : List AV) (k : Nat) : (mq m ++ l).take (k + 32) = mq m ++ l.take k := by
  rw [List.take_append, mq_len]
  simp [List.take_of_length_le, mq_len]
theorem mq_drop (m : Mask) : (mq m).drop 32 = [] := List.drop_eq_nil_of_le (by rw [mq_len]; omega)
theorem mq_take (m : Mask) : (mq m).take 32 = mq m := List.take_of_length_le (by rw [mq_len]; omega)
theorem mq_zero32 : List.map AV.p (List.replicate 32 (PV.s (.int .u8 0))) = mq .zero := rfl
theorem mq_zeros (l : List AV) : (AV.p (.s (.int .u8 0)) :: AV.p (.s (.int .u8 0)) :: AV.p (.s (.int .u8 0)) :: AV.p (.s (.int .u8 0)) :: AV.p (.s (.int .u8 0)) :: AV.p (.s (.int .u8 0)) :: AV.p (.s (.int .u8 0)) :: AV.p (.s (.int .u8 0)) :: AV.p (.s (.int .u8 0)) :: AV.p (.s (.int .u8 0)) :: AV.p (.s (.int .u8 0)) :: AV.p (.s (.int .u8 0)) :: AV.p (.s (.int .u8 0)) :: AV.p (.s (.int .u8 0)) :: AV.p (.s (.int .u8 0)) :: AV.p (.s (.int .u8 0)) :: AV.p (.s (.int .u8 0)) :: AV.p (.s (.int .u8 0)) :: AV.p (.s (.int .u8 0)) :: AV.p (.s (.int .u8 0)) :: AV.p (.s (.int .u8 0)) :: AV.p (.s (.int .u8 0)) :: AV.p (.s (.int .u8 0)) :: AV.p (.s (.int .u8 0)) :: AV.p (.s (.int .u8 0)) :: AV.p (.s (.int .u8 0)) :: AV.p (.s (.int .u8 0)) :: AV.p (.s (.int .u8 0)) :: AV.p (.s (.int .u8 0)) :: AV.p (.s (.int .u8 0)) :: AV.p (.s (.int .u8 0)) :: AV.p (.s (.int .u8 0)) :: l) = mq .zero ++ l := rfl
theorem eqM (ks : List Nat) (m n : Mask) (as bs : List AV) : eqAs (0 :: 0 :: 0 :: 0 :: 0 :: 0 :: 0 :: 0 :: 0 :: 0 :: 0 :: 0 :: 0 :: 0 :: 0 :: 0 :: 0 :: 0 :: 0 :: 0 :: 0 :: 0 :: 0 :: 0 :: 0 :: 0 :: 0 :: 0 :: 0 :: 0 :: 0 :: 0 :: ks) (mq m ++ as) (mq n ++ bs) = (eqAs ks as bs).map fun y => decide (m = n) && y := by
  have go : ∀ (a b : List UInt8) (k : Nat), a.length = k → b.length = k → eqAs (List.replicate k 0 ++ ks) (a.map (fun b => AV.p (.s (.int .u8 b.toNat))) ++ as) (b.map (fun b => AV.p (.s (.int .u8 b.toNat))) ++ bs) = (eqAs ks as bs).map fun y => decide (a = b) && y := by
    intro a
    induction a with
    | nil => intro b k h1 h2; subst h1; have := List.eq_nil_of_length_eq_zero h2; subst this; simp
    | cons x a ih =>
      intro b k h1 h2
      match b, k, h1, h2 with
      | y :: b, k + 1, h1, h2 =>
        rw [List.replicate_succ, List.cons_append, List.map_cons, List.map_cons, List.cons_append, List.cons_append, eqAs_int, ih b k (by simpa using h1) (by simpa using h2), Option.map_map]
        congr 1
        funext z
        simp only [Function.comp, u8n_eq, List.cons.injEq]
        rw [Bool.decide_and, Bool.and_assoc]
  have := go m.l n.l 32 m.h n.h
  rw [show decide (m = n) = decide (m.l = n.l) from decide_eq_decide.2 Mask.eq_iff]
  exact this
theorem eqM' (m n : Mask) : eqAs [0, 0, 0, 0, 0, 0, 0, 0, 0, 0, 0, 0, 0, 0, 0, 0, 0, 0, 0, 0, 0, 0, 0, 0, 0, 0, 0, 0, 0, 0, 0, 0] (mq m) (mq n) = some (decide (m = n)) := by
  have := eqM [] m n [] []
  rw [List.append_nil, List.append_nil] at this
  exact this.trans (by rw [eqAs_nil]; simp)
theorem le_self : ∀ (l : List AV), (∀ a ∈ l, ∃ k n, a = .p (.s (.int k n))) → ∀ {as bs : List AV}, LeAs as bs → LeAs (l ++ as) (l ++ bs)
  | [], _, _, _, h => h
  | a :: l, hl, as, bs, h => by
    obtain ⟨k, n, rfl⟩ := hl a (by simp)
    rw [List.cons_append, List.cons_append, LeAs]
    exact ⟨rfl, le_self l (fun x hx => hl x (by simp [hx])) h⟩
theorem le_mq {m : Mask} {as bs : List AV} (h : LeAs as bs) : LeAs (mq m ++ as) (mq m ++ bs) := le_self _ (fun a ha => by
  obtain ⟨b, _, rfl⟩ := List.mem_map.1 ha
  exact ⟨_, _, rfl⟩) h
theorem mqP_one (m : Mask) : (mqP m).all PV.oneCell = true := by simp [mqP, PV.oneCell, Value.oneCell']
theorem mq_toPV (m : Mask) (l : List AV) : List.mapM AV.toPV (mq m ++ l) = (List.mapM AV.toPV l).map (mqP m ++ ·) := by
  unfold mq mqP
  induction m.l with
  | nil => simp
  | cons x q ih =>
    rw [List.map_cons, List.cons_append, List.mapM_cons, ih, List.map_cons]
    cases List.mapM AV.toPV l <;> rfl
theorem mq_toPV0 (m : Mask) : List.mapM AV.toPV (mq m) = some (mqP m) := by
  have := mq_toPV m []
  rw [List.append_nil] at this
  rw [this]
  simp
attribute [go_sem] mqP_one mq_toPV mq_toPV0
theorem decide_not_eq {α : Type} [DecidableEq α] (a : α) : decide (a = a) = true := decide_eq_true rfl
theorem names_app : ∀ a b : List AV, namesL (a ++ b) = namesL a ++ namesL b
  | [], b => rfl
  | x :: a, b => by rw [List.cons_append, namesL, namesL, names_app a b, List.append_assoc]
theorem names_mq (m : Mask) : namesL (mq m) = [] := by
  unfold mq
  induction m.l with
  | nil => rfl
  | cons x l ih => rw [List.map_cons, namesL, ih]; rfl
theorem namesIn_n (M : ML) : namesIn M [] = true := rfl
theorem namesIn_c (M : ML) (n : Nat) (l : List Nat) : namesIn M (n :: l) = ((memL M n).isSome && namesIn M l) := rfl
theorem renL_app (ρ : Nat → Nat) (a b : List AV) : renL ρ (a ++ b) = renL ρ a ++ renL ρ b := by rw [renL_map, renL_map, renL_map, List.map_append]
theorem renL_mq (ρ : Nat → Nat) (m : Mask) : renL ρ (mq m) = mq m := by
  unfold mq
  induction m.l with
  | nil => rfl
  | cons x l ih => rw [List.map_cons, renL, ih]; rfl
theorem le_mqr {m : Mask} {ρ : Nat → Nat} {as bs : List AV} (h : LeAs as (renL ρ bs)) : LeAs (mq m ++ as) (renL ρ (mq m ++ bs)) := by
  rw [renL_app, renL_mq]
  exact le_mq h
theorem le_mq0 {m n : Mask} (h : m = n) : LeAs (mq m) (mq n) := by
  subst h
  have := le_mq (m := m) (as := []) (bs := []) trivial
  rwa [List.append_nil] at this
theorem le_mq0r {m n : Mask} {ρ : Nat → Nat} (h : m = n) : LeAs (mq m) (renL ρ (mq n)) := by rw [renL_mq]; exact le_mq0 h
attribute [go_sem] Bool.true_beq Bool.false_beq eq_self decide_not_eq List.append_assoc
attribute [go_sem] names_app names_mq namesIn_n namesIn_c renL_app renL_mq AV.names namesL Res.names AE.names List.flatMap_cons List.flatMap_nil
attribute [go_sem] mq_len mqP_len mqP_map mq_one mq_getr mq_dropr mq_taker mq_drop mq_take mq_zero32 mq_zeros eqM eqM' List.all_append List.map_append
end Go.Shade
