/- Rows of octets and of bools held by value: an element read, and written; the bits of octets; sets of keys. Own work. -/
import Derived.Test.YtnhkcalanpepoaaSmk
namespace Go.Shade
open Go

/-! ### Rows -/
def Mask.at (m : Mask) (i : Nat) : UInt8 := m.l.getD i 0
def Mask.put (m : Mask) (i : Nat) (x : UInt8) : Mask := ⟨m.l.set i x, by simp [m.h]⟩
theorem Mask.at_get {m : Mask} {i : Nat} (h : i < 32) : m.l[i]? = some (m.at i) := by
  unfold Mask.at
  rw [List.getD_eq_getElem?_getD, List.getElem?_eq_getElem (by rw [m.h]; exact h)]
  rfl
theorem mq_at {m : Mask} {i : Nat} (h : i < 32) : (mq m)[i]? = some (.p (.s (.int .u8 (m.at i).toNat))) := by
  unfold mq
  rw [List.getElem?_map, m.at_get h]
  rfl
theorem set_split {α : Type} : ∀ {l : List α} {i : Nat} {x : α}, i < l.length → l.take i ++ x :: l.drop (i + 1) = l.set i x
  | [], i, x, h => by simp at h
  | a :: l, 0, x, _ => by simp
  | a :: l, i + 1, x, h => by
    rw [List.take_succ_cons, List.drop_succ_cons, List.cons_append, List.set_cons_succ, set_split (by simpa using h)]
theorem mq_put {m : Mask} {i : Nat} {x : UInt8} (h : i < 32) : (mq m).take i ++ .p (.s (.int .u8 x.toNat)) :: (mq m).drop (i + 1) = mq (m.put i x) := by
  rw [set_split (by rw [mq_len]; exact h)]
  simp [mq, Mask.put, List.map_set]
theorem Mask.at_put {m : Mask} {i j : Nat} {x : UInt8} (h : i < 32) : (m.put i x).at j = if j = i then x else m.at j := by
  unfold Mask.at Mask.put
  simp only
  rw [List.getD_eq_getElem?_getD, List.getD_eq_getElem?_getD, List.getElem?_set]
  by_cases hj : j = i
  · subst hj
    rw [if_pos rfl, if_pos rfl, if_pos (by rw [m.h]; exact h)]
    rfl
  · rw [if_neg (fun e => hj e.symm), if_neg hj]
theorem Mask.put_put {m : Mask} {i : Nat} {x y : UInt8} : (m.put i x).put i y = m.put i y := by
  apply Mask.ext'
  simp [Mask.put]
theorem Mask.at_zero (i : Nat) : Mask.zero.at i = 0 := by
  unfold Mask.at Mask.zero
  rw [List.getD_eq_getElem?_getD, List.getElem?_replicate]
  split <;> rfl
structure Row where
  l : List Bool
  h : l.length = 256
def Row.zero : Row := ⟨List.replicate 256 false, by rw [List.length_replicate]⟩
def Row.at (r : Row) (i : Nat) : Bool := r.l.getD i false
def Row.put (r : Row) (i : Nat) (x : Bool) : Row := ⟨r.l.set i x, by simp [r.h]⟩
def rqL : List Bool → List AV
  | [] => []
  | b :: l => .p (.s (.bool b)) :: rqL l
termination_by l => l.length
theorem rqL_eq : ∀ l : List Bool, rqL l = l.map fun b => .p (.s (.bool b))
  | [] => by rw [rqL]; rfl
  | b :: l => by rw [rqL, rqL_eq l]; rfl
/-- Its cells; what it is stays shut. -/
def rq (r : Row) : List AV := rqL r.l
theorem rq_eq (r : Row) : rq r = r.l.map fun b => .p (.s (.bool b)) := rqL_eq r.l
theorem rq_len (r : Row) : (rq r).length = 256 := by simp [rq_eq, r.h]
theorem rq_one (r : Row) : (rq r).all AV.oneCell = true := by simp [rq_eq, AV.oneCell, Value.oneCell']
theorem rq_at {r : Row} {i : Nat} (h : i < 256) : (rq r)[i]? = some (.p (.s (.bool (r.at i)))) := by
  rw [rq_eq]
  unfold Row.at
  rw [List.getElem?_map, List.getD_eq_getElem?_getD, List.getElem?_eq_getElem (by rw [r.h]; exact h)]
  rfl
theorem rq_put {r : Row} {i : Nat} {x : Bool} (h : i < 256) : (rq r).take i ++ .p (.s (.bool x)) :: (rq r).drop (i + 1) = rq (r.put i x) := by
  rw [set_split (by rw [rq_len]; exact h)]
  simp [rq_eq, Row.put, List.map_set]
theorem Row.at_put {r : Row} {i j : Nat} {x : Bool} (h : i < 256) : (r.put i x).at j = if j = i then x else r.at j := by
  unfold Row.at Row.put
  simp only
  rw [List.getD_eq_getElem?_getD, List.getD_eq_getElem?_getD, List.getElem?_set]
  by_cases hj : j = i
  · subst hj
    rw [if_pos rfl, if_pos rfl, if_pos (by rw [r.h]; exact h)]
    rfl
  · rw [if_neg (fun e => hj e.symm), if_neg hj]
theorem Row.at_zero (i : Nat) : Row.zero.at i = false := by
  unfold Row.at Row.zero
  rw [List.getD_eq_getElem?_getD, List.getElem?_replicate]
  split <;> rfl
theorem rq_take (r : Row) : (rq r).take 256 = rq r := List.take_of_length_le (by rw [rq_len]; omega)
theorem rq_drop (r : Row) : (rq r).drop 256 = [] := List.drop_eq_nil_of_le (by rw [rq_len]; omega)
theorem rq_zero256 : List.map AV.p (List.replicate 256 (PV.s (.bool false))) = rq .zero := by
  rw [List.map_replicate, rq_eq, Row.zero, List.map_replicate]
theorem names_rq (r : Row) : namesL (rq r) = [] := by
  rw [rq_eq]
  induction r.l with
  | nil => rfl
  | cons x l ih => rw [List.map_cons, namesL, ih]; rfl
theorem renL_rq (ρ : Nat → Nat) (r : Row) : renL ρ (rq r) = rq r := by
  rw [rq_eq]
  induction r.l with
  | nil => rfl
  | cons x l ih => rw [List.map_cons, renL, ih]; rfl
theorem leAs_refl : ∀ (l : List AV), (∀ a ∈ l, ∃ b, a = .p (.s (.bool b))) → LeAs l l
  | [], _ => trivial
  | a :: l, hl => by
    obtain ⟨b, rfl⟩ := hl a (by simp)
    rw [LeAs]
    exact ⟨rfl, leAs_refl l (fun x hx => hl x (by simp [hx]))⟩
theorem le_rq {r s : Row} (h : r = s) : LeAs (rq r) (rq s) := by
  subst h
  exact leAs_refl _ (fun a ha => by
    rw [rq_eq] at ha
    obtain ⟨b, _, rfl⟩ := List.mem_map.1 ha
    exact ⟨b, rfl⟩)
theorem le_rqr {r s : Row} {ρ : Nat → Nat} (h : r = s) : LeAs (rq r) (renL ρ (rq s)) := by rw [renL_rq]; exact le_rq h

/-! ### Octets as cells -/
def bq (l : List UInt8) : List AV := l.map fun b => .p (.s (.int .u8 b.toNat))
theorem bys_cells (l : List UInt8) : (bys l).flatten.map AV.p = bq l := by
  induction l with
  | nil => rfl
  | cons x l ih =>
    rw [bys, List.map_cons, List.flatten_cons, List.map_append]
    rw [show (List.map by1 l) = bys l from rfl, ih]
    rfl
theorem bq_len (l : List UInt8) : (bq l).length = l.length := by simp [bq]
theorem bq_take (l : List UInt8) (n : Nat) : (bq l).take n = bq (l.take n) := by simp [bq, List.map_take]
theorem bq_one (l : List UInt8) : (bq l).all AV.oneCell = true := by simp [bq, AV.oneCell, Value.oneCell']
def padM (b : List UInt8) : Mask := ⟨(b ++ List.replicate 32 0).take 32, by simp⟩
theorem padM_nil : padM [] = .zero := rfl
theorem mq_copy (b : List UInt8) (h : b.length ≤ 32) : bq b ++ (mq .zero).drop b.length = mq (padM b) := by
  unfold bq mq padM Mask.zero
  rw [← List.map_drop, ← List.map_append]
  congr 1
  simp only
  rw [List.take_append, List.take_of_length_le h, List.drop_replicate, List.take_replicate]
  congr 2
  omega
theorem padM_put {b : List UInt8} {i : Nat} (h : i < b.length) (h32 : b.length ≤ 32) : (padM (b.take i)).put i (b.getD i 0) = padM (b.take (i + 1)) := by
  apply Mask.ext'
  unfold padM Mask.put
  simp only
  have h1 : (b.take i).length = i := by rw [List.length_take]; omega
  apply List.ext_getElem?
  intro j
  rw [List.getElem?_set]
  by_cases hj : i = j
  · subst hj
    rw [if_pos rfl, if_pos (by simp; omega), List.getElem?_take, if_pos (by omega), List.getElem?_append_left (by simp; omega), List.getElem?_take, if_pos (by omega), List.getD_eq_getElem?_getD, List.getElem?_eq_getElem h]
    rfl
  · rw [if_neg hj, List.getElem?_take, List.getElem?_take]
    by_cases h3 : j < 32
    · rw [if_pos h3, if_pos h3]
      by_cases hlt : j < i
      · rw [List.getElem?_append_left (by rw [h1]; exact hlt), List.getElem?_append_left (by simp; omega), List.getElem?_take, List.getElem?_take, if_pos hlt, if_pos (by omega)]
      · rw [List.getElem?_append_right (by rw [h1]; omega), List.getElem?_append_right (by simp; omega), List.getElem?_replicate, List.getElem?_replicate, if_pos (by omega), if_pos (by simp; omega)]
    · rw [if_neg h3, if_neg h3]

/-! ### Bits of octets -/
theorem all256 {p : UInt8 → Prop} (h : ∀ n : Nat, n < 256 → p (UInt8.ofNat n)) (c : UInt8) : p c := by
  have := h c.toNat c.toNat_lt
  rwa [UInt8.ofNat_toNat] at this
def bitN (k : Nat) : UInt8 := UInt8.ofNat (128 / 2 ^ k)
def bitU (c : UInt8) : UInt8 := bitN (c.toNat % 8)
theorem bin_shr3 (c : UInt8) : binE .shr (.p (.s (.int .u8 c.toNat))) (.p (.s (.int .u64 3))) = some (.int .u8 ((c.toNat / 8 : Nat) : Int)) := by
  have : (c.toNat : Int).fdiv (2 ^ (min (3 : Int).toNat IntKind.u8.bits)) = ((c.toNat / 8 : Nat) : Int) := by
    rw [show ((2 : Int) ^ (min (3 : Int).toNat IntKind.u8.bits)) = 8 from rfl, Int.fdiv_eq_ediv_of_nonneg _ (by omega)]
    omega
  simp only [binE, abin]
  rw [if_neg (by omega), this]
  rfl
theorem bin_shr128 (c : UInt8) : binE .shr (.p (.s (.int .u8 128))) (.p (.s (.int .u8 (c &&& u8 7).toNat))) = some (.int .u8 (bitU c).toNat) := by
  have : ∀ n : Nat, n < 256 → ((128 : Int).fdiv (2 ^ (min ((UInt8.ofNat n &&& u8 7).toNat : Int).toNat IntKind.u8.bits))) = ((bitU (UInt8.ofNat n)).toNat : Int) := by decide +kernel
  have h := all256 (p := fun c => ((128 : Int).fdiv (2 ^ (min ((c &&& u8 7).toNat : Int).toNat IntKind.u8.bits))) = ((bitU c).toNat : Int)) this c
  simp only [binE, abin]
  rw [if_neg (by omega), h]
  rfl
def Mask.has (m : Mask) (c : UInt8) : Bool := !decide (m.at (c.toNat / 8) &&& bitU c = 0)
def octW (o b : UInt8) (on : Bool) : UInt8 := if on = true then (o &&& ~~~b) ||| b else o &&& ~~~b
def Mask.wit (m : Mask) (c : UInt8) (on : Bool) : Mask := m.put (c.toNat / 8) (octW (m.at (c.toNat / 8)) (bitU c) on)
theorem oct_bits : ∀ n : Nat, n < 256 → ∀ j : Nat, j < 8 → ∀ k : Nat, k < 8 → ∀ on : Bool, (!decide (octW (UInt8.ofNat n) (bitN k) on &&& bitN j = 0)) = (if j = k then on else !decide (UInt8.ofNat n &&& bitN j = 0)) := by decide +kernel
theorem oct_w (o : UInt8) {j k : Nat} (hj : j < 8) (hk : k < 8) (on : Bool) : (!decide (octW o (bitN k) on &&& bitN j = 0)) = (if j = k then on else !decide (o &&& bitN j = 0)) :=
  all256 (p := fun o => (!decide (octW o (bitN k) on &&& bitN j = 0)) = (if j = k then on else !decide (o &&& bitN j = 0))) (fun n hn => oct_bits n hn j hj k hk on) o
theorem Mask.has_wit (m : Mask) (c d : UInt8) (on : Bool) : (m.wit c on).has d = if d = c then on else m.has d := by
  have hc := c.toNat_lt
  have hd := d.toNat_lt
  have hi : c.toNat / 8 < 32 := by omega
  unfold Mask.has Mask.wit
  rw [Mask.at_put hi]
  by_cases h : d.toNat / 8 = c.toNat / 8
  · rw [if_pos h, bitU, bitU, oct_w _ (Nat.mod_lt _ (by omega)) (Nat.mod_lt _ (by omega))]
    by_cases h2 : d.toNat % 8 = c.toNat % 8
    · have : d = c := UInt8.toNat_inj.1 (by omega)
      rw [if_pos h2, if_pos this]
    · have : d ≠ c := fun e => h2 (by rw [e])
      rw [if_neg h2, if_neg this, h]
  · have : d ≠ c := fun e => h (by rw [e])
    rw [if_neg h, if_neg this]
theorem oct_sum : ∀ n : Nat, n < 256 → n = (List.range 8).foldl (fun s j => s + if UInt8.ofNat n &&& bitN j = 0 then 0 else 128 / 2 ^ j) 0 := by decide +kernel
theorem oct_ext {o p : UInt8} (h : ∀ j, j < 8 → (!decide (o &&& bitN j = 0)) = (!decide (p &&& bitN j = 0))) : o = p := by
  have h1 := oct_sum o.toNat o.toNat_lt
  have h2 := oct_sum p.toNat p.toNat_lt
  rw [UInt8.ofNat_toNat] at h1 h2
  have he : ∀ j, j < 8 → ((o &&& bitN j = 0) ↔ (p &&& bitN j = 0)) := fun j hj => by
    have := h j hj
    by_cases h3 : o &&& bitN j = 0 <;> by_cases h4 : p &&& bitN j = 0 <;> simp_all
  have hf : (List.range 8).foldl (fun s j => s + if o &&& bitN j = 0 then 0 else 128 / 2 ^ j) 0 = (List.range 8).foldl (fun s j => s + if p &&& bitN j = 0 then 0 else 128 / 2 ^ j) 0 := by
    simp only [List.range_succ, List.range_zero, List.nil_append, List.cons_append, List.foldl_cons, List.foldl_nil, he 0 (by omega), he 1 (by omega), he 2 (by omega), he 3 (by omega), he 4 (by omega), he 5 (by omega), he 6 (by omega), he 7 (by omega)]
  exact UInt8.toNat_inj.1 (by rw [h1, h2, hf])
theorem Mask.ext_has {m n : Mask} (h : ∀ c, m.has c = n.has c) : m = n := by
  apply Mask.ext'
  apply List.ext_getElem?
  intro i
  by_cases hi : i < 32
  · rw [m.at_get hi, n.at_get hi]
    congr 1
    refine oct_ext (fun j hj => ?_)
    have := h (UInt8.ofNat (8 * i + j))
    unfold Mask.has bitU at this
    have e : (UInt8.ofNat (8 * i + j)).toNat = 8 * i + j := by rw [UInt8.toNat_ofNat']; exact Nat.mod_eq_of_lt (by omega)
    rw [e, show (8 * i + j) / 8 = i by omega, show (8 * i + j) % 8 = j by omega] at this
    exact this
  · rw [List.getElem?_eq_none (by rw [m.h]; omega), List.getElem?_eq_none (by rw [n.h]; omega)]
theorem Mask.has_zero (c : UInt8) : Mask.zero.has c = false := by
  unfold Mask.has
  rw [Mask.at_zero]
  simp
def Mask.of (l : List UInt8) : Mask := l.foldl (fun m c => m.wit c true) .zero
theorem Mask.has_fold (c : UInt8) : ∀ (l : List UInt8) (m : Mask), (l.foldl (fun m c => m.wit c true) m).has c = (m.has c || l.contains c)
  | [], m => by simp
  | x :: l, m => by
    rw [List.foldl_cons, Mask.has_fold c l, Mask.has_wit, List.contains_cons]
    by_cases h : c = x
    · subst h; simp
    · rw [if_neg h]
      have : (c == x) = false := by simpa using h
      rw [this, Bool.false_or]
theorem Mask.has_of (l : List UInt8) (c : UInt8) : (Mask.of l).has c = l.contains c := by
  unfold Mask.of
  rw [Mask.has_fold, Mask.has_zero, Bool.false_or]
theorem Mask.of_snoc (l : List UInt8) (c : UInt8) : Mask.of (l ++ [c]) = (Mask.of l).wit c true := by simp [Mask.of]
/-- The document's bit. -/
theorem oct_has : ∀ n : Nat, n < 256 → ∀ j : Nat, j < 8 → decide (n / 2 ^ (7 - j) % 2 = 1) = !decide (UInt8.ofNat n &&& bitN j = 0) := by decide +kernel
theorem Mask.has_div (m : Mask) (c : UInt8) : decide ((m.at (c.toNat / 8)).toNat / 2 ^ (7 - c.toNat % 8) % 2 = 1) = m.has c := by
  have := oct_has (m.at (c.toNat / 8)).toNat (m.at (c.toNat / 8)).toNat_lt (c.toNat % 8) (Nat.mod_lt _ (by omega))
  rw [UInt8.ofNat_toNat] at this
  exact this
/-! The mask of a row of bools, as the document makes it. -/
def ofN (r : Row) : Nat → Mask
  | 0 => .zero
  | c + 1 => (ofN r c).put (c / 8) (2 * (ofN r c).at (c / 8) + (if r.at c = true then 1 else 0))
def horn (r : Row) (i : Nat) : Nat → UInt8
  | 0 => 0
  | k + 1 => 2 * horn r i k + (if r.at (8 * i + k) = true then 1 else 0)
theorem ofN_at (r : Row) (i : Nat) (hi : i < 32) : ∀ c : Nat, c ≤ 256 → (ofN r c).at i = horn r i (min (c - 8 * i) 8)
  | 0, _ => by simp [ofN, horn, Mask.at_zero]
  | c + 1, h => by
    rw [ofN, Mask.at_put (by omega)]
    by_cases he : i = c / 8
    · subst he
      rw [if_pos rfl, ofN_at r (c / 8) hi c (by omega)]
      have e1 : min (c - 8 * (c / 8)) 8 = c % 8 := by omega
      have e2 : min (c + 1 - 8 * (c / 8)) 8 = c % 8 + 1 := by omega
      rw [e1, e2, horn]
      rw [show 8 * (c / 8) + c % 8 = c by omega]
    · rw [if_neg he, ofN_at r i hi c (by omega)]
      congr 1
      omega
theorem horn_bits : ∀ (b0 b1 b2 b3 b4 b5 b6 b7 : Bool) (j : Nat), j < 8 →
    (!decide ((2 * (2 * (2 * (2 * (2 * (2 * (2 * (2 * (0 : UInt8) + (if b0 = true then 1 else 0)) + (if b1 = true then 1 else 0)) + (if b2 = true then 1 else 0)) + (if b3 = true then 1 else 0)) + (if b4 = true then 1 else 0)) + (if b5 = true then 1 else 0)) + (if b6 = true then 1 else 0)) + (if b7 = true then 1 else 0)) &&& bitN j = 0)) = [b0, b1, b2, b3, b4, b5, b6, b7].getD j false := by decide +kernel
theorem ofN_has (r : Row) (c : UInt8) : (ofN r 256).has c = r.at c.toNat := by
  have hc := c.toNat_lt
  unfold Mask.has bitU
  rw [ofN_at r _ (by omega) 256 (by omega), show min (256 - 8 * (c.toNat / 8)) 8 = 8 by omega]
  have := horn_bits (r.at (8 * (c.toNat / 8) + 0)) (r.at (8 * (c.toNat / 8) + 1)) (r.at (8 * (c.toNat / 8) + 2)) (r.at (8 * (c.toNat / 8) + 3)) (r.at (8 * (c.toNat / 8) + 4)) (r.at (8 * (c.toNat / 8) + 5)) (r.at (8 * (c.toNat / 8) + 6)) (r.at (8 * (c.toNat / 8) + 7)) (c.toNat % 8) (Nat.mod_lt _ (by omega))
  refine Eq.trans this ?_
  have hm : c.toNat % 8 = 0 ∨ c.toNat % 8 = 1 ∨ c.toNat % 8 = 2 ∨ c.toNat % 8 = 3 ∨ c.toNat % 8 = 4 ∨ c.toNat % 8 = 5 ∨ c.toNat % 8 = 6 ∨ c.toNat % 8 = 7 := by omega
  rcases hm with h | h | h | h | h | h | h | h <;> rw [h] <;> show r.at _ = r.at _ <;> congr 1 <;> omega
def bqP (l : List UInt8) : List PV := l.map fun b => .s (.int .u8 b.toNat)
theorem bq_toPV (l : List UInt8) : List.mapM AV.toPV (bq l) = some (bqP l) := by
  unfold bq bqP
  induction l with
  | nil => rfl
  | cons x l ih =>
    rw [List.map_cons, List.mapM_cons, ih, List.map_cons]
    rfl
theorem bqP_one (l : List UInt8) : (bqP l).all PV.oneCell = true := by simp [bqP, PV.oneCell, Value.oneCell']
theorem bqP_bys (l : List UInt8) : List.map (fun p => [p]) (bqP l) = bys l := by simp [bqP, bys, by1]
theorem le_amq {m n : Mask} (h : m = n) : LeA (.agg (mq m)) (.agg (mq n)) := le_mq0 h
theorem le_amqr {m n : Mask} {ρ : Nat → Nat} (h : m = n) : LeA (.agg (mq m)) ((AV.agg (mq n)).ren ρ) := by
  rw [AV.ren, renL_mq]
  exact le_mq0 h
theorem le_arq {m n : Row} (h : m = n) : LeA (.agg (rq m)) (.agg (rq n)) := le_rq h
theorem le_arqr {m n : Row} {ρ : Nat → Nat} (h : m = n) : LeA (.agg (rq m)) ((AV.agg (rq n)).ren ρ) := by
  rw [AV.ren, renL_rq]
  exact le_rq h
theorem mqP_bys (m : Mask) : List.map (fun p => [p]) (mqP m) = bys m.l := by simp [mqP, bys, by1]
attribute [go_sem] bq_toPV bqP_one bqP_bys mqP_bys Nat.mul_one rq_len rq_one rq_take rq_drop rq_zero256 names_rq renL_rq bys_cells bq_len bq_take bq_one bin_shr3 bin_shr128
end Go.Shade
