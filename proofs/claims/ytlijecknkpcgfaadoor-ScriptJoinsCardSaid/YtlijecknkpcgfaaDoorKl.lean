/- Layer 10: the plain laws of sets of keys. Own work. -/
import Derived.Test.YtlijecknkpcgfaaDoorKb
namespace Go.Proofs.YtlijecknkpcgfaaDoor
open Go Go.Shade

/-! ### Without the noughts at the end -/
theorem trimR_len (p : UInt8 → Bool) (l : List UInt8) : (trimR p l).length = trimTo p l l.length := take_len (trimTo_le p l _)
theorem trimTo_gone (p : UInt8 → Bool) (l : List UInt8) : ∀ n i : Nat, trimTo p l n ≤ i → i < n → p (l.getD i 0) = true
  | 0, i, _, h => by omega
  | n + 1, i, h1, h2 => by
    rw [trimTo] at h1
    split at h1
    · next h =>
      by_cases he : i = n
      · rw [he]; exact h
      · exact trimTo_gone p l n i h1 (by omega)
    · omega
theorem trimTo_last (p : UInt8 → Bool) (l : List UInt8) : ∀ n k : Nat, trimTo p l n = k + 1 → p (l.getD k 0) = false
  | 0, k, h => by simp [trimTo] at h
  | n + 1, k, h => by
    rw [trimTo] at h
    split at h
    · exact trimTo_last p l n k h
    · next h1 =>
      have : n = k := by omega
      subst this
      simpa using h1
theorem trimTo_congr (p : UInt8 → Bool) {l q : List UInt8} (h : ∀ i, l.getD i 0 = q.getD i 0) : ∀ n, trimTo p l n = trimTo p q n
  | 0 => rfl
  | n + 1 => by rw [trimTo, trimTo, h n, trimTo_congr p h n]
theorem trimTo_more (l : List UInt8) : ∀ k : Nat, trimTo (· == 0) l (l.length + k) = trimTo (· == 0) l l.length
  | 0 => rfl
  | k + 1 => by
    rw [← Nat.add_assoc, trimTo, if_pos, trimTo_more l k]
    rw [List.getD_eq_getElem?_getD, List.getElem?_eq_none (by omega)]
    rfl
theorem padM_getD {b : List UInt8} (h : b.length ≤ 32) (i : Nat) : (padM b).l.getD i 0 = b.getD i 0 := by
  rw [List.getD_eq_getElem?_getD, List.getD_eq_getElem?_getD]
  unfold padM
  simp only
  rw [List.getElem?_take]
  by_cases h1 : i < 32
  · rw [if_pos h1]
    by_cases h2 : i < b.length
    · rw [List.getElem?_append_left h2]
    · rw [List.getElem?_append_right (by omega), List.getElem?_replicate, if_pos (by omega), List.getElem?_eq_none (by omega)]
      rfl
  · rw [if_neg h1, List.getElem?_eq_none (by omega)]
theorem trim_pad {b : List UInt8} (h : b.length ≤ 32) : trimR (· == 0) (padM b).l = trimR (· == 0) b := by
  have h1 : trimTo (· == 0) (padM b).l (padM b).l.length = trimTo (· == 0) b b.length := by
    rw [trimTo_congr _ (padM_getD h), (padM b).h, show 32 = b.length + (32 - b.length) by omega, trimTo_more]
  have hk := trimTo_le (· == 0) b b.length
  unfold trimR
  rw [h1]
  unfold padM
  simp only
  rw [List.take_take, Nat.min_eq_left (by omega), List.take_append, Nat.sub_eq_zero_of_le hk, List.take_zero, List.append_nil]
theorem pad_trim (m : Mask) : padM (trimR (· == 0) m.l) = m := by
  have hk := trimTo_le (· == 0) m.l m.l.length
  have hl : (trimR (· == 0) m.l).length ≤ 32 := by rw [trimR_len, ← m.h]; exact hk
  apply Mask.ext'
  apply List.ext_getElem (by rw [(padM _).h, m.h])
  intro i h1 h2
  have hp := padM_getD hl i
  rw [List.getD_eq_getElem?_getD, List.getElem?_eq_getElem h1] at hp
  have h3 : (trimR (· == 0) m.l).getD i 0 = m.l[i] := by
    rw [List.getD_eq_getElem?_getD]
    unfold trimR
    rw [List.getElem?_take]
    by_cases h4 : i < trimTo (· == 0) m.l m.l.length
    · rw [if_pos h4, List.getElem?_eq_getElem h2]
      rfl
    · rw [if_neg h4]
      have := trimTo_gone (· == 0) m.l m.l.length i (by omega) h2
      rw [List.getD_eq_getElem?_getD, List.getElem?_eq_getElem h2] at this
      have h5 : m.l[i] = 0 := by simpa using this
      rw [h5]
      rfl
  rw [h3] at hp
  exact hp

/-! ### Keys -/
theorem mem_keys {m : Mask} {c : UInt8} : c ∈ keysM m ↔ m.has c = true := by
  unfold keysM keyL
  rw [List.mem_filter, List.mem_map]
  constructor
  · exact fun h => h.2
  · exact fun h => ⟨⟨c.toNat, List.mem_range.2 c.toNat_lt, UInt8.ofNat_toNat⟩, h⟩
theorem of_keys (m : Mask) : Mask.of (keysM m) = m := Mask.ext_has (fun c => by
  rw [Mask.has_of, Bool.eq_iff_iff, List.contains_iff_mem, mem_keys])
theorem keysM_len (m : Mask) : (keysM m).length ≤ 256 := keyL_len m 256
theorem keys_up (m : Mask) : (keysM m).Pairwise fun a b => a.toNat < b.toNat := by
  unfold keysM keyL
  refine List.Pairwise.filter _ ?_
  rw [List.pairwise_map]
  refine List.Pairwise.imp_of_mem (R := fun a b => a < b) (fun ha hb h => ?_) List.pairwise_lt_range
  have ha := List.mem_range.1 ha
  have hb := List.mem_range.1 hb
  rw [UInt8.toNat_ofNat', UInt8.toNat_ofNat', Nat.mod_eq_of_lt ha, Nat.mod_eq_of_lt hb]
  exact h
theorem getD_at {l : List UInt8} {i : Nat} (h : i < l.length) : l.getD i 0 = l[i] := by
  rw [List.getD_eq_getElem?_getD, List.getElem?_eq_getElem h]
  rfl
theorem keys_lt {m : Mask} {i : Nat} (h : i + 1 < (keysM m).length) : ((keysM m).getD i 0).toNat < ((keysM m).getD (i + 1) 0).toNat := by
  rw [getD_at h, getD_at (by omega)]
  exact List.pairwise_iff_getElem.1 (keys_up m) i (i + 1) _ _ (by omega)
theorem keys_has {m : Mask} {i : Nat} (h : i < (keysM m).length) : m.has ((keysM m).getD i 0) = true := by
  rw [getD_at h]
  exact mem_keys.1 (List.getElem_mem h)

/-! ### As many as bits -/
def popN : Nat → Nat → Nat
  | 0, _ => 0
  | f + 1, x => x % 2 + popN f (x / 2)
theorem pop_dec : ∀ x : Nat, x < 256 → popN 8 x = x % 2 + popN 8 (x / 2) := by decide +kernel
theorem pop_bits : ∀ n : Nat, n < 256 → ((List.range 8).map fun j => if (!decide (UInt8.ofNat n &&& bitN j = 0)) = true then 1 else 0).sum = popN 8 n := by decide +kernel
def popM (m : Mask) (n : Nat) : Nat := ((List.range n).map fun i => popN 8 (m.at i).toNat).sum
theorem popM_succ (m : Mask) (n : Nat) : popM m (n + 1) = popM m n + popN 8 (m.at n).toNat := by
  unfold popM
  rw [List.range_succ, List.map_append, List.sum_append]
  simp
theorem at_has (m : Mask) {i j : Nat} (hi : i < 32) (hj : j < 8) : m.has (UInt8.ofNat (8 * i + j)) = !decide (m.at i &&& bitN j = 0) := by
  unfold Mask.has bitU
  have e : (UInt8.ofNat (8 * i + j)).toNat = 8 * i + j := by rw [UInt8.toNat_ofNat']; exact Nat.mod_eq_of_lt (by omega)
  rw [e, show (8 * i + j) / 8 = i by omega, show (8 * i + j) % 8 = j by omega]
theorem keyL_cnt (m : Mask) (n : Nat) : (keyL m (n + 1)).length = (keyL m n).length + if m.has (UInt8.ofNat n) = true then 1 else 0 := by
  rw [keyL_succ, List.length_append]
  split <;> rfl
theorem keyL_oct (m : Mask) : ∀ i : Nat, i ≤ 32 → (keyL m (8 * i)).length = popM m i
  | 0, _ => rfl
  | i + 1, h => by
    have hi : i < 32 := by omega
    have ih := keyL_oct m i (by omega)
    have hb := pop_bits (m.at i).toNat (m.at i).toNat_lt
    rw [UInt8.ofNat_toNat] at hb
    simp only [List.range_succ, List.range_zero, List.nil_append, List.map_append, List.map_cons, List.map_nil, List.sum_append, List.sum_cons, List.sum_nil] at hb
    rw [popM_succ, ← ih, ← hb, show 8 * (i + 1) = 8 * i + 0 + 1 + 1 + 1 + 1 + 1 + 1 + 1 + 1 by omega]
    simp only [keyL_cnt]
    rw [show 8 * i + 0 + 1 = 8 * i + 1 from rfl, show 8 * i + 1 + 1 = 8 * i + 2 from rfl, show 8 * i + 2 + 1 = 8 * i + 3 from rfl, show 8 * i + 3 + 1 = 8 * i + 4 from rfl, show 8 * i + 4 + 1 = 8 * i + 5 from rfl, show 8 * i + 5 + 1 = 8 * i + 6 from rfl, show 8 * i + 6 + 1 = 8 * i + 7 from rfl]
    have h0 := at_has m hi (by omega : 0 < 8)
    rw [Nat.add_zero] at h0
    rw [h0, at_has m hi (by omega : 1 < 8), at_has m hi (by omega : 2 < 8), at_has m hi (by omega : 3 < 8), at_has m hi (by omega : 4 < 8), at_has m hi (by omega : 5 < 8), at_has m hi (by omega : 6 < 8), at_has m hi (by omega : 7 < 8)]
    simp only [Nat.add_zero]
    omega
theorem keys_pop (m : Mask) : (keysM m).length = popM m 32 := keyL_oct m 32 (Nat.le_refl _)
theorem none_trim (m : Mask) : (trimR (· == 0) m.l).length = 0 ↔ (keysM m).length = 0 := by
  constructor
  · intro h
    have h1 := List.eq_nil_of_length_eq_zero h
    have h2 := pad_trim m
    rw [h1, padM_nil] at h2
    subst h2
    rw [List.length_eq_zero_iff, List.eq_nil_iff_forall_not_mem]
    intro c hc
    rw [mem_keys, Mask.has_zero] at hc
    cases hc
  · intro h
    have h1 := List.eq_nil_of_length_eq_zero h
    have h2 := of_keys m
    rw [h1] at h2
    subst h2
    decide +kernel

/-! ### With and without a key; two rows of keys -/
theorem wit_twice (m : Mask) (c : UInt8) (on : Bool) : (m.wit c on).wit c on = m.wit c on := Mask.ext_has (fun d => by
  rw [Mask.has_wit, Mask.has_wit]
  split <;> rfl)
theorem wit_back (m : Mask) (c : UInt8) (on : Bool) : (m.wit c on).wit c (m.has c) = m := Mask.ext_has (fun d => by
  rw [Mask.has_wit, Mask.has_wit]
  split
  · next h => rw [h]
  · rfl)
theorem of_same {a b : List UInt8} (h : ∀ c, a.contains c = b.contains c) : Mask.of a = Mask.of b := Mask.ext_has (fun c => by rw [Mask.has_of, Mask.has_of, h])
theorem con_app (a b : List UInt8) (c : UInt8) : (a ++ b).contains c = (a.contains c || b.contains c) := by
  rw [Bool.eq_iff_iff, Bool.or_eq_true, List.contains_iff_mem, List.contains_iff_mem, List.contains_iff_mem, List.mem_append]
theorem con_rev (a : List UInt8) (c : UInt8) : a.reverse.contains c = a.contains c := by
  rw [Bool.eq_iff_iff, List.contains_iff_mem, List.contains_iff_mem, List.mem_reverse]
theorem or_bit (o p q : UInt8) : (!decide ((o ||| p) &&& q = 0)) = ((!decide (o &&& q = 0)) || !decide (p &&& q = 0)) := by
  have : (o ||| p) &&& q = 0 ↔ o &&& q = 0 ∧ p &&& q = 0 := by
    rw [← UInt8.toNat_inj, ← UInt8.toNat_inj, ← UInt8.toNat_inj, UInt8.toNat_and, UInt8.toNat_and, UInt8.toNat_and, UInt8.toNat_or, Nat.and_or_distrib_right]
    exact Nat.or_eq_zero_iff
  by_cases h1 : o &&& q = 0 <;> by_cases h2 : p &&& q = 0 <;> simp_all
theorem of_or (a b : List UInt8) {i : Nat} (hi : i < 32) : (Mask.of (a ++ b)).at i = (Mask.of a).at i ||| (Mask.of b).at i := oct_ext (fun j hj => by
  rw [or_bit, ← at_has _ hi hj, ← at_has _ hi hj, ← at_has _ hi hj, Mask.has_of, Mask.has_of, Mask.has_of, con_app])
end Go.Proofs.YtlijecknkpcgfaaDoor
