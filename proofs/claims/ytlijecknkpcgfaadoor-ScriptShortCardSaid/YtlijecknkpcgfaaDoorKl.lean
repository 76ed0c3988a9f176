/- Layer 10: the plain laws of sets of keys. Own work. -/
import Derived.Test.YtlijecknkpcgfaaDoorKb
import Derived.Test.YtlijecknkpcgfaaDoorScb
namespace Go.Proofs.YtlijecknkpcgfaaDoor
open Go Go.Shade

/-! ### Without the noughts at the end -/
theorem trimR_len (p : UInt8 → Bool) (l : List UInt8) : (trimR p l).length = trimTo p l l.length := take_len (trimTo_le p l _)
theorem trimTo_gone (p : UInt8 → Bool) (l : List UInt8) : ∀ n i : Nat, trimTo p l n ≤ i → i < n → p (l.getD i 0) = true
  | 0, i, _, h => by omega
  | n + 1, i, h1, h2 => by
    rw [trimTo] at h1
    split at h1
    · next h =>
      by_cases he : i = n
      · rw [he]; exact h
      · exact trimTo_gone p l n i h1 (by omega)
    · omega
theorem trimTo_congr (p : UInt8 → Bool) {l q : List UInt8} (h : ∀ i, l.getD i 0 = q.getD i 0) : ∀ n, trimTo p l n = trimTo p q n
  | 0 => rfl
  | n + 1 => by rw [trimTo, trimTo, h n, trimTo_congr p h n]
theorem trimTo_more (l : List UInt8) : ∀ k : Nat, trimTo (· == 0) l (l.length + k) = trimTo (· == 0) l l.length
  | 0 => rfl
  | k + 1 => by
    rw [← Nat.add_assoc, trimTo, if_pos, trimTo_more l k]
    rw [List.getD_eq_getElem?_getD, List.getElem?_eq_none (by omega)]
    rfl
theorem padM_getD {b : List UInt8} (h : b.length ≤ 32) (i : Nat) : (padM b).l.getD i 0 = b.getD i 0 := by
  rw [List.getD_eq_getElem?_getD, List.getD_eq_getElem?_getD]
  unfold padM
  simp only
  rw [List.getElem?_take]
  by_cases h1 : i < 32
  · rw [if_pos h1]
    by_cases h2 : i < b.length
    · rw [List.getElem?_append_left h2]
    · rw [List.getElem?_append_right (by omega), List.getElem?_replicate, if_pos (by omega), List.getElem?_eq_none (by omega)]
      rfl
  · rw [if_neg h1, List.getElem?_eq_none (by omega)]
theorem trim_pad {b : List UInt8} (h : b.length ≤ 32) : trimR (· == 0) (padM b).l = trimR (· == 0) b := by
  have h1 : trimTo (· == 0) (padM b).l (padM b).l.length = trimTo (· == 0) b b.length := by
    rw [trimTo_congr _ (padM_getD h), (padM b).h, show 32 = b.length + (32 - b.length) by omega, trimTo_more]
  have hk := trimTo_le (· == 0) b b.length
  unfold trimR
  rw [h1]
  unfold padM
  simp only
  rw [List.take_take, Nat.min_eq_left (by omega), List.take_append, Nat.sub_eq_zero_of_le hk, List.take_zero, List.append_nil]
theorem pad_trim (m : Mask) : padM (trimR (· == 0) m.l) = m := by
  have hk := trimTo_le (· == 0) m.l m.l.length
  have hl : (trimR (· == 0) m.l).length ≤ 32 := by rw [trimR_len, ← m.h]; exact hk
  apply Mask.ext'
  apply List.ext_getElem (by rw [(padM _).h, m.h])
  intro i h1 h2
  have hp := padM_getD hl i
  rw [List.getD_eq_getElem?_getD, List.getElem?_eq_getElem h1] at hp
  have h3 : (trimR (· == 0) m.l).getD i 0 = m.l[i] := by
    rw [List.getD_eq_getElem?_getD]
    unfold trimR
    rw [List.getElem?_take]
    by_cases h4 : i < trimTo (· == 0) m.l m.l.length
    · rw [if_pos h4, List.getElem?_eq_getElem h2]
      rfl
    · rw [if_neg h4]
      have := trimTo_gone (· == 0) m.l m.l.length i (by omega) h2
      rw [List.getD_eq_getElem?_getD, List.getElem?_eq_getElem h2] at this
      have h5 : m.l[i] = 0 := by simpa using this
      rw [h5]
      rfl
  rw [h3] at hp
  exact hp

/-! ### Keys -/
end Go.Proofs.YtlijecknkpcgfaaDoor
