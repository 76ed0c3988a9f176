/- Bits of whole numbers of 64 bits: what the model's 'and not', 'and', 'or' are at small masks. Own work. -/
import Derived.Test.YthigibfnpfamdaaDoorSub
namespace Go.Shade
open Go

def in64 (n : Int) : Prop := -9223372036854775808 ≤ n ∧ n ≤ 9223372036854775807
def an64 (a b : Int) : Int := IntKind.wrap .i64 ((BitVec.ofInt 64 a &&& ~~~BitVec.ofInt 64 b).toNat)
def and64 (a b : Int) : Int := IntKind.wrap .i64 ((BitVec.ofInt 64 a &&& BitVec.ofInt 64 b).toNat)
def or64 (a b : Int) : Int := IntKind.wrap .i64 ((BitVec.ofInt 64 a ||| BitVec.ofInt 64 b).toNat)
theorem bin_an64 (a b : Int) : binE .andNot (.p (.s (.int .i64 a))) (.p (.s (.int .i64 b))) = some (.int .i64 (an64 a b)) := by
  simp only [binE, abin, ne_eq, not_true_eq_false, if_false, Option.map_some, Option.some.injEq, AV.p.injEq, PV.s.injEq, Value.int.injEq, true_and]
  rfl
theorem bin_and64 (a b : Int) : binE .and (.p (.s (.int .i64 a))) (.p (.s (.int .i64 b))) = some (.int .i64 (and64 a b)) := by
  simp only [binE, abin, ne_eq, not_true_eq_false, if_false, Option.map_some, Option.some.injEq, AV.p.injEq, PV.s.injEq, Value.int.injEq, true_and]
  rfl
theorem bin_or64 (a b : Int) : binE .or (.p (.s (.int .i64 a))) (.p (.s (.int .i64 b))) = some (.int .i64 (or64 a b)) := by
  simp only [binE, abin, ne_eq, not_true_eq_false, if_false, Option.map_some, Option.some.injEq, AV.p.injEq, PV.s.injEq, Value.int.injEq, true_and]
  rfl
theorem wrap64_nat (n : Nat) (h : n < 18446744073709551616) : IntKind.wrap .i64 (n : Int) = 0 ↔ n = 0 := by
  show (if (true && decide ((n : Int) % 18446744073709551616 ≥ 9223372036854775808)) = true then (n : Int) % 18446744073709551616 - 18446744073709551616 else (n : Int) % 18446744073709551616) = 0 ↔ _
  simp only [Bool.true_and, decide_eq_true_eq]
  split <;> omega
/-- A number from which nothing is left but the bits below 2 to the k is below it. -/
theorem an64_lt {n : Int} (h : in64 n) {k : Nat} (hk : k ≤ 32) (h0 : an64 n (2 ^ k - 1) = 0) : 0 ≤ n ∧ n < 2 ^ k := by
  unfold an64 at h0
  rw [wrap64_nat _ (BitVec.isLt _)] at h0
  have hb : (BitVec.ofInt 64 ((2 : Int) ^ k - 1)) = BitVec.ofNat 64 (2 ^ k - 1) := by
    apply BitVec.eq_of_toNat_eq
    have e1 : ((2 : Int) ^ k - 1) = ((2 ^ k - 1 : Nat) : Int) := by
      have : 1 ≤ 2 ^ k := Nat.one_le_two_pow
      rw [Int.natCast_sub this]
      simp
    rw [e1]
    simp
  have hn : (BitVec.ofInt 64 n).toNat < 2 ^ k := by
    refine Nat.lt_pow_two_of_testBit _ (fun i hi => ?_)
    by_cases hi64 : i < 64
    · have h1 : (BitVec.ofInt 64 n &&& ~~~BitVec.ofInt 64 ((2 : Int) ^ k - 1)).toNat.testBit i = false := by rw [h0]; simp
      rw [hb] at h1
      have h2 : (BitVec.ofNat 64 (2 ^ k - 1)).getLsbD i = false := by
        rw [BitVec.getLsbD_ofNat, Nat.testBit_two_pow_sub_one]
        simp; omega
      rw [← BitVec.getLsbD] at h1 ⊢
      rw [BitVec.getLsbD_and, BitVec.getLsbD_not, h2] at h1
      simpa [hi64] using h1
    · exact Nat.testBit_lt_two_pow (Nat.lt_of_lt_of_le (BitVec.isLt _) (Nat.pow_le_pow_right (by omega) (by omega)))
  have e : ((BitVec.ofInt 64 n).toNat : Int) = n % 18446744073709551616 := by
    rw [BitVec.toNat_ofInt]
    omega
  have hp : (2 : Nat) ^ k ≤ 2 ^ 32 := Nat.pow_le_pow_right (by omega) hk
  have hp' : (2 : Nat) ^ 32 = 4294967296 := by decide
  have e2 : ((2 : Int) ^ k) = ((2 ^ k : Nat) : Int) := by simp
  obtain ⟨h1, h2⟩ := h
  rw [e2]
  omega
/-- A fact of the numbers below 32, by looking at each. -/
theorem all32 {p : Int → Prop} (h : ∀ n : Nat, n < 32 → p n) {n : Int} (h0 : 0 ≤ n) (h1 : n < 32) : p n := by
  have := h n.toNat (by omega)
  rwa [Int.toNat_of_nonneg h0] at this
attribute [go_sem] bin_an64 bin_and64 bin_or64
end Go.Shade
