/- Layer 7: the document's own put and get, whether two rows are the same, signals. Own work. -/
import Derived.Test.YtaopaggmhleeoaaTc
namespace Go.Proofs.Ytaopaggmhleeoaa
open Go Go.Shade
variable {Γ : Globs}
theorem all8 {p : UInt8 → Prop} (h : ∀ n, n < 256 → p (UInt8.ofNat n)) (m : UInt8) : p m := by
  have := h m.toNat m.toNat_lt
  rwa [UInt8.ofNat_toNat] at this
theorem bits (m : UInt8) : ((((m.toNat : Nat) : Int) / 4 % 8 = 0) = (m &&& 28 = 0)) ∧ ((m.toNat : Int) % 4 = ((m &&& 3).toNat : Nat)) ∧ (((m.toNat : Int) / 128 = 1) = ¬ (m &&& 128 = 0)) ∧ (((m.toNat : Int) / 64 % 2 = 1) = ¬ (m &&& 64 = 0)) ∧ (((m.toNat : Int) / 32 % 2 = 1) = ¬ (m &&& 32 = 0)) := by
  have : ∀ n, n < 256 → (((((UInt8.ofNat n).toNat : Nat) : Int) / 4 % 8 = 0 ↔ (UInt8.ofNat n) &&& 28 = 0)) ∧ (((UInt8.ofNat n).toNat : Int) % 4 = (((UInt8.ofNat n) &&& 3).toNat : Nat)) ∧ ((((UInt8.ofNat n).toNat : Int) / 128 = 1 ↔ ¬ ((UInt8.ofNat n) &&& 128 = 0))) ∧ (((((UInt8.ofNat n).toNat : Int) / 64 % 2 = 1) ↔ ¬ ((UInt8.ofNat n) &&& 64 = 0))) ∧ ((((UInt8.ofNat n).toNat : Int) / 32 % 2 = 1) ↔ ¬ ((UInt8.ofNat n) &&& 32 = 0)) := by decide +kernel
  obtain ⟨h1, h2, h3, h4, h5⟩ := all8 (p := fun m => ((((m.toNat : Nat) : Int) / 4 % 8 = 0 ↔ m &&& 28 = 0)) ∧ ((m.toNat : Int) % 4 = ((m &&& 3).toNat : Nat)) ∧ (((m.toNat : Int) / 128 = 1 ↔ ¬ (m &&& 128 = 0))) ∧ ((((m.toNat : Int) / 64 % 2 = 1) ↔ ¬ (m &&& 64 = 0))) ∧ (((m.toNat : Int) / 32 % 2 = 1) ↔ ¬ (m &&& 32 = 0))) this m
  exact ⟨propext h1, h2, propext h3, propext h4, propext h5⟩
theorem mk_sum (t : T3) (h : mayT t) : u8 (t.level + (if t.ack = true then 128 else 0) + (if t.inn = true then 64 else 0) + (if t.out = true then 32 else 0)) = mk t := by
  obtain ⟨f, l, a, i, o, v⟩ := t
  obtain ⟨_, _, h1, h2⟩ := h
  simp only at h1 h2
  have : l = 0 ∨ l = 1 ∨ l = 2 ∨ l = 3 := by omega
  rcases this with rfl | rfl | rfl | rfl <;> cases a <;> cases i <;> cases o <;> simp only [mk, if_true, Bool.false_eq_true, if_false] <;> decide
end Go.Proofs.Ytaopaggmhleeoaa
