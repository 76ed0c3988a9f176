/- Layer 7: a triple's octets, and back. Own work. -/
import Derived.Test.YtlijecknkpcgfaaDoorY1
namespace Go.Proofs.YtlijecknkpcgfaaDoor
open Go Go.Shade
theorem mk_back (t : T3) (h : mayT t) : mk t &&& 28 = 0 ∧ ((mk t &&& 3).toNat : Int) = t.level ∧ decide (¬ (mk t &&& 128 = 0)) = t.ack ∧ decide (¬ (mk t &&& 64 = 0)) = t.inn ∧ decide (¬ (mk t &&& 32 = 0)) = t.out := by
  obtain ⟨f, l, a, i, o, v⟩ := t
  obtain ⟨_, _, h1, h2⟩ := h
  simp only at h1 h2
  have : l = 0 ∨ l = 1 ∨ l = 2 ∨ l = 3 := by omega
  rcases this with rfl | rfl | rfl | rfl <;> cases a <;> cases i <;> cases o <;> simp only [mk, if_true, Bool.false_eq_true, if_false] <;> decide
theorem trip_mk (t : T3) (h : mayT t) : trip (u8 t.f) (mk t) t.v = t := by
  obtain ⟨_, h2, h3, h4, h5⟩ := mk_back t h
  obtain ⟨h6, h7, _⟩ := h
  refine t3_eq.2 ⟨?_, h2, h3, h4, h5, rfl⟩
  exact u8_in h6 h7
theorem mk_trip (a m v : UInt8) (h : m &&& 28 = 0) : mayT (trip a m v) ∧ mk (trip a m v) = m := by
  have h3 : ∀ n, n < 256 → ((UInt8.ofNat n) &&& 3).toNat ≤ 3 := by decide +kernel
  have h3 := all256 (p := fun m => (m &&& 3).toNat ≤ 3) h3 m
  have ha := u8_lt a
  have hm : ∀ n, n < 256 → ((UInt8.ofNat n) &&& 28 = 0 → mk ⟨0, (((UInt8.ofNat n) &&& 3).toNat : Int), decide (¬ ((UInt8.ofNat n) &&& 128 = 0)), decide (¬ ((UInt8.ofNat n) &&& 64 = 0)), decide (¬ ((UInt8.ofNat n) &&& 32 = 0)), 0⟩ = UInt8.ofNat n) := by decide +kernel
  have hm := all256 (p := fun m => m &&& 28 = 0 → mk ⟨0, ((m &&& 3).toNat : Int), decide (¬ (m &&& 128 = 0)), decide (¬ (m &&& 64 = 0)), decide (¬ (m &&& 32 = 0)), 0⟩ = m) hm m h
  refine ⟨⟨?_, ?_, ?_, ?_⟩, hm⟩ <;> simp only [trip] <;> omega
end Go.Proofs.YtlijecknkpcgfaaDoor
