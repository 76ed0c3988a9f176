/- Layer 7: get, and whether two rows are the same. Own work. -/
import Derived.Test.YtccdnkekmpndiaaTb
namespace Go.Proofs.Ytccdnkekmpndiaa
open Go Go.Shade
variable {Γ : Globs}
theorem getT_mod : ∀ {b : List UInt8} {l : List T3}, getT b = some l → b.length = 3 * l.length
  | [], l, h => by simp [getT] at h; subst h; rfl
  | [a], l, h => by simp [getT] at h
  | [a, m], l, h => by simp [getT] at h
  | a :: m :: v :: r, l, h => by
    rw [getT] at h
    split at h
    · obtain ⟨l', h1, rfl⟩ := Option.map_eq_some_iff.1 h
      have := getT_mod h1
      simp only [List.length_cons] at this ⊢
      omega
    · cases h
def trip (a m v : UInt8) : T3 := ⟨a.toNat, ((m &&& 3).toNat : Int), decide (¬ (m &&& 128 = 0)), decide (¬ (m &&& 64 = 0)), decide (¬ (m &&& 32 = 0)), v⟩
theorem getT_cons (a m v : UInt8) (r : List UInt8) : getT (a :: m :: v :: r) = if m &&& 28 = 0 then (getT r).map (trip a m v :: ·) else none := rfl
theorem three_of {r : List UInt8} (h : r.length % 3 = 0) (h0 : 0 < r.length) : ∃ a m v r', r = a :: m :: v :: r' := by
  match r, h, h0 with
  | a :: m :: v :: r', _, _ => exact ⟨a, m, v, r', rfl⟩
  | [_], h, _ => simp at h
  | [_, _], h, _ => simp at h
theorem o28 : u8 28 = 28 := by decide
theorem o3 : u8 3 = 3 := by decide
theorem o128 : u8 128 = 128 := by decide
theorem o64 : u8 64 = 64 := by decide
theorem o32 : u8 32 = 32 := by decide
end Go.Proofs.Ytccdnkekmpndiaa
