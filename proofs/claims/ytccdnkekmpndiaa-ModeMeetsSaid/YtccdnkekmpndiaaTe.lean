/- Layer 7: the document's own get, whether two rows are the same, signals. Own work. -/
import Derived.Test.YtccdnkekmpndiaaTd
namespace Go.Proofs.Ytccdnkekmpndiaa
open Go Go.Shade
variable {Γ : Globs}
theorem getT_app : ∀ (a b : List UInt8) {l : List T3}, getT a = some l → getT (a ++ b) = (getT b).map (l ++ ·)
  | [], b, l, h => by
    simp [getT] at h; subst h; simp
  | [_], b, l, h => by simp [getT] at h
  | [_, _], b, l, h => by simp [getT] at h
  | x :: m :: v :: r, b, l, h => by
    rw [getT_cons] at h
    split at h
    · rename_i hm
      obtain ⟨l', h1, rfl⟩ := Option.map_eq_some_iff.1 h
      rw [List.cons_append, List.cons_append, List.cons_append, getT_cons, if_pos hm, getT_app r b h1, Option.map_map]
      rfl
    · cases h
theorem two_at {a b : List T3} {i : Nat} (hi : i < a.length) (hb : i < b.length) : ∃ t u, (a.map tP).getD i [] = tP t ∧ (b.map tP).getD i [] = tP u ∧ (a.take i = b.take i → (t = u ↔ a.take (i + 1) = b.take (i + 1))) := by
  refine ⟨a[i], b[i], ?_, ?_, fun h => ?_⟩
  · rw [tP_getD hi, List.getD_eq_getElem?_getD, List.getElem?_eq_getElem hi]; rfl
  · rw [tP_getD hb, List.getD_eq_getElem?_getD, List.getElem?_eq_getElem hb]; rfl
  · rw [List.take_succ_eq_append_getElem hi, List.take_succ_eq_append_getElem hb, h]
    exact ⟨fun e => by rw [e], fun e => (List.cons.inj (List.append_cancel_left e)).1⟩
end Go.Proofs.Ytccdnkekmpndiaa
