/- Layer 7: put. Own work. -/
import Derived.Test.YtaopaggmhleeoaaTa
namespace Go.Proofs.Ytaopaggmhleeoaa
open Go Go.Shade
variable {Γ : Globs}
theorem putT_len : ∀ l : List T3, (putT l).length = 3 * l.length
  | [] => rfl
  | t :: l => by
    have := putT_len l
    simp only [putT, List.flatMap_cons, List.length_append, List.length_cons, List.length_nil] at this ⊢
    omega
theorem elem_at {l : List T3} {i : Nat} (h : i < l.length) : ∃ t, t ∈ l ∧ l.take (i + 1) = l.take i ++ [t] ∧ (l.map tP).getD i [] = tP t := by
  refine ⟨l[i], List.getElem_mem _, List.take_succ_eq_append_getElem h, ?_⟩
  rw [tP_getD h, List.getD_eq_getElem?_getD, List.getElem?_eq_getElem h]
  rfl
theorem putT_snoc (l : List T3) (t : T3) : putT (l ++ [t]) = putT l ++ [u8 t.f, mk t, t.v] := by
  rw [putT, List.flatMap_append]
  rfl
end Go.Proofs.Ytaopaggmhleeoaa
