/- Layer 12: the map of what functions do. Own work. -/
import Derived.Test.YtkeidnhfahfiiaaDoorLb
import Derived.Test.YtkeidnhfahfiiaaDoorZ3
namespace Go.Proofs.YtkeidnhfahfiiaaDoor
open Go Go.Shade
variable {Γ : Globs}
def doesL : List (Value × Value) := [(.int .i64 10, .func (.func 55) #[] #[]), (.int .i64 27, .func (.func 57) #[] #[]), (.int .i64 12, .func (.func 58) #[] #[]), (.int .i64 28, .func (.func 60) #[] #[]), (.int .i64 29, .func (.func 62) #[] #[]), (.int .i64 30, .func (.func 63) #[] #[]), (.int .i64 11, .func (.func 64) #[] #[]),
  (.int .i64 19, .func (.func 65) #[] #[]), (.int .i64 20, .func (.func 67) #[] #[]), (.int .i64 21, .func (.func 68) #[] #[]), (.int .i64 22, .func (.func 69) #[] #[]), (.int .i64 23, .func (.func 70) #[] #[]), (.int .i64 24, .func (.func 71) #[] #[])]
set_option maxRecDepth 8000 in
theorem gDoes : Good Tryd.prog Γ 54 [] [] (.ret (.cmap doesL)) [] := by
  refine ⟨⟨Tryd.f54, Tryd.func54, rfl, by kernel_rfl⟩, (fun n h => absurd h (by simp [namesL])), (fun n r h => absurd h (by simp [memL])), (fun n h => absurd h (by simp [AE.names, AV.names])), (fun n r h => absurd h (by simp [memL])), (fun n h => h), (fun g w cargs hR hv => ?_)⟩
  have hc : cargs = [] := List.eq_nil_of_length_eq_zero hv.1.symm
  subst hc
  refine calls_of_wp Tryd.func54 rfl ?_
  rw [Tryd.ntmps54]
  refine wp_seq (wp_region_list (wp_mvL (.inr rfl) rfl ?_))
  refine wp_seq (wp_region_list (wp_mk rfl rfl rfl ?_))
  iterate 13 (refine wp_ins (kk := .i64) Tryd.underlying97 Tryd.underlying3 rfl rfl rfl rfl (by decide) (by decide) ?_)
  refine wp_mvL (.inl rfl) rfl (wp_mvL (.inr rfl) rfl (wpList_nil (wp_ret ?_)))
  exact ⟨rfl, .map (some w.heap.size), (results_tmp (fn := Tryd.f54) rfl _ _ _).trans rfl, map_post' hR rfl⟩
end Go.Proofs.YtkeidnhfahfiiaaDoor
