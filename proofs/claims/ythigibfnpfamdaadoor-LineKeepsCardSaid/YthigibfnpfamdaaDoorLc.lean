/- Layer 12: the map of what functions do. Own work. -/
import Derived.Test.YthigibfnpfamdaaDoorLb
import Derived.Test.YthigibfnpfamdaaDoorZ3
namespace Go.Proofs.YthigibfnpfamdaaDoor
open Go Go.Shade
variable {Γ : Globs}
def doesL : List (Value × Value) := [(.int .i64 10, .func (.func 33) #[] #[]), (.int .i64 27, .func (.func 35) #[] #[]), (.int .i64 12, .func (.func 36) #[] #[]), (.int .i64 28, .func (.func 37) #[] #[]), (.int .i64 29, .func (.func 38) #[] #[]), (.int .i64 30, .func (.func 39) #[] #[]), (.int .i64 11, .func (.func 40) #[] #[]),
  (.int .i64 19, .func (.func 41) #[] #[]), (.int .i64 20, .func (.func 43) #[] #[]), (.int .i64 21, .func (.func 44) #[] #[]), (.int .i64 22, .func (.func 45) #[] #[]), (.int .i64 23, .func (.func 46) #[] #[]), (.int .i64 24, .func (.func 47) #[] #[])]
set_option maxRecDepth 8000 in
theorem gDoes : Good Tryd.prog Γ 26 [] [] (.ret (.cmap doesL)) [] := by
  refine ⟨⟨Tryd.f26, Tryd.func26, rfl, by kernel_rfl⟩, (fun n h => absurd h (by simp [namesL])), (fun n r h => absurd h (by simp [memL])), (fun n h => absurd h (by simp [AE.names, AV.names])), (fun n r h => absurd h (by simp [memL])), (fun n h => h), (fun g w cargs hR hv => ?_)⟩
  have hc : cargs = [] := List.eq_nil_of_length_eq_zero hv.1.symm
  subst hc
  refine calls_of_wp Tryd.func26 rfl ?_
  rw [Tryd.ntmps26]
  refine wp_seq (wp_region_list (wp_mvL (.inr rfl) rfl ?_))
  refine wp_seq (wp_region_list (wp_mk rfl rfl rfl ?_))
  iterate 13 (refine wp_ins (kk := .i64) Tryd.underlying44 Tryd.underlying3 rfl rfl rfl rfl (by decide) (by decide) ?_)
  refine wp_mvL (.inl rfl) rfl (wp_mvL (.inr rfl) rfl (wpList_nil (wp_ret ?_)))
  exact ⟨rfl, .map (some w.heap.size), (results_tmp (fn := Tryd.f26) rfl _ _ _).trans rfl, map_post' hR rfl⟩
end Go.Proofs.YthigibfnpfamdaaDoor
