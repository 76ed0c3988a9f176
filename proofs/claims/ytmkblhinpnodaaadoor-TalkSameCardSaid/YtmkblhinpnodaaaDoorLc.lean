/- Layer 12: the map of what functions do. Own work. -/
import Derived.Test.YtmkblhinpnodaaaDoorLb
import Derived.Test.YtmkblhinpnodaaaDoorZ3
namespace Go.Proofs.YtmkblhinpnodaaaDoor
open Go Go.Shade
variable {Γ : Globs}
def doesL : List (Value × Value) := [(.int .i64 10, .func (.func 70) #[] #[]), (.int .i64 27, .func (.func 72) #[] #[]), (.int .i64 12, .func (.func 73) #[] #[]), (.int .i64 28, .func (.func 75) #[] #[]), (.int .i64 29, .func (.func 77) #[] #[]), (.int .i64 30, .func (.func 78) #[] #[]), (.int .i64 11, .func (.func 79) #[] #[]),
  (.int .i64 19, .func (.func 80) #[] #[]), (.int .i64 20, .func (.func 82) #[] #[]), (.int .i64 21, .func (.func 83) #[] #[]), (.int .i64 22, .func (.func 84) #[] #[]), (.int .i64 23, .func (.func 85) #[] #[]), (.int .i64 24, .func (.func 86) #[] #[])]
set_option maxRecDepth 8000 in
theorem gDoes : Good Tryd.prog Γ 60 [] [] (.ret (.cmap doesL)) [] := by
  refine ⟨⟨Tryd.f60, Tryd.func60, rfl, by kernel_rfl⟩, (fun n h => absurd h (by simp [namesL])), (fun n r h => absurd h (by simp [memL])), (fun n h => absurd h (by simp [AE.names, AV.names])), (fun n r h => absurd h (by simp [memL])), (fun n h => h), (fun g w cargs hR hv => ?_)⟩
  have hc : cargs = [] := List.eq_nil_of_length_eq_zero hv.1.symm
  subst hc
  refine calls_of_wp Tryd.func60 rfl ?_
  rw [Tryd.ntmps60]
  refine wp_seq (wp_region_list (wp_mvL (.inr rfl) rfl ?_))
  refine wp_seq (wp_region_list (wp_mk rfl rfl rfl ?_))
  iterate 13 (refine wp_ins (kk := .i64) Tryd.underlying104 Tryd.underlying3 rfl rfl rfl rfl (by decide) (by decide) ?_)
  refine wp_mvL (.inl rfl) rfl (wp_mvL (.inr rfl) rfl (wpList_nil (wp_ret ?_)))
  exact ⟨rfl, .map (some w.heap.size), (results_tmp (fn := Tryd.f60) rfl _ _ _).trans rfl, map_post' hR rfl⟩
end Go.Proofs.YtmkblhinpnodaaaDoor
