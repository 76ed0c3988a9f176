/- Layer 11: the statement SuboptLess: whatever the input, the law returns true and its arguments read as they did. No condition. Own work. -/
import Derived.Test.YtaopaggmhleeoaaNr
namespace Go.Proofs.Ytaopaggmhleeoaa
open Go Go.Shade Go.ChangeShapes Go.WideShapes Go.ChangeAt Go.RowKit
theorem suboptLessGood (xs : List AV) (hl : xs.length = Try.f4.params.toList.length) (h : ∀ (i : Nat) t a, Try.f4.params.toList[i]? = some t → xs[i]? = some a → argOK Try.prog t a) : Go.Shade.Good Try.prog (fun _ => none) 4 xs [] (.ret (.bool true)) [] := by
  rw [Try.params4] at hl h
  obtain ⟨x0, x1, rfl⟩ : ∃ x0 x1, xs = [x0, x1] := by
    match xs, hl with
    | [x0, x1], _ => exact ⟨x0, x1, rfl⟩
  obtain ⟨b, rfl⟩ := argB (h 0 22 x0 rfl rfl)
  obtain ⟨x, rfl⟩ := argU (h 1 5 x1 rfl rfl)
  exact gLess b x

set_option maxRecDepth 100000 in
theorem suboptLessLifted (os : Os) (started : os.Started) (H : Type) (enc : TypeId × Value → H) :
    ReturnsInHanded {} Try.checked os 4 .any (Rows.suboptLessSpec.pre6 enc Try.prog Try.f4 Rows.suboptLessRow.domain false) (Rows.suboptLessSpec.post enc Try.prog Try.f4 false true false false) := by
  refine returnsInHanded_of_change_sized (C := Try.checked) ownK started (by kernel_rfl) Try.func4
    (ChangeSpec.witness6 (enc := enc) (C := Try.checked) false ⟨#[], #[.slice none 0 0, .int .u8 0], []⟩ 8 (by kernel_rfl) (by kernel_rfl) (by kernel_rfl) (by kernel_rfl)) ?_
  intro W base args ds gs before hval hW _ hz _
  exact law_calls laidOut rfl (fun ds hd => by rw [Try.params4] at hd; match ds, hd with | [d0, d1], _ => rfl) (tb := 4) (by kernel_rfl) Try.underlying4 (by kernel_rfl) suboptLessGood hval hW hz

theorem suboptLess_holds : Rows.SuboptLessSaid :=
  OpenClaim.holds_of_wide 4 Try.f4 rfl rfl rfl rfl rfl rfl rfl ⟨rfl, rfl, rfl, rfl, rfl⟩ rfl rfl rfl rfl rfl (by kernel_rfl) Try.func4 (by kernel_rfl)
    (of_decide_eq_true (by kernel_rfl)) (by unfold Func.isWrapper; first | (rw [if_pos (by decide +kernel)]; kernel_rfl) | (rw [if_neg (by decide +kernel)]; exact ⟨rfl, rfl⟩))
    (fun os started H enc _ => suboptLessLifted os started H enc)

end Go.Proofs.Ytaopaggmhleeoaa
