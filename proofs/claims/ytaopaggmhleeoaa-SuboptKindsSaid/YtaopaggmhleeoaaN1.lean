/- Layer 11: the statement SuboptKinds: whatever the input, the law returns true and its arguments read as they did. No condition. Own work. -/
import Derived.Test.YtaopaggmhleeoaaNr
namespace Go.Proofs.Ytaopaggmhleeoaa
open Go Go.Shade Go.ChangeShapes Go.WideShapes Go.ChangeAt Go.RowKit
theorem suboptKindsGood (xs : List AV) (hl : xs.length = Try.f3.params.toList.length) (h : ∀ (i : Nat) t a, Try.f3.params.toList[i]? = some t → xs[i]? = some a → argOK Try.prog t a) : Go.Shade.Good Try.prog (fun _ => none) 3 xs [] (.ret (.bool true)) [] := by
  rw [Try.params3] at hl h
  obtain ⟨x0, rfl⟩ : ∃ x0, xs = [x0] := by
    match xs, hl with
    | [x0], _ => exact ⟨x0, rfl⟩
  obtain ⟨b, rfl⟩ := argB (h 0 22 x0 rfl rfl)
  exact gKinds b

set_option maxRecDepth 100000 in
theorem suboptKindsLifted (os : Os) (started : os.Started) (H : Type) (enc : TypeId × Value → H) :
    ReturnsInHanded {} Try.checked os 3 .any (Rows.suboptKindsSpec.pre6 enc Try.prog Try.f3 Rows.suboptKindsRow.domain false) (Rows.suboptKindsSpec.post enc Try.prog Try.f3 false true false false) := by
  refine returnsInHanded_of_change_sized (C := Try.checked) ownK started (by kernel_rfl) Try.func3
    (ChangeSpec.witness6 (enc := enc) (C := Try.checked) false ⟨#[], #[.slice none 0 0], []⟩ 8 (by kernel_rfl) (by kernel_rfl) (by kernel_rfl) (by kernel_rfl)) ?_
  intro W base args ds gs before hval hW _ hz _
  exact law_calls laidOut rfl (fun ds hd => by rw [Try.params3] at hd; match ds, hd with | [d0], _ => rfl) (tb := 4) (by kernel_rfl) Try.underlying4 (by kernel_rfl) suboptKindsGood hval hW hz

theorem suboptKinds_holds : Rows.SuboptKindsSaid :=
  OpenClaim.holds_of_wide 3 Try.f3 rfl rfl rfl rfl rfl rfl rfl ⟨rfl, rfl, rfl, rfl, rfl⟩ rfl rfl rfl rfl rfl (by kernel_rfl) Try.func3 (by kernel_rfl)
    (of_decide_eq_true (by kernel_rfl)) (by unfold Func.isWrapper; first | (rw [if_pos (by decide +kernel)]; kernel_rfl) | (rw [if_neg (by decide +kernel)]; exact ⟨rfl, rfl⟩))
    (fun os started H enc _ => suboptKindsLifted os started H enc)

end Go.Proofs.Ytaopaggmhleeoaa
