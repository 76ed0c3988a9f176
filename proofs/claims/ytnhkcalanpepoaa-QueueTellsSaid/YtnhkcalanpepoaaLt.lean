/- Layer 1: the statement QueueTells: whatever the input, the law returns true and its arguments read as they did. No condition. Own work. -/
import Derived.Test.YtnhkcalanpepoaaGz
import Derived.Test.YtnhkcalanpepoaaLp
namespace Go.Proofs.Ytnhkcalanpepoaa
open Go Go.Shade Go.ChangeShapes Go.WideShapes Go.ChangeAt Go.RowKit

theorem tellsGood (xs : List AV) (hl : xs.length = Try.f7.params.toList.length) (h : ∀ (i : Nat) t a, Try.f7.params.toList[i]? = some t → xs[i]? = some a → argOK Try.prog t a) : Go.Shade.Good Try.prog (fun _ => none) 7 xs [] (.ret (.bool true)) [] := by
  rw [Try.params7] at hl h
  obtain ⟨x, y, z, rfl⟩ := three hl
  obtain ⟨c, B, rfl, _⟩ := argQ (h 0 25 x rfl rfl)
  obtain ⟨d, D, rfl, _⟩ := argQ (h 1 25 y rfl rfl)
  obtain ⟨b, n, rfl, _⟩ := argA (h 2 31 z rfl rfl)
  exact gTells c d B D b n

set_option maxRecDepth 100000 in
theorem tellsLifted (os : Os) (started : os.Started) (H : Type) (enc : TypeId × Value → H) :
    ReturnsInHanded {} Try.checked os 7 .any (Rows.queueTellsSpec.pre6 enc Try.prog Try.f7 Rows.queueTellsRow.domain false) (Rows.queueTellsSpec.post enc Try.prog Try.f7 false true false false) := by
  refine returnsInHanded_of_change_sized (C := Try.checked) ownK started (by kernel_rfl) Try.func7
    (ChangeSpec.witness6 (enc := enc) (C := Try.checked) false ⟨#[], #[.agg #[.int .i64 0, .slice none 0 0], .agg #[.int .i64 0, .slice none 0 0], .agg #[.slice none 0 0, .int .i64 0]], []⟩ 8 (by kernel_rfl) (by kernel_rfl) (by kernel_rfl) (by kernel_rfl)) ?_
  intro W base args ds gs before hval hW _ hz _
  exact law_calls laidOut rfl (fun ds hd => by rw [Try.params7] at hd; match ds, hd with | [d1, d2, d3], _ => rfl) (tb := 4) (by kernel_rfl) Try.underlying4 (by kernel_rfl) tellsGood hval hW hz

theorem tellsOver : Rows.queueTellsRow.holds Try.pinned (OpenSpec.ofChange Rows.queueTellsSpec) :=
  OpenClaim.holds_of_wide 7 Try.f7 rfl rfl rfl rfl rfl rfl rfl ⟨rfl, rfl, rfl, rfl, rfl⟩ rfl rfl rfl rfl rfl (by kernel_rfl) Try.func7 (by kernel_rfl)
    (of_decide_eq_true (by kernel_rfl)) (by unfold Func.isWrapper; first | (rw [if_pos (by decide +kernel)]; kernel_rfl) | (rw [if_neg (by decide +kernel)]; exact ⟨rfl, rfl⟩))
    (fun os started H enc _ => tellsLifted os started H enc)

theorem queueTells_holds : Rows.QueueTellsSaid := tellsOver
end Go.Proofs.Ytnhkcalanpepoaa
