/- Layer 1: the statement QueueKeeps: whatever the input, the law returns true and its arguments read as they did. No condition. Own work. -/
import Derived.Test.YtnhkcalanpepoaaGk
import Derived.Test.YtnhkcalanpepoaaLw
namespace Go.Proofs.Ytnhkcalanpepoaa
open Go Go.Shade Go.ChangeShapes Go.WideShapes Go.ChangeAt Go.RowKit

theorem keepsGood (xs : List AV) (hl : xs.length = Try.f6.params.toList.length) (h : ∀ (i : Nat) t a, Try.f6.params.toList[i]? = some t → xs[i]? = some a → argOK Try.prog t a) : Go.Shade.Good Try.prog (fun _ => none) 6 xs [] (.ret (.bool true)) [] := by
  rw [Try.params6] at hl h
  obtain ⟨x, y, z, rfl⟩ := three hl
  obtain ⟨c, B, rfl, _⟩ := argQ (h 0 25 x rfl rfl)
  obtain ⟨b, rfl, _⟩ := argB (h 1 23 y rfl rfl)
  obtain ⟨n, rfl, _⟩ := argI (h 2 3 z rfl rfl)
  exact gKeeps c B b n

set_option maxRecDepth 100000 in
theorem keepsLifted (os : Os) (started : os.Started) (H : Type) (enc : TypeId × Value → H) :
    ReturnsInHanded {} Try.checked os 6 .any (Rows.queueKeepsSpec.pre6 enc Try.prog Try.f6 Rows.queueKeepsRow.domain false) (Rows.queueKeepsSpec.post enc Try.prog Try.f6 false true false false) := by
  refine returnsInHanded_of_change_sized (C := Try.checked) ownK started (by kernel_rfl) Try.func6
    (ChangeSpec.witness6 (enc := enc) (C := Try.checked) false ⟨#[], #[.agg #[.int .i64 0, .slice none 0 0], .slice none 0 0, .int .i64 0], []⟩ 8 (by kernel_rfl) (by kernel_rfl) (by kernel_rfl) (by kernel_rfl)) ?_
  intro W base args ds gs before hval hW _ hz _
  exact law_calls laidOut rfl (fun ds hd => by rw [Try.params6] at hd; match ds, hd with | [d1, d2, d3], _ => rfl) (tb := 4) (by kernel_rfl) Try.underlying4 (by kernel_rfl) keepsGood hval hW hz

theorem keepsOver : Rows.queueKeepsRow.holds Try.pinned (OpenSpec.ofChange Rows.queueKeepsSpec) :=
  OpenClaim.holds_of_wide 6 Try.f6 rfl rfl rfl rfl rfl rfl rfl ⟨rfl, rfl, rfl, rfl, rfl⟩ rfl rfl rfl rfl rfl (by kernel_rfl) Try.func6 (by kernel_rfl)
    (of_decide_eq_true (by kernel_rfl)) (by unfold Func.isWrapper; first | (rw [if_pos (by decide +kernel)]; kernel_rfl) | (rw [if_neg (by decide +kernel)]; exact ⟨rfl, rfl⟩))
    (fun os started H enc _ => keepsLifted os started H enc)

theorem queueKeeps_holds : Rows.QueueKeepsSaid := keepsOver
end Go.Proofs.Ytnhkcalanpepoaa
