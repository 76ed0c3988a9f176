/- Layer 1: the statement QueueParts: whatever the input, the law returns true and its arguments read as they did. No condition. Own work. -/
import Derived.Test.YtnhkcalanpepoaaGp
import Derived.Test.YtnhkcalanpepoaaLw
namespace Go.Proofs.Ytnhkcalanpepoaa
open Go Go.Shade Go.ChangeShapes Go.WideShapes Go.ChangeAt Go.RowKit

theorem argA {a : AV} (h0 : argOK Try.prog 31 a) : ∃ b n, a = av b n ∧ b.length ≤ 140737488351232 ∧ -9223372036854775808 ≤ n ∧ n ≤ 9223372036854775807 := by
  obtain ⟨ps, rfl, h⟩ := arg_agg (ts := [.sl [.int .u8], .int .i64]) (by kernel_rfl) (by kernel_rfl) h0
  obtain ⟨p, qs, rfl, h1, h⟩ := okL_cons h
  obtain ⟨q, rs, rfl, h2, h⟩ := okL_cons h
  have := okL_nil h
  subst this
  obtain ⟨c, rfl, h3, h4⟩ := okP_i64 h2
  obtain ⟨B, rfl, h5⟩ := okP_bytes h1
  exact ⟨B, c, rfl, h5, h3, h4⟩
theorem partsGood (xs : List AV) (hl : xs.length = Try.f4.params.toList.length) (h : ∀ (i : Nat) t a, Try.f4.params.toList[i]? = some t → xs[i]? = some a → argOK Try.prog t a) : Go.Shade.Good Try.prog (fun _ => none) 4 xs [] (.ret (.bool true)) [] := by
  rw [Try.params4] at hl h
  obtain ⟨x, y, z, rfl⟩ := three hl
  obtain ⟨c, B, rfl, _⟩ := argQ (h 0 25 x rfl rfl)
  obtain ⟨b, n, rfl, _⟩ := argA (h 1 31 y rfl rfl)
  obtain ⟨b', n', rfl, _⟩ := argA (h 2 31 z rfl rfl)
  exact gParts c B b b' n n'

set_option maxRecDepth 100000 in
theorem partsLifted (os : Os) (started : os.Started) (H : Type) (enc : TypeId × Value → H) :
    ReturnsInHanded {} Try.checked os 4 .any (Rows.queuePartsSpec.pre6 enc Try.prog Try.f4 Rows.queuePartsRow.domain false) (Rows.queuePartsSpec.post enc Try.prog Try.f4 false true false false) := by
  refine returnsInHanded_of_change_sized (C := Try.checked) ownK started (by kernel_rfl) Try.func4
    (ChangeSpec.witness6 (enc := enc) (C := Try.checked) false ⟨#[], #[.agg #[.int .i64 0, .slice none 0 0], .agg #[.slice none 0 0, .int .i64 0], .agg #[.slice none 0 0, .int .i64 0]], []⟩ 8 (by kernel_rfl) (by kernel_rfl) (by kernel_rfl) (by kernel_rfl)) ?_
  intro W base args ds gs before hval hW _ hz _
  exact law_calls laidOut rfl (fun ds hd => by rw [Try.params4] at hd; match ds, hd with | [d1, d2, d3], _ => rfl) (tb := 4) (by kernel_rfl) Try.underlying4 (by kernel_rfl) partsGood hval hW hz

theorem partsOver : Rows.queuePartsRow.holds Try.pinned (OpenSpec.ofChange Rows.queuePartsSpec) :=
  OpenClaim.holds_of_wide 4 Try.f4 rfl rfl rfl rfl rfl rfl rfl ⟨rfl, rfl, rfl, rfl, rfl⟩ rfl rfl rfl rfl rfl (by kernel_rfl) Try.func4 (by kernel_rfl)
    (of_decide_eq_true (by kernel_rfl)) (by unfold Func.isWrapper; first | (rw [if_pos (by decide +kernel)]; kernel_rfl) | (rw [if_neg (by decide +kernel)]; exact ⟨rfl, rfl⟩))
    (fun os started H enc _ => partsLifted os started H enc)

theorem queueParts_holds : Rows.QueuePartsSaid := partsOver
end Go.Proofs.Ytnhkcalanpepoaa
