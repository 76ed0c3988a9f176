/- Layer 1: the statement QueueFull: whatever the input, the law returns true and its arguments read as they did. No condition. Own work. -/
import Derived.Test.YtnhkcalanpepoaaGf
import Derived.Test.YtnhkcalanpepoaaLw
namespace Go.Proofs.Ytnhkcalanpepoaa
open Go Go.Shade Go.ChangeShapes Go.WideShapes Go.ChangeAt Go.RowKit

theorem argU {a : AV} (h0 : argOK Try.prog 5 a) : ∃ b : UInt8, a = .int .u8 b.toNat := by
  obtain ⟨p, rfl, h⟩ := arg_one (ty := .int .u8) (by kernel_rfl) (by kernel_rfl) h0
  obtain ⟨b, rfl⟩ := okP_u8 h
  exact ⟨b, rfl⟩
theorem two {xs : List AV} (h : xs.length = 2) : ∃ a b, xs = [a, b] := by
  match xs, h with
  | [a, b], _ => exact ⟨a, b, rfl⟩
theorem fullGood (xs : List AV) (hl : xs.length = Try.f8.params.toList.length) (h : ∀ (i : Nat) t a, Try.f8.params.toList[i]? = some t → xs[i]? = some a → argOK Try.prog t a) : Go.Shade.Good Try.prog (fun _ => none) 8 xs [] (.ret (.bool true)) [] := by
  rw [Try.params8] at hl h
  obtain ⟨x, y, rfl⟩ := two hl
  obtain ⟨c, rfl⟩ := argU (h 0 5 x rfl rfl)
  obtain ⟨d, rfl⟩ := argU (h 1 5 y rfl rfl)
  exact gFull c d

set_option maxRecDepth 100000 in
theorem fullLifted (os : Os) (started : os.Started) (H : Type) (enc : TypeId × Value → H) :
    ReturnsInHanded {} Try.checked os 8 .any (Rows.queueFullSpec.pre6 enc Try.prog Try.f8 Rows.queueFullRow.domain false) (Rows.queueFullSpec.post enc Try.prog Try.f8 false true false false) := by
  refine returnsInHanded_of_change_sized (C := Try.checked) ownK started (by kernel_rfl) Try.func8
    (ChangeSpec.witness6 (enc := enc) (C := Try.checked) false ⟨#[], #[.int .u8 0, .int .u8 0], []⟩ 8 (by kernel_rfl) (by kernel_rfl) (by kernel_rfl) (by kernel_rfl)) ?_
  intro W base args ds gs before hval hW _ hz _
  exact law_calls laidOut rfl (fun ds hd => by rw [Try.params8] at hd; match ds, hd with | [d1, d2], _ => rfl) (tb := 4) (by kernel_rfl) Try.underlying4 (by kernel_rfl) fullGood hval hW hz

theorem fullOver : Rows.queueFullRow.holds Try.pinned (OpenSpec.ofChange Rows.queueFullSpec) :=
  OpenClaim.holds_of_wide 8 Try.f8 rfl rfl rfl rfl rfl rfl rfl ⟨rfl, rfl, rfl, rfl, rfl⟩ rfl rfl rfl rfl rfl (by kernel_rfl) Try.func8 (by kernel_rfl)
    (of_decide_eq_true (by kernel_rfl)) (by unfold Func.isWrapper; first | (rw [if_pos (by decide +kernel)]; kernel_rfl) | (rw [if_neg (by decide +kernel)]; exact ⟨rfl, rfl⟩))
    (fun os started H enc _ => fullLifted os started H enc)

theorem queueFull_holds : Rows.QueueFullSaid := fullOver
end Go.Proofs.Ytnhkcalanpepoaa
