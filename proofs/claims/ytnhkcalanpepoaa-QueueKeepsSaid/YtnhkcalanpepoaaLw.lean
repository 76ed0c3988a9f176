/- Layer 1: the statement QueueRoom: whatever the input, the law returns true and its arguments read as they did. No condition. Own work. -/
import Derived.Test.YtnhkcalanpepoaaGr
import Derived.Test.YtnhkcalanpepoaaSbs
import Derived.Test.YtnhkcalanpepoaaRows
namespace Go.Proofs.Ytnhkcalanpepoaa
open Go Go.Shade Go.ChangeShapes Go.WideShapes Go.ChangeAt Go.RowKit

theorem ownK : ownKnob Try.prog.godebug = none := by kernel_rfl
theorem laidOut : laidOutB Try.prog = true := by kernel_rfl
theorem argQ {a : AV} (h0 : argOK Try.prog 25 a) : ∃ c B, a = qv c B ∧ -9223372036854775808 ≤ c ∧ c ≤ 9223372036854775807 ∧ B.length ≤ 140737488351232 := by
  obtain ⟨ps, rfl, h⟩ := arg_agg (ts := [.int .i64, .sl [.int .u8]]) (by kernel_rfl) (by kernel_rfl) h0
  obtain ⟨p, qs, rfl, h1, h⟩ := okL_cons h
  obtain ⟨q, rs, rfl, h2, h⟩ := okL_cons h
  have := okL_nil h
  subst this
  obtain ⟨c, rfl, h3, h4⟩ := okP_i64 h1
  obtain ⟨B, rfl, h5⟩ := okP_bytes h2
  exact ⟨c, B, rfl, h3, h4, h5⟩
theorem argB {a : AV} (h0 : argOK Try.prog 23 a) : ∃ b, a = .sl 1 (bys b) ∧ b.length ≤ 140737488351232 := by
  obtain ⟨p, rfl, h⟩ := arg_one (ty := .sl [.int .u8]) (by kernel_rfl) (by kernel_rfl) h0
  obtain ⟨b, rfl, h9⟩ := okP_bytes h
  exact ⟨b, rfl, h9⟩
theorem argI {a : AV} (h0 : argOK Try.prog 3 a) : ∃ n, a = .int .i64 n ∧ -9223372036854775808 ≤ n ∧ n ≤ 9223372036854775807 := by
  obtain ⟨p, rfl, h⟩ := arg_one (ty := .int .i64) (by kernel_rfl) (by kernel_rfl) h0
  obtain ⟨n, rfl, h9⟩ := okP_i64 h
  exact ⟨n, rfl, h9⟩
theorem three {xs : List AV} (h : xs.length = 3) : ∃ a b c, xs = [a, b, c] := by
  match xs, h with
  | [a, b, c], _ => exact ⟨a, b, c, rfl⟩

theorem roomGood (xs : List AV) (hl : xs.length = Try.f5.params.toList.length) (h : ∀ (i : Nat) t a, Try.f5.params.toList[i]? = some t → xs[i]? = some a → argOK Try.prog t a) : Go.Shade.Good Try.prog (fun _ => none) 5 xs [] (.ret (.bool true)) [] := by
  rw [Try.params5] at hl h
  obtain ⟨x, y, z, rfl⟩ := three hl
  obtain ⟨c, B, rfl, _⟩ := argQ (h 0 25 x rfl rfl)
  obtain ⟨b, rfl, _⟩ := argB (h 1 23 y rfl rfl)
  obtain ⟨n, rfl, _⟩ := argI (h 2 3 z rfl rfl)
  exact gRoom c B b n

set_option maxRecDepth 100000 in
theorem roomLifted (os : Os) (started : os.Started) (H : Type) (enc : TypeId × Value → H) :
    ReturnsInHanded {} Try.checked os 5 .any (Rows.queueRoomSpec.pre6 enc Try.prog Try.f5 Rows.queueRoomRow.domain false) (Rows.queueRoomSpec.post enc Try.prog Try.f5 false true false false) := by
  refine returnsInHanded_of_change_sized (C := Try.checked) ownK started (by kernel_rfl) Try.func5
    (ChangeSpec.witness6 (enc := enc) (C := Try.checked) false ⟨#[], #[.agg #[.int .i64 0, .slice none 0 0], .slice none 0 0, .int .i64 0], []⟩ 8 (by kernel_rfl) (by kernel_rfl) (by kernel_rfl) (by kernel_rfl)) ?_
  intro W base args ds gs before hval hW _ hz _
  exact law_calls laidOut rfl (fun ds hd => by rw [Try.params5] at hd; match ds, hd with | [d1, d2, d3], _ => rfl) (tb := 4) (by kernel_rfl) Try.underlying4 (by kernel_rfl) roomGood hval hW hz

theorem roomOver : Rows.queueRoomRow.holds Try.pinned (OpenSpec.ofChange Rows.queueRoomSpec) :=
  OpenClaim.holds_of_wide 5 Try.f5 rfl rfl rfl rfl rfl rfl rfl ⟨rfl, rfl, rfl, rfl, rfl⟩ rfl rfl rfl rfl rfl (by kernel_rfl) Try.func5 (by kernel_rfl)
    (of_decide_eq_true (by kernel_rfl)) (by unfold Func.isWrapper; first | (rw [if_pos (by decide +kernel)]; kernel_rfl) | (rw [if_neg (by decide +kernel)]; exact ⟨rfl, rfl⟩))
    (fun os started H enc _ => roomLifted os started H enc)

theorem queueRoom_holds : Rows.QueueRoomSaid := roomOver
end Go.Proofs.Ytnhkcalanpepoaa
