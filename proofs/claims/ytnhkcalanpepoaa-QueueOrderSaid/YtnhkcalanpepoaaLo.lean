/- Layer 1: the statement QueueOrder: whatever the input, the law returns true and its arguments read as they did. No condition. Own work. -/
import Derived.Test.YtnhkcalanpepoaaGo
import Derived.Test.YtnhkcalanpepoaaLf
namespace Go.Proofs.Ytnhkcalanpepoaa
open Go Go.Shade Go.ChangeShapes Go.WideShapes Go.ChangeAt Go.RowKit

theorem argL {a : AV} (h0 : argOK Try.prog 22 a) : ∃ l : List (List UInt8 × Int), a = .sl 2 (l.map actP) := by
  obtain ⟨p, rfl, h⟩ := arg_one (ty := .sl [.sl [.int .u8], .int .i64]) (by kernel_rfl) (by kernel_rfl) h0
  obtain ⟨xs, rfl, _, hx⟩ := okP_sl h
  obtain ⟨l, rfl⟩ := rows_of (g := actP) (xs := xs) (fun x hxm => by
    obtain ⟨p, qs, rfl, h1, h2⟩ := okL_cons (hx x hxm)
    obtain ⟨q, rs, rfl, h3, h4⟩ := okL_cons h2
    have := okL_nil h4
    subst this
    obtain ⟨b, rfl, _⟩ := okP_bytes h1
    obtain ⟨n, rfl, _⟩ := okP_i64 h3
    exact ⟨(b, n), rfl⟩)
  exact ⟨l, rfl⟩
theorem orderGood (xs : List AV) (hl : xs.length = Try.f3.params.toList.length) (h : ∀ (i : Nat) t a, Try.f3.params.toList[i]? = some t → xs[i]? = some a → argOK Try.prog t a) : Go.Shade.Good Try.prog (fun _ => none) 3 xs [] (.ret (.bool true)) [] := by
  rw [Try.params3] at hl h
  obtain ⟨x, y, rfl⟩ := two hl
  obtain ⟨c, rfl⟩ := argU (h 0 5 x rfl rfl)
  obtain ⟨l, rfl⟩ := argL (h 1 22 y rfl rfl)
  exact gOrder c l

set_option maxRecDepth 100000 in
theorem orderLifted (os : Os) (started : os.Started) (H : Type) (enc : TypeId × Value → H) :
    ReturnsInHanded {} Try.checked os 3 .any (Rows.queueOrderSpec.pre6 enc Try.prog Try.f3 Rows.queueOrderRow.domain false) (Rows.queueOrderSpec.post enc Try.prog Try.f3 false true false false) := by
  refine returnsInHanded_of_change_sized (C := Try.checked) ownK started (by kernel_rfl) Try.func3
    (ChangeSpec.witness6 (enc := enc) (C := Try.checked) false ⟨#[], #[.int .u8 0, .slice none 0 0], []⟩ 8 (by kernel_rfl) (by kernel_rfl) (by kernel_rfl) (by kernel_rfl)) ?_
  intro W base args ds gs before hval hW _ hz _
  exact law_calls laidOut rfl (fun ds hd => by rw [Try.params3] at hd; match ds, hd with | [d1, d2], _ => rfl) (tb := 4) (by kernel_rfl) Try.underlying4 (by kernel_rfl) orderGood hval hW hz

theorem orderOver : Rows.queueOrderRow.holds Try.pinned (OpenSpec.ofChange Rows.queueOrderSpec) :=
  OpenClaim.holds_of_wide 3 Try.f3 rfl rfl rfl rfl rfl rfl rfl ⟨rfl, rfl, rfl, rfl, rfl⟩ rfl rfl rfl rfl rfl (by kernel_rfl) Try.func3 (by kernel_rfl)
    (of_decide_eq_true (by kernel_rfl)) (by unfold Func.isWrapper; first | (rw [if_pos (by decide +kernel)]; kernel_rfl) | (rw [if_neg (by decide +kernel)]; exact ⟨rfl, rfl⟩))
    (fun os started H enc _ => orderLifted os started H enc)

theorem queueOrder_holds : Rows.QueueOrderSaid := orderOver
end Go.Proofs.Ytnhkcalanpepoaa
