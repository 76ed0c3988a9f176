/- Layer 13: what the document says. Own work. -/
import Derived.Test.YtkeidnhfahfiiaaDoorEf
import Derived.Test.YtkeidnhfahfiiaaDoorZ3
namespace Go.Proofs.YtkeidnhfahfiiaaDoor
open Go Go.Shade
variable {Γ : Globs}
theorem ed_iff (s u : Ed) : decide ((s.n : Int) = u.n ∧ s.b = u.b ∧ s.o = u.o ∧ s.l = u.l) = decide (s = u) := by
  apply decide_eq_decide.2
  cases s; cases u
  simp only [Ed.mk.injEq]
  constructor
  · rintro ⟨h1, h2, h3, h4⟩; exact ⟨h2, by omega, h3, h4⟩
  · rintro ⟨h1, h2, h3, h4⟩; exact ⟨by omega, h1, h3, h4⟩
/-- An event as it is built: what it has not is nil. -/
def evN (e : Ev) : List PV := [.s (.int .i64 e.kind), .s (.int .i64 e.f), PV.nil]
theorem evN_le {e : Ev} (h : e.b = []) : RowsLe [evN e] [evP e] := by
  unfold evN evP
  rw [h]
  exact ⟨⟨rfl, rfl, rfl, trivial⟩, trivial⟩
end Go.Proofs.YtkeidnhfahfiiaaDoor
