/- Layer 11's Check, and layer 16's small functions: what they come to. Own work. -/
import Derived.Test.YtaopaggmhleeoaaTd
import Derived.Test.YtaopaggmhleeoaaTe
import Derived.Test.YtaopaggmhleeoaaSmk
import Derived.Test.YtaopaggmhleeoaaSbi
namespace Go.Proofs.Ytaopaggmhleeoaa
open Go Go.Shade
variable {Γ : Globs}
structure Sub where
  kind : Int
  mode : Int
  verb : Int
  m : Mask
  l : List T3
theorem sub_eq {a b : Sub} : a = b ↔ a.kind = b.kind ∧ a.mode = b.mode ∧ a.verb = b.verb ∧ a.m = b.m ∧ a.l = b.l := by
  constructor
  · rintro rfl; exact ⟨rfl, rfl, rfl, rfl, rfl⟩
  · cases a; cases b; rintro ⟨h1, h2, h3, h4, h5⟩; simp_all
instance : DecidableEq Sub := fun a b => decidable_of_iff _ sub_eq.symm
def sA (s : Sub) : AV := .agg (.int .i64 s.kind :: .int .i64 s.mode :: .int .i64 s.verb :: (mq s.m ++ [.sl 6 (s.l.map tP)]))
def sP (s : Sub) : List PV := .s (.int .i64 s.kind) :: .s (.int .i64 s.mode) :: .s (.int .i64 s.verb) :: (mqP s.m ++ [.sl 6 (s.l.map tP)])
def cut180 (s : Sub) : Sub := ⟨s.kind, s.mode, s.verb, s.m, s.l.take 180⟩
def parts (s : Sub) : Sub := if s.kind = 1 then ⟨1, s.mode, 0, .zero, []⟩ else if s.kind = 2 then ⟨2, 0, s.verb, if s.verb = 253 then s.m else .zero, []⟩ else if s.kind = 3 then ⟨3, 0, 0, .zero, s.l⟩ else ⟨s.kind, 0, 0, .zero, []⟩
/-- What may be told. -/
def mayS (s : Sub) : Prop := s = parts s ∧ ((s.kind = 1 ∧ 0 ≤ s.mode ∧ s.mode ≤ 31) ∨ (s.kind = 2 ∧ 251 ≤ s.verb ∧ s.verb ≤ 254) ∨ (s.kind = 3 ∧ (∀ t ∈ s.l, mayT t) ∧ s.l.length ≤ 170))
attribute [go_sem] sA tA
end Go.Proofs.Ytaopaggmhleeoaa
