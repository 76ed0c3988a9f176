/- Layer 1: what was put is told just as far as there is room. Own work. -/
import Derived.Test.YtnhkcalanpepoaaGe
namespace Go.Proofs.Ytnhkcalanpepoaa
open Go Go.Shade
variable {Γ : Globs}
theorem gRoom (c : Int) (B b : List UInt8) (n : Int) : Good Try.prog Γ 5 [qv c B, .sl 1 (bys b), .int .i64 n] [] (.ret (.bool true)) [] := by
  refine sh_start mixed F5 rfl ⟨rfl, rfl, rfl, rfl, rfl⟩ ?_
  simp (disch := omega) only [qv, go_sem, seval]
  refine sh_call (gOne c B) [] ⟨⟨rfl, rfl, trivial⟩, trivial⟩ trivial rfl trivial ?_
  simp (disch := omega) only [qv, go_sem, seval]
  refine sh_call (gFew b) [] ⟨rfl, trivial⟩ trivial rfl trivial ?_
  simp (disch := omega) only [go_sem, seval]
  generalize B.take 200 = B
  generalize b.take 200 = b
  by_cases h : qok c B
  · obtain ⟨h1, h2, h3⟩ := id h
    refine sh_call (gPutOk c B b h) [] ⟨⟨rfl, rfl, trivial⟩, rfl, trivial⟩ trivial rfl ⟨.inr rfl, trivial⟩ ?_
    have hl : (B ++ b.take (min (b.length : Int) (c - B.length)).toNat).length = B.length + (min (b.length : Int) (c - B.length)).toNat := by
      rw [List.length_append, List.length_take]; omega
    generalize (B ++ b.take (min (b.length : Int) (c - B.length)).toNat) = p at hl ⊢
    simp (disch := omega) only [go_sem, seval]
    have hT := gTakeOk (Γ := Γ) c p n ⟨by omega, by omega, by omega⟩
    have hk : (max 0 (min n (p.length : Int))).toNat ≤ p.length := by omega
    generalize (max 0 (min n (p.length : Int))).toNat = k at hT hk
    refine sh_call hT [] ⟨⟨rfl, ⟨rfl, rfl⟩, trivial⟩, rfl, trivial⟩ trivial rfl ⟨.inr rfl, .inr rfl, trivial⟩ ?_
    simp (disch := omega) only [go_sem, seval]
    have hP := gPutOk (Γ := Γ) c (p.drop k) (p.take k) ⟨by omega, by omega, by rw [List.length_drop]; omega⟩
    have e1 : min ((p.take k).length : Int) (c - ((p.drop k).length : Int)) = k := by rw [List.length_take, List.length_drop]; omega
    rw [e1] at hP
    refine sh_call hP [] ⟨⟨rfl, ⟨rfl, rfl⟩, trivial⟩, ⟨rfl, rfl⟩, trivial⟩ trivial rfl ⟨.inr rfl, trivial⟩ ?_
    simp (disch := omega) only [go_sem, seval]
    refine sh_call gAwake [] trivial trivial rfl trivial ?_
    simp (disch := omega) only [go_sem, seval]
    exact endE_by [] rfl trivial rfl rfl
  · refine sh_call (gPutNo c B b h) [] ⟨⟨rfl, rfl, trivial⟩, rfl, trivial⟩ trivial rfl trivial ?_
    simp (disch := omega) only [qv, go_sem, seval]
    refine sh_call gAwake [] trivial trivial rfl trivial ?_
    simp (disch := omega) only [go_sem, seval]
    exact endE_by [] rfl trivial rfl rfl
end Go.Proofs.Ytnhkcalanpepoaa
