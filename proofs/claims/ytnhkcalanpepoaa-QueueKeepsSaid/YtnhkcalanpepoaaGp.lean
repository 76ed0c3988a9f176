/- Layer 1: put in two goes as much waits as in one; taken in two goes the same is taken. Own work. -/
import Derived.Test.YtnhkcalanpepoaaGe
namespace Go.Proofs.Ytnhkcalanpepoaa
open Go Go.Shade
variable {Γ : Globs}
def av (b : List UInt8) (n : Int) : AV := .agg [.sl 1 (bys b), .int .i64 n]
theorem gPutN (c : Int) (B b : List UInt8) (k : Nat) (h : qok c B) (hk : k = min b.length (c.toNat - B.length)) : Good Try.prog Γ 11 [qv c B, .sl 1 (bys b)] []
    (.ret (.tup [.agg [.int .i64 c, .own 0 1 (bys (B ++ b.take k))], .int .i64 k, .int .i64 0])) [(0, .tok)] := by
  have hP := gPutOk (Γ := Γ) c B b h
  obtain ⟨h1, h2, h3⟩ := h
  have e : min (b.length : Int) (c - B.length) = k := by omega
  rw [e] at hP
  exact hP
theorem gTakeN (c : Int) (B : List UInt8) (n : Int) (k : Nat) (h : qok c B) (hk : (k : Int) = max 0 (min n B.length)) : Good Try.prog Γ 12 [qv c B, .int .i64 n] []
    (.ret (.tup [.agg [.int .i64 c, .own 1 1 (bys (B.drop k))], .own 0 1 (bys (B.take k)), .int .i64 0])) [(0, .tok), (1, .tok)] := by
  have hP := gTakeOk (Γ := Γ) c B n h
  rw [← hk] at hP
  exact hP
set_option maxHeartbeats 4000000 in
theorem gParts (c : Int) (B s r : List UInt8) (sn rn : Int) : Good Try.prog Γ 4 [qv c B, av s sn, av r rn] [] (.ret (.bool true)) [] := by
  refine sh_start mixed F4 rfl ⟨rfl, rfl, rfl, rfl, rfl⟩ ?_
  simp (maxSteps := 1000000) (disch := omega) only [qv, av, go_sem, seval]
  refine sh_call (gOne c B) [] ⟨⟨rfl, rfl, trivial⟩, trivial⟩ trivial rfl trivial ?_
  simp (maxSteps := 1000000) (disch := omega) only [qv, go_sem, seval]
  refine sh_callT (gFew s) [] ⟨rfl, trivial⟩ trivial rfl trivial ?_
  simp (maxSteps := 1000000) (disch := omega) only [go_sem, seval]
  refine sh_callT (gFew r) [] ⟨rfl, trivial⟩ trivial rfl trivial ?_
  simp (maxSteps := 1000000) (disch := omega) only [go_sem, seval]
  refine ⟨rfl, ?_⟩
  have la : (s.take 200).length ≤ 200 := by rw [List.length_take]; omega
  have lb : (r.take 200).length ≤ 200 := by rw [List.length_take]; omega
  have hn : 0 ≤ min (max sn 0) 300 ∧ min (max sn 0) 300 ≤ 300 := by omega
  have hm : 0 ≤ min (max rn 0) 300 ∧ min (max rn 0) 300 ≤ 300 := by omega
  generalize B.take 200 = B
  generalize s.take 200 = a at la ⊢
  generalize r.take 200 = b at lb ⊢
  generalize min (max sn 0) 300 = n at hn ⊢
  generalize min (max rn 0) 300 = m at hm ⊢
  by_cases h : qok c B
  · obtain ⟨h1, h2, h3⟩ := id h
    have la' : (a ++ b).length = a.length + b.length := List.length_append
    refine sh_callT (gPutN c B (a ++ b) (min (a.length + b.length) (c.toNat - B.length)) h (by rw [la'])) [] ⟨⟨rfl, rfl, trivial⟩, ⟨rfl, rfl⟩, trivial⟩ trivial rfl ⟨.inr rfl, trivial⟩ ?_
    simp (maxSteps := 1000000) (disch := omega) only [go_sem, seval]
    refine ⟨rfl, ?_⟩
    refine sh_call (gPutN c B a (min a.length (c.toNat - B.length)) h rfl) [] ⟨⟨rfl, rfl, trivial⟩, rfl, trivial⟩ trivial rfl ⟨.inr rfl, trivial⟩ ?_
    have lx : (B ++ a.take (min a.length (c.toNat - B.length))).length = B.length + min a.length (c.toNat - B.length) := by
      rw [List.length_append, List.length_take]; omega
    have hx : qok c (B ++ a.take (min a.length (c.toNat - B.length))) := ⟨h1, h2, by rw [lx]; omega⟩
    simp (maxSteps := 1000000) (disch := omega) only [go_sem, seval]
    refine sh_call (gPutN c (B ++ a.take (min a.length (c.toNat - B.length))) b (min b.length (c.toNat - B.length - min a.length (c.toNat - B.length))) hx (by rw [lx]; omega)) [] ⟨⟨rfl, ⟨rfl, rfl⟩, trivial⟩, rfl, trivial⟩ trivial rfl ⟨.inr rfl, trivial⟩ ?_
    have e1 : B ++ (a ++ b).take (min (a.length + b.length) (c.toNat - B.length)) = B ++ a.take (min a.length (c.toNat - B.length)) ++ b.take (min b.length (c.toNat - B.length - min a.length (c.toNat - B.length))) := by
      rw [List.append_assoc, List.take_append]
      congr 1
      by_cases ha : a.length ≤ c.toNat - B.length
      · rw [List.take_of_length_le (l := a) (by omega), List.take_of_length_le (l := a) (by omega)]
        congr 2
        omega
      · rw [show min (a.length + b.length) (c.toNat - B.length) = min a.length (c.toNat - B.length) by omega]
        congr 2
        omega
    have ly : (B ++ a.take (min a.length (c.toNat - B.length)) ++ b.take (min b.length (c.toNat - B.length - min a.length (c.toNat - B.length)))).length ≤ c.toNat := by
      rw [List.length_append, lx, List.length_take]; omega
    have hi : min (a.length + b.length) (c.toNat - B.length) = min a.length (c.toNat - B.length) + min b.length (c.toNat - B.length - min a.length (c.toNat - B.length)) := by omega
    rw [e1, hi]
    generalize (B ++ a.take (min a.length (c.toNat - B.length)) ++ b.take (min b.length (c.toNat - B.length - min a.length (c.toNat - B.length)))) = y at ly ⊢
    have hi1 : min a.length (c.toNat - B.length) ≤ 200 := by omega
    have hj1 : min b.length (c.toNat - B.length - min a.length (c.toNat - B.length)) ≤ 200 := by omega
    generalize min b.length (c.toNat - B.length - min a.length (c.toNat - B.length)) = j at hj1 ⊢
    generalize min a.length (c.toNat - B.length) = i at hi1 ⊢
    simp (maxSteps := 1000000) (disch := omega) only [go_sem, seval]
    refine sh_call (gRSame c c y y) [] ⟨⟨rfl, ⟨rfl, rfl⟩, trivial⟩, ⟨rfl, ⟨rfl, rfl⟩, trivial⟩, trivial⟩ trivial rfl trivial ?_
    simp (maxSteps := 1000000) (disch := omega) only [go_sem, seval, and_self]
    have hy : qok c y := ⟨h1, h2, by omega⟩
    have hnn : ∃ n' : Nat, (n' : Int) = n := ⟨n.toNat, by omega⟩
    have hmm : ∃ m' : Nat, (m' : Int) = m := ⟨m.toNat, by omega⟩
    obtain ⟨n', rfl⟩ := hnn
    obtain ⟨m', rfl⟩ := hmm
    refine sh_call (gTakeN c y (n' + m') (min n' y.length + min m' (y.length - min n' y.length)) hy (by omega)) [] ⟨⟨rfl, ⟨rfl, rfl⟩, trivial⟩, rfl, trivial⟩ trivial rfl ⟨.inr rfl, .inr rfl, trivial⟩ ?_
    simp (maxSteps := 1000000) (disch := omega) only [go_sem, seval]
    refine sh_call (gTakeN c y n' (min n' y.length) hy (by omega)) [] ⟨⟨rfl, ⟨rfl, rfl⟩, trivial⟩, rfl, trivial⟩ trivial rfl ⟨.inr rfl, .inr rfl, trivial⟩ ?_
    simp (maxSteps := 1000000) (disch := omega) only [go_sem, seval]
    have ld : (y.drop (min n' y.length)).length = y.length - min n' y.length := List.length_drop
    refine sh_call (gTakeN c (y.drop (min n' y.length)) m' (min m' (y.length - min n' y.length)) ⟨h1, h2, by rw [ld]; omega⟩ (by rw [ld]; omega)) [] ⟨⟨rfl, ⟨rfl, rfl⟩, trivial⟩, rfl, trivial⟩ trivial rfl ⟨.inr rfl, .inr rfl, trivial⟩ ?_
    rw [List.drop_drop]
    simp (maxSteps := 1000000) (disch := omega) only [go_sem, seval]
    refine sh_call (gRSame c c _ _) [] ⟨⟨rfl, ⟨rfl, rfl⟩, trivial⟩, ⟨rfl, ⟨rfl, rfl⟩, trivial⟩, trivial⟩ trivial rfl trivial ?_
    simp (maxSteps := 1000000) (disch := omega) only [go_sem, seval, and_self]
    rw [← List.take_add]
    refine sh_call (gOctets _ _) [] ⟨⟨rfl, rfl⟩, ⟨rfl, rfl⟩, trivial⟩ trivial rfl trivial ?_
    simp (maxSteps := 1000000) (disch := omega) only [go_sem, seval]
    refine sh_call gAwake [] trivial trivial rfl trivial ?_
    simp (maxSteps := 1000000) (disch := omega) only [go_sem, seval]
    exact endE_by [] rfl trivial rfl rfl
  · refine sh_callT (gPutNo c B (a ++ b) h) [] ⟨⟨rfl, rfl, trivial⟩, ⟨rfl, rfl⟩, trivial⟩ trivial rfl trivial ?_
    simp (maxSteps := 1000000) (disch := omega) only [qv, go_sem, seval]
    refine ⟨rfl, ?_⟩
    refine sh_call (gPutNo c B a h) [] ⟨⟨rfl, rfl, trivial⟩, rfl, trivial⟩ trivial rfl trivial ?_
    simp (maxSteps := 1000000) (disch := omega) only [qv, go_sem, seval]
    refine sh_call (gPutNo c B b h) [] ⟨⟨rfl, rfl, trivial⟩, rfl, trivial⟩ trivial rfl trivial ?_
    simp (maxSteps := 1000000) (disch := omega) only [qv, go_sem, seval]
    refine sh_call gAwake [] trivial trivial rfl trivial ?_
    simp (maxSteps := 1000000) (disch := omega) only [go_sem, seval]
    exact endE_by [] rfl trivial rfl rfl
end Go.Proofs.Ytnhkcalanpepoaa
