/- What the functions of layer 1 come to. Own work. -/
import Derived.Test.YtnhkcalanpepoaaCode
namespace Go.Proofs.Ytnhkcalanpepoaa
open Go Go.Shade
variable {Γ : Globs}
theorem mixed : Try.prog.follows .mixedOrders = true := by kernel_rfl

def qv (c : Int) (b : List UInt8) : AV := .agg [.int .i64 c, .sl 1 (bys b)]
def qok (c : Int) (b : List UInt8) : Prop := 1 ≤ c ∧ c ≤ 65536 ∧ (b.length : Int) ≤ c
instance (c : Int) (b : List UInt8) : Decidable (qok c b) := inferInstanceAs (Decidable (_ ∧ _))

theorem gCheckOk (c : Int) (b : List UInt8) (h : qok c b) : Good Try.prog Γ 17 [qv c b] [] (.ret (.int .i64 0)) [] := by
  refine sh_start mixed F17 rfl ⟨rfl, rfl, rfl, rfl, rfl⟩ ?_
  obtain ⟨h1, h2, h3⟩ := h
  simp (disch := omega) only [qv, go_sem, seval]
  exact endE_by [] rfl trivial rfl rfl
theorem gCheckNo (c : Int) (b : List UInt8) (h : ¬ qok c b) : Good Try.prog Γ 17 [qv c b] [] (.ret (.int .i64 1)) [] := by
  refine sh_start mixed F17 rfl ⟨rfl, rfl, rfl, rfl, rfl⟩ ?_
  by_cases h1 : c < 1
  · simp (disch := omega) only [qv, go_sem, seval]
    exact endE_by [] rfl trivial rfl rfl
  · by_cases h2 : 65536 < c
    · simp (disch := omega) only [qv, go_sem, seval]
      exact endE_by [] rfl trivial rfl rfl
    · have h3 : c < b.length := by
        refine Classical.byContradiction fun h3 => h ⟨?_, ?_, ?_⟩ <;> omega
      simp (disch := omega) only [qv, go_sem, seval]
      exact endE_by [] rfl trivial rfl rfl

theorem nilV_cons (x : UInt8) (xs : List UInt8) : nilV (.p (.sl 1 (bys (x :: xs)))) = some (some false) := by simp [nilV, bys, by1]
theorem gClone (b : List UInt8) (h : b.length ≤ 140737488355328) : Good Try.prog Γ 22 [.sl 1 (bys b)] [] (.ret (.own 0 1 (bys b))) [(0, .tok)] := by
  refine sh_startG mixed F22 rfl ⟨rfl, rfl, rfl, rfl, rfl⟩ ?_
  simp (disch := omega) only [go_sem, seval]
  cases b with
  | cons x xs =>
    rw [List.length_cons] at h
    refine nil_no (nilV_cons x xs) ?_
    simp (disch := omega) only [go_sem, seval]
    refine finY_S ?_
    simp (disch := omega) only [go_sem, seval]
    exact endE_by [(0, 1)] rfl ⟨rfl, trivial⟩ rfl rfl
  | nil =>
    refine nil_open rfl (fun t => ?_)
    cases t with
    | false =>
      simp (disch := omega) only [go_sem, seval]
      refine finY_S ?_
      simp (disch := omega) only [go_sem, seval]
      exact endE_by [(0, 1)] rfl ⟨rfl, trivial⟩ rfl rfl
    | true =>
      simp (disch := omega) only [go_sem, seval]
      refine finY_nil 2 0 1 rfl rfl (finY_S ?_)
      simp (disch := omega) only [go_sem, seval]
      exact endE_by [(0, 0)] rfl ⟨rfl, trivial⟩ rfl rfl
theorem gEqual (a b : List UInt8) : Good Try.prog Γ 23 [.sl 1 (bys a), .sl 1 (bys b)] [] (.ret (.bool (decide (a = b)))) [] := by
  refine sh_start mixed F23 rfl ⟨rfl, rfl, rfl, rfl, rfl⟩ ?_
  simp (disch := omega) only [go_sem, seval]
  exact endE_by [] rfl trivial rfl rfl
theorem gOctets (a b : List UInt8) : Good Try.prog Γ 13 [.sl 1 (bys a), .sl 1 (bys b)] [] (.ret (.bool (decide (a = b)))) [] := by
  refine sh_start mixed F13 rfl ⟨rfl, rfl, rfl, rfl, rfl⟩ ?_
  simp (disch := omega) only [go_sem, seval]
  exact endE_by [] rfl trivial rfl rfl
theorem gSame (c d : Int) (a b : List UInt8) : Good Try.prog Γ 19 [qv c a, qv d b] [] (.ret (.bool (decide (c = d ∧ a = b)))) [] := by
  refine sh_start mixed F19 rfl ⟨rfl, rfl, rfl, rfl, rfl⟩ ?_
  by_cases h : c = d
  · subst h
    simp (disch := omega) only [qv, go_sem, seval]
    refine sh_call (gEqual a b) [] ⟨rfl, rfl, trivial⟩ trivial rfl trivial ?_
    simp (disch := omega) only [go_sem, seval]
    exact endE_by [] rfl trivial rfl rfl
  · simp (disch := omega) only [qv, h, go_sem, seval]
    exact endE_by [] rfl trivial rfl rfl
theorem gRSame (c d : Int) (a b : List UInt8) : Good Try.prog Γ 16 [qv c a, qv d b] [] (.ret (.bool (decide (c = d ∧ a = b)))) [] := by
  refine sh_start mixed F16 rfl ⟨rfl, rfl, rfl, rfl, rfl⟩ ?_
  by_cases h : c = d
  · subst h
    simp (disch := omega) only [qv, go_sem, seval]
    refine sh_call (gOctets a b) [] ⟨rfl, rfl, trivial⟩ trivial rfl trivial ?_
    simp (disch := omega) only [go_sem, seval]
    exact endE_by [] rfl trivial rfl rfl
  · simp (disch := omega) only [qv, h, go_sem, seval]
    exact endE_by [] rfl trivial rfl rfl
theorem gNewOk (n : Int) (h : 1 ≤ n ∧ n ≤ 65536) : Good Try.prog Γ 9 [.int .i64 n] [] (.ret (.tup [qv n [], .int .i64 0])) [] := by
  refine sh_start mixed F9 rfl ⟨rfl, rfl, rfl, rfl, rfl⟩ ?_
  simp (disch := omega) only [go_sem, seval]
  refine sh_call (gCheckOk n [] ⟨h.1, h.2, by simp; omega⟩) [] ⟨⟨rfl, rfl, trivial⟩, trivial⟩ trivial rfl trivial ?_
  simp (disch := omega) only [qv, go_sem, seval]
  exact endE_by [] ⟨⟨rfl, rfl, trivial⟩, rfl, trivial⟩ trivial rfl rfl
theorem gNewNo (n : Int) (h : ¬ (1 ≤ n ∧ n ≤ 65536)) : Good Try.prog Γ 9 [.int .i64 n] [] (.ret (.tup [qv 0 [], .int .i64 1])) [] := by
  refine sh_start mixed F9 rfl ⟨rfl, rfl, rfl, rfl, rfl⟩ ?_
  simp (disch := omega) only [go_sem, seval]
  refine sh_call (gCheckNo n [] (fun h' => h ⟨h'.1, h'.2.1⟩)) [] ⟨⟨rfl, rfl, trivial⟩, trivial⟩ trivial rfl trivial ?_
  simp (disch := omega) only [qv, go_sem, seval]
  exact endE_by [] ⟨⟨rfl, rfl, trivial⟩, rfl, trivial⟩ trivial rfl rfl
theorem gFew (b : List UInt8) : Good Try.prog Γ 10 [.sl 1 (bys b)] [] (.ret (.sl 1 (bys (b.take 200)))) [] := by
  refine sh_start mixed F10 rfl ⟨rfl, rfl, rfl, rfl, rfl⟩ ?_
  by_cases h : 200 < b.length
  · simp (disch := omega) only [go_sem, seval]
    exact endE_by [] rfl trivial rfl rfl
  · simp (disch := omega) only [go_sem, seval]
    rw [List.take_of_length_le (by omega)]
    exact endE_by [] rfl trivial rfl rfl
theorem gOne (c : Int) (b : List UInt8) : Good Try.prog Γ 15 [qv c b] [] (.ret (qv c (b.take 200))) [] := by
  refine sh_start mixed F15 rfl ⟨rfl, rfl, rfl, rfl, rfl⟩ ?_
  simp (disch := omega) only [qv, go_sem, seval]
  refine sh_callT (gFew b) [] ⟨rfl, trivial⟩ trivial rfl trivial ?_
  simp (disch := omega) only [go_sem, seval]
  exact ⟨rfl, endE_by [] ⟨rfl, rfl, trivial⟩ trivial rfl rfl⟩
theorem gPutNo (c : Int) (B b : List UInt8) (h : ¬ qok c B) : Good Try.prog Γ 11 [qv c B, .sl 1 (bys b)] [] (.ret (.tup [qv c B, .int .i64 0, .int .i64 1])) [] := by
  refine sh_start mixed F11 rfl ⟨rfl, rfl, rfl, rfl, rfl⟩ ?_
  simp (disch := omega) only [qv, go_sem, seval]
  refine sh_call (gCheckNo c B h) [] ⟨⟨rfl, rfl, trivial⟩, trivial⟩ trivial rfl trivial ?_
  simp (disch := omega) only [go_sem, seval]
  exact endE_by [] ⟨⟨rfl, rfl, trivial⟩, rfl, rfl, trivial⟩ trivial rfl rfl
theorem gPutOk (c : Int) (B b : List UInt8) (h : qok c B) : Good Try.prog Γ 11 [qv c B, .sl 1 (bys b)] []
    (.ret (.tup [.agg [.int .i64 c, .own 0 1 (bys (B ++ b.take (min (b.length : Int) (c - B.length)).toNat))], .int .i64 (min (b.length : Int) (c - B.length)), .int .i64 0])) [(0, .tok)] := by
  refine sh_start mixed F11 rfl ⟨rfl, rfl, rfl, rfl, rfl⟩ ?_
  obtain ⟨h1, h2, h3⟩ := id h
  simp (disch := omega) only [qv, go_sem, seval]
  refine sh_call (gCheckOk c B h) [] ⟨⟨rfl, rfl, trivial⟩, trivial⟩ trivial rfl trivial ?_
  simp (disch := omega) only [go_sem, seval]
  refine sh_callT (gClone B (by omega)) [] ⟨rfl, trivial⟩ trivial rfl ⟨.inr rfl, trivial⟩ ?_
  simp (disch := omega) only [go_sem, seval]
  exact ⟨rfl, endE_by [(0, 3)] ⟨⟨rfl, rfl, trivial⟩, rfl, rfl, trivial⟩ ⟨rfl, trivial⟩ rfl rfl⟩
theorem gTakeNo (c : Int) (B : List UInt8) (n : Int) (h : ¬ qok c B) : Good Try.prog Γ 12 [qv c B, .int .i64 n] [] (.ret (.tup [qv c B, .sl 1 [], .int .i64 1])) [] := by
  refine sh_start mixed F12 rfl ⟨rfl, rfl, rfl, rfl, rfl⟩ ?_
  simp (disch := omega) only [qv, go_sem, seval]
  refine sh_call (gCheckNo c B h) [] ⟨⟨rfl, rfl, trivial⟩, trivial⟩ trivial rfl trivial ?_
  simp (disch := omega) only [go_sem, seval]
  exact endE_by [] ⟨⟨rfl, rfl, trivial⟩, rfl, rfl, trivial⟩ trivial rfl rfl
theorem gTakeOk (c : Int) (B : List UInt8) (n : Int) (h : qok c B) : Good Try.prog Γ 12 [qv c B, .int .i64 n] []
    (.ret (.tup [.agg [.int .i64 c, .own 1 1 (bys (B.drop (max 0 (min n B.length)).toNat))], .own 0 1 (bys (B.take (max 0 (min n B.length)).toNat)), .int .i64 0])) [(0, .tok), (1, .tok)] := by
  refine sh_start mixed F12 rfl ⟨rfl, rfl, rfl, rfl, rfl⟩ ?_
  obtain ⟨h1, h2, h3⟩ := id h
  simp (disch := omega) only [qv, go_sem, seval]
  refine sh_call (gCheckOk c B h) [] ⟨⟨rfl, rfl, trivial⟩, trivial⟩ trivial rfl trivial ?_
  simp (disch := omega) only [go_sem, seval]
  refine sh_call (gClone (B.take (max 0 (min n B.length)).toNat) (by rw [List.length_take]; omega)) [] ⟨rfl, trivial⟩ trivial rfl ⟨.inr rfl, trivial⟩ ?_
  simp (disch := omega) only [go_sem, seval]
  have e1 : (B.drop (max 0 (min n B.length)).toNat).length ≤ 140737488355328 := by rw [List.length_drop]; omega
  have e2 : (B.take B.length) = B := List.take_length
  simp (disch := omega) only [e2, go_sem, seval]
  first
    | refine sh_callT (gClone (B.drop (max 0 (min n B.length)).toNat) e1) [] ⟨rfl, trivial⟩ trivial rfl ⟨.inr rfl, trivial⟩ ?_
    | refine sh_call (gClone (B.drop (max 0 (min n B.length)).toNat) e1) [] ⟨rfl, trivial⟩ trivial rfl ⟨.inr rfl, trivial⟩ ?_
  simp (disch := omega) only [go_sem, seval]
  exact endE_by [(0, 2), (1, 3)] ⟨⟨rfl, rfl, trivial⟩, rfl, rfl, trivial⟩ ⟨rfl, rfl, trivial⟩ rfl rfl
end Go.Proofs.Ytnhkcalanpepoaa
