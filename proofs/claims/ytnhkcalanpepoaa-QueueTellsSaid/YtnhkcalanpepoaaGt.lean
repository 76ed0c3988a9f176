/- Layer 1: the document's own Put and Take. Own work. -/
import Derived.Test.YtnhkcalanpepoaaGf
namespace Go.Proofs.Ytnhkcalanpepoaa
open Go Go.Shade
variable {Γ : Globs}
theorem bys_at (B : List UInt8) (i : Nat) (h : i < B.length) : (bys B).getD i [] = [.s (.int .u8 (B.getD i 0).toNat)] := by
  rw [List.getD_eq_getElem?_getD, bys, List.getElem?_map, List.getD_eq_getElem?_getD, List.getElem?_eq_getElem h]
  rfl
theorem take_snoc (b : List UInt8) (j : Nat) (h : j < b.length) : b.take j ++ [b.getD j 0] = b.take (j + 1) := by
  rw [List.take_succ_eq_append_getElem h, List.getD_eq_getElem?_getD, List.getElem?_eq_getElem h]
  rfl
theorem gMay (c : Int) (B : List UInt8) : Good Try.prog Γ 18 [qv c B] [] (.ret (.bool (decide (qok c B)))) [] := by
  refine sh_start mixed F18 rfl ⟨rfl, rfl, rfl, rfl, rfl⟩ ?_
  by_cases h1 : 1 ≤ c
  · by_cases h2 : c ≤ 65536
    · by_cases h3 : (B.length : Int) ≤ c
      · have hq : decide (qok c B) = true := decide_eq_true ⟨h1, h2, h3⟩
        rw [hq]
        simp (disch := omega) only [qv, go_sem, seval]
        exact endE_by [] rfl trivial rfl rfl
      · have hq : decide (qok c B) = false := decide_eq_false (fun h => h3 h.2.2)
        rw [hq]
        simp (disch := omega) only [qv, go_sem, seval]
        exact endE_by [] rfl trivial rfl rfl
    · have hq : decide (qok c B) = false := decide_eq_false (fun h => h2 h.2.1)
      rw [hq]
      simp (disch := omega) only [qv, go_sem, seval]
      exact endE_by [] rfl trivial rfl rfl
  · have hq : decide (qok c B) = false := decide_eq_false (fun h => h1 h.1)
    rw [hq]
    simp (disch := omega) only [qv, go_sem, seval]
    exact endE_by [] rfl trivial rfl rfl
def JRPut (c : Int) (B b : List UInt8) (k : Nat) (L : EL) (M : ML) : Prop := ∃ j : Nat, k = b.length - j ∧ j ≤ b.length ∧ (j = 0 ∨ (B.length : Int) + j ≤ c) ∧
  L = [(1, .sl 1 (bys b)), (2, .ptr 0 0), (4, .ptr 1 0), (5, .int .i64 0), (6, .ptr 2 0), (7, .int .i64 j)] ∧ M = [(0, .box [.int .i64 c, .sl 1 (bys B)] false), (1, .box [.int .i64 0, .p (.s (.slice none 0 0))] false), (2, .box [.int .i64 c, .own 3 1 (bys (B ++ b.take j))] false), (3, .tok)]
set_option maxHeartbeats 4000000 in
theorem gRPut (c : Int) (B b : List UInt8) (hB : B.length ≤ 200) (hb : b.length ≤ 200) (h : qok c B) : Good Try.prog Γ 20 [qv c B, .sl 1 (bys b)] []
    (.ret (.tup [.agg [.int .i64 c, .own 0 1 (bys (B ++ b.take (min b.length (c.toNat - B.length))))], .int .i64 (min b.length (c.toNat - B.length) : Nat)])) [(0, .tok)] := by
  obtain ⟨h1, h2, h3⟩ := h
  refine sh_start mixed F20 rfl ⟨rfl, rfl, rfl, rfl, rfl⟩ ?_
  simp (maxSteps := 1000000) (disch := omega) only [qv, go_sem, seval]
  refine ⟨rfl, ?_⟩
  refine sh_loop mixed (JRPut c B b) (n := b.length) ⟨_, _, ⟨0, rfl, by omega, .inl rfl, rfl, rfl⟩, sh_weak [(0, 0), (1, 1), (2, 5), (3, 3)] ⟨rfl, rfl, rfl, rfl, rfl, rfl, trivial⟩ ?_ rfl rfl rfl rfl rfl⟩ ?_
  · exact ⟨⟨_, rfl, rfl, rfl, trivial⟩, ⟨_, rfl, rfl, rfl, trivial⟩, ⟨_, rfl, rfl, congrArg (fun z => AV.own 3 1 (bys z)) (by simp), trivial⟩, rfl, trivial⟩
  rintro k L M ⟨j, hk, hj, hjc, rfl, rfl⟩
  have lt : (b.take j).length = j := by rw [List.length_take]; omega
  by_cases g1 : j < b.length
  · by_cases g2 : (B.length : Int) + j < c
    · simp (maxSteps := 1000000) (disch := omega) only [go_sem, seval, Int.toNat_natCast, bys_at, bys_snoc]
      refine ⟨rfl, k - 1, _, _, by omega, ⟨j + 1, by omega, by omega, .inr (by omega), rfl, rfl⟩, sh_weak [(0, 0), (1, 1), (2, 2), (3, 5)] ⟨rfl, rfl, rfl, rfl, rfl, rfl, trivial⟩
        ⟨⟨_, rfl, rfl, rfl, trivial⟩, ⟨_, rfl, rfl, rfl, trivial⟩, ⟨_, rfl, rfl, congrArg (fun z => AV.own 5 1 (bys z)) (by rw [List.append_assoc, take_snoc b j g1]), trivial⟩, rfl, trivial⟩ rfl rfl rfl rfl rfl⟩
    · simp (maxSteps := 1000000) (disch := omega) only [go_sem, seval]
      have e : min b.length (c.toNat - B.length) = j := by omega
      rw [e]
      exact endE_by [(0, 3)] ⟨⟨rfl, rfl, trivial⟩, rfl, trivial⟩ ⟨rfl, trivial⟩ rfl rfl
  · simp (maxSteps := 1000000) (disch := omega) only [go_sem, seval]
    have e : min b.length (c.toNat - B.length) = j := by omega
    rw [e]
    exact endE_by [(0, 3)] ⟨⟨rfl, rfl, trivial⟩, rfl, trivial⟩ ⟨rfl, trivial⟩ rfl rfl
def JRTake (c : Int) (B : List UInt8) (n : Int) (k : Nat) (L : EL) (M : ML) : Prop := ∃ j : Nat, k = B.length - j ∧ j ≤ B.length ∧ (j = 0 ∨ (j : Int) ≤ n) ∧
  L = [(1, .int .i64 n), (2, .ptr 0 0), (4, .ptr 1 0), (6, .own 2 1 (bys (B.take j)))] ∧ M = [(0, .box [.int .i64 c, .sl 1 (bys B)] false), (1, .box [.int .i64 0, .p (.s (.slice none 0 0))] false), (2, .tok)]
set_option maxHeartbeats 4000000 in
theorem gRTake (c : Int) (B : List UInt8) (n : Int) (hB : B.length ≤ 200) (K : Nat) (hK : (K : Int) = max 0 (min n B.length)) : Good Try.prog Γ 21 [qv c B, .int .i64 n] []
    (.ret (.tup [.agg [.int .i64 c, .own 0 1 (bys (B.drop K))], .own 1 1 (bys (B.take K))])) [(0, .tok), (1, .tok)] := by
  refine sh_start mixed F21 rfl ⟨rfl, rfl, rfl, rfl, rfl⟩ ?_
  simp (maxSteps := 1000000) (disch := omega) only [qv, go_sem, seval]
  refine sh_loop mixed (JRTake c B n) (n := B.length) ⟨_, _, ⟨0, rfl, by omega, .inl rfl, rfl, rfl⟩, weakG_nil 6 2 1 rfl rfl (sh_weak [(0, 0), (1, 1), (2, 2)] ⟨rfl, rfl, rfl, rfl, trivial⟩ ⟨⟨_, rfl, rfl, rfl, trivial⟩, ⟨_, rfl, rfl, rfl, trivial⟩, rfl, trivial⟩ rfl rfl rfl rfl rfl)⟩ ?_
  rintro k L M ⟨j, hk, hj, hjc, rfl, rfl⟩
  have lt : (B.take j).length = j := by rw [List.length_take]; omega
  have fin : (B.take B.length) = B := List.take_length
  by_cases g2 : (j : Int) < n
  · by_cases g1 : j < B.length
    · simp (maxSteps := 1000000) (disch := omega) only [go_sem, seval, lt, Int.toNat_natCast, bys_at, bys_snoc]
      exact ⟨k - 1, _, _, by omega, ⟨j + 1, by omega, by omega, .inr (by omega), rfl, rfl⟩, sh_weak [(0, 0), (1, 1), (2, 4)] ⟨rfl, rfl, rfl, congrArg (fun z => AV.own 4 1 (bys z)) (take_snoc B j g1), trivial⟩
        ⟨⟨_, rfl, rfl, rfl, trivial⟩, ⟨_, rfl, rfl, rfl, trivial⟩, rfl, trivial⟩ rfl rfl rfl rfl rfl⟩
    · obtain rfl : K = j := by omega
      simp (maxSteps := 1000000) (disch := omega) only [go_sem, seval, lt, Int.toNat_natCast, fin]
      exact ⟨rfl, endE_by [(0, 4), (1, 2)] ⟨⟨rfl, rfl, trivial⟩, rfl, trivial⟩ ⟨rfl, rfl, trivial⟩ rfl rfl⟩
  · obtain rfl : K = j := by omega
    simp (maxSteps := 1000000) (disch := omega) only [go_sem, seval, lt, Int.toNat_natCast, fin]
    exact ⟨rfl, endE_by [(0, 4), (1, 2)] ⟨⟨rfl, rfl, trivial⟩, rfl, trivial⟩ ⟨rfl, rfl, trivial⟩ rfl rfl⟩
end Go.Proofs.Ytnhkcalanpepoaa
