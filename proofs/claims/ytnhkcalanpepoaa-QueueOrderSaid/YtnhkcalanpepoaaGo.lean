/- Layer 1: what is taken is what was put. Own work. -/
import Derived.Test.YtnhkcalanpepoaaGf
namespace Go.Proofs.Ytnhkcalanpepoaa
open Go Go.Shade
variable {Γ : Globs}
def actP (a : List UInt8 × Int) : List PV := [.sl 1 (bys a.1), .s (.int .i64 a.2)]
def JOrd (room : UInt8) (l : List (List UInt8 × Int)) (n : Int) (k : Nat) (L : EL) (M : ML) : Prop := ∃ (i : Nat) (outs B : List UInt8), (k : Int) = 60 - i ∧ qok n B ∧ outs.length + B.length ≤ 200 * i ∧
  L = [(0, .int .u8 room.toNat), (1, .sl 2 (l.map actP)), (4, .bool false), (5, .ptr 0 0), (7, .own 1 1 (bys (outs ++ B))), (8, .own 2 1 (bys outs)), (9, .int .i64 i)] ∧ M = [(0, .box [.int .i64 n, .sl 1 (bys B)] false), (1, .tok), (2, .tok)]
set_option maxHeartbeats 4000000 in
theorem gOrder (room : UInt8) (l : List (List UInt8 × Int)) : Good Try.prog Γ 3 [.int .u8 room.toNat, .sl 2 (l.map actP)] [] (.ret (.bool true)) [] := by
  have hr := room.toNat_lt
  refine sh_start mixed F3 rfl ⟨rfl, rfl, rfl, rfl, rfl⟩ ?_
  simp (maxSteps := 1000000) (disch := omega) only [go_sem, seval]
  refine sh_call (gNewOk (1 + room.toNat) (by omega)) [] ⟨rfl, trivial⟩ trivial rfl trivial ?_
  simp (maxSteps := 1000000) (disch := omega) only [qv, go_sem, seval]
  have hn : (1 : Int) ≤ 1 + room.toNat ∧ (1 : Int) + room.toNat ≤ 256 := by omega
  generalize hN : (1 : Int) + room.toNat = n at hn ⊢
  refine sh_loop mixed (JOrd room l n) (n := 60) ⟨_, _, ⟨0, [], [], by omega, ⟨by omega, by omega, by simp; omega⟩, by simp, rfl, rfl⟩, weakG_nil 7 1 1 rfl rfl (weakG_nil 8 2 1 rfl rfl (sh_weak [(0, 0), (1, 1), (2, 2)] ?_ ?_ rfl rfl rfl rfl rfl))⟩ ?_
  · exact ⟨rfl, rfl, rfl, rfl, rfl, rfl, rfl, trivial⟩
  · exact ⟨⟨_, rfl, rfl, rfl, trivial⟩, rfl, rfl, trivial⟩
  rintro k L M ⟨i, outs, B, hk, hq, hs, rfl, rfl⟩
  obtain ⟨q1, q2, q3⟩ := id hq
  by_cases h1 : (i : Int) < l.length ∧ (i : Int) < 60
  · obtain ⟨h1, h2⟩ := h1
    have hg : (l.map actP).getD i [] = [.sl 1 (bys (l.getD i ([], 0)).1), .s (.int .i64 (l.getD i ([], 0)).2)] := by
      rw [List.getD_eq_getElem?_getD, List.getElem?_map, List.getD_eq_getElem?_getD, List.getElem?_eq_getElem (by omega)]
      rfl
    generalize (l.getD i ([], 0)).1 = b at hg
    generalize (l.getD i ([], 0)).2 = m at hg
    simp (maxSteps := 1000000) (disch := omega) only [go_sem, seval, List.length_map, Int.toNat_natCast, hg]
    refine sh_call (gFew b) [] ⟨rfl, trivial⟩ trivial rfl trivial ?_
    have la : (b.take 200).length ≤ 200 := by rw [List.length_take]; omega
    generalize b.take 200 = b at la ⊢
    by_cases hb : 0 < b.length
    · simp (maxSteps := 1000000) (disch := omega) only [go_sem, seval]
      have hP := gPutN (Γ := Γ) n B b (min b.length (n.toNat - B.length)) hq rfl
      have hkk : min b.length (n.toNat - B.length) = b.length ∨ min b.length (n.toNat - B.length) + B.length = n.toNat := by omega
      have hkl : min b.length (n.toNat - B.length) ≤ b.length := by omega
      have hkn : min b.length (n.toNat - B.length) + B.length ≤ n.toNat := by omega
      generalize min b.length (n.toNat - B.length) = p at hP hkk hkl hkn
      refine sh_call hP [] ⟨⟨rfl, rfl, trivial⟩, rfl, trivial⟩ trivial rfl ⟨.inr rfl, trivial⟩ ?_
      by_cases hpl : p < b.length
      · simp (maxSteps := 1000000) (disch := omega) only [go_sem, seval, Int.toNat_natCast]
        refine ⟨k - 1, _, _, by omega, ⟨i + 1, outs, B ++ b.take p, by omega, ⟨q1, q2, by rw [List.length_append, List.length_take]; omega⟩, by rw [List.length_append, List.length_take]; omega, rfl, rfl⟩,
          sh_weak [(0, 0), (1, 6), (2, 2)] ⟨rfl, rfl, rfl, rfl, congrArg (fun z => AV.own 6 1 (bys z)) (List.append_assoc _ _ _), rfl, rfl, trivial⟩ ⟨⟨_, rfl, rfl, ⟨rfl, rfl⟩, trivial⟩, rfl, rfl, trivial⟩ rfl rfl rfl rfl rfl⟩
      · simp (maxSteps := 1000000) (disch := omega) only [go_sem, seval, Int.toNat_natCast]
        refine ⟨k - 1, _, _, by omega, ⟨i + 1, outs, B ++ b.take p, by omega, ⟨q1, q2, by rw [List.length_append, List.length_take]; omega⟩, by rw [List.length_append, List.length_take]; omega, rfl, rfl⟩,
          sh_weak [(0, 0), (1, 6), (2, 2)] ⟨rfl, rfl, rfl, rfl, congrArg (fun z => AV.own 6 1 (bys z)) (List.append_assoc _ _ _), rfl, rfl, trivial⟩ ⟨⟨_, rfl, rfl, ⟨rfl, rfl⟩, trivial⟩, rfl, rfl, trivial⟩ rfl rfl rfl rfl rfl⟩
    · simp (maxSteps := 1000000) (disch := omega) only [go_sem, seval, List.length_map, Int.toNat_natCast, hg]
      have hT := gTakeN (Γ := Γ) n B m (max 0 (min m B.length)).toNat hq (by omega)
      have hkm : (max 0 (min m (B.length : Int))).toNat ≤ B.length ∧ ((max 0 (min m (B.length : Int))).toNat : Int) ≤ max m 0 := by omega
      generalize (max 0 (min m (B.length : Int))).toNat = p at hT hkm
      refine sh_callT hT [] ⟨⟨rfl, rfl, trivial⟩, rfl, trivial⟩ trivial rfl ⟨.inr rfl, .inr rfl, trivial⟩ ?_
      simp (maxSteps := 1000000) (disch := omega) only [go_sem, seval, List.length_map, Int.toNat_natCast, hg]
      refine ⟨rfl, k - 1, _, _, by omega, ⟨i + 1, outs ++ B.take p, B.drop p, by omega, ⟨q1, q2, by rw [List.length_drop]; omega⟩, by rw [List.length_append, List.length_take, List.length_drop]; omega, rfl, rfl⟩,
        sh_weak [(0, 0), (1, 1), (2, 7)] ⟨rfl, rfl, rfl, rfl, congrArg (fun z => AV.own 1 1 (bys z)) (by rw [List.append_assoc, List.take_append_drop]), rfl, rfl, trivial⟩ ⟨⟨_, rfl, rfl, ⟨rfl, rfl⟩, trivial⟩, rfl, rfl, trivial⟩ rfl rfl rfl rfl rfl⟩
  · by_cases h2 : (i : Int) < l.length
    · simp (maxSteps := 1000000) (disch := omega) only [go_sem, seval, List.length_map]
      refine sh_callT (gOctets (outs ++ B) (outs ++ B)) [] ⟨⟨rfl, rfl⟩, ⟨rfl, rfl⟩, trivial⟩ trivial rfl trivial ?_
      simp (maxSteps := 1000000) (disch := omega) only [go_sem, seval, hN]
      refine sh_callT gAwake [] trivial trivial rfl trivial ?_
      simp (maxSteps := 1000000) (disch := omega) only [go_sem, seval]
      exact ⟨rfl, endE_by [] rfl trivial rfl rfl⟩
    · simp (maxSteps := 1000000) (disch := omega) only [go_sem, seval, List.length_map]
      refine sh_callT (gOctets (outs ++ B) (outs ++ B)) [] ⟨⟨rfl, rfl⟩, ⟨rfl, rfl⟩, trivial⟩ trivial rfl trivial ?_
      simp (maxSteps := 1000000) (disch := omega) only [go_sem, seval, hN]
      refine sh_callT gAwake [] trivial trivial rfl trivial ?_
      simp (maxSteps := 1000000) (disch := omega) only [go_sem, seval]
      exact ⟨rfl, endE_by [] rfl trivial rfl rfl⟩
end Go.Proofs.Ytnhkcalanpepoaa
