/- Layer 1: a queue takes as many as it has room for. Own work. -/
import Derived.Test.YtnhkcalanpepoaaGp
namespace Go.Proofs.Ytnhkcalanpepoaa
open Go Go.Shade
variable {Γ : Globs}
theorem wrap_u8 (n : Int) : ∃ x : UInt8, IntKind.wrap .u8 n = x.toNat := by
  have h : IntKind.wrap .u8 n = n % 256 := by
    show (if (false && decide (n % 256 ≥ 128)) = true then n % 256 - 256 else n % 256) = _
    simp
  refine ⟨UInt8.ofNat (n % 256).toNat, ?_⟩
  rw [h, UInt8.toNat_ofNat_of_lt' (by show _ < 256; omega)]
  omega
theorem bys_snoc (b : List UInt8) (x : UInt8) : bys b ++ [[.s (.int .u8 x.toNat)]] = bys (b ++ [x]) := by simp [bys, by1]
def JFull (c : UInt8) (n : Int) (k : Nat) (L : EL) (M : ML) : Prop := ∃ (i : Nat) (b : List UInt8), (k : Int) = n + 3 - i ∧ b.length = i ∧
  L = [(1, .int .u8 c.toNat), (4, .bool false), (5, .int .i64 n), (6, .ptr 0 0), (7, .int .i64 0), (8, .own 1 1 (bys b)), (9, .int .i64 i)] ∧ M = [(0, .box [.int .i64 n, .sl 1 []] false), (1, .tok)]
set_option maxHeartbeats 4000000 in
theorem gFull (room c : UInt8) : Good Try.prog Γ 8 [.int .u8 room.toNat, .int .u8 c.toNat] [] (.ret (.bool true)) [] := by
  have hr := room.toNat_lt
  refine sh_start mixed F8 rfl ⟨rfl, rfl, rfl, rfl, rfl⟩ ?_
  simp (maxSteps := 1000000) (disch := omega) only [go_sem, seval]
  refine sh_call (gNewOk (1 + room.toNat) (by omega)) [] ⟨rfl, trivial⟩ trivial rfl trivial ?_
  simp (maxSteps := 1000000) (disch := omega) only [qv, go_sem, seval]
  have hn : (1 : Int) ≤ 1 + room.toNat ∧ (1 : Int) + room.toNat ≤ 256 := by omega
  generalize (1 : Int) + room.toNat = n at hn ⊢
  refine sh_loop mixed (JFull c n) (n := (n + 3).toNat) ⟨_, _, ⟨0, [], by omega, rfl, rfl, rfl⟩, weakG_nil 8 1 1 rfl rfl (sh_weak [(0, 0), (1, 1)] ?_ ?_ rfl rfl rfl rfl rfl)⟩ ?_
  · exact ⟨rfl, rfl, rfl, rfl, rfl, rfl, rfl, trivial⟩
  · exact ⟨⟨_, rfl, rfl, rfl, trivial⟩, rfl, trivial⟩
  rintro k L M ⟨i, b, hk, hb, rfl, rfl⟩
  by_cases hlt : (i : Int) < n + 3
  · obtain ⟨x, hx⟩ := wrap_u8 (c.toNat + IntKind.wrap .u8 i)
    simp (maxSteps := 1000000) (disch := omega) only [go_sem, seval, hx, bys_snoc]
    refine ⟨k - 1, _, _, by omega, ⟨i + 1, b ++ [x], by omega, by simp [hb], rfl, rfl⟩, sh_weak [(0, 0), (1, 3)] ⟨rfl, rfl, rfl, rfl, rfl, rfl, rfl, trivial⟩ ⟨⟨_, rfl, rfl, rfl, trivial⟩, rfl, trivial⟩ rfl rfl rfl rfl rfl⟩
  · simp (maxSteps := 1000000) (disch := omega) only [go_sem, seval]
    have hi : (i : Int) = n + 3 ∨ (i : Int) > n + 3 := by omega
    have h1 := gPutN (Γ := Γ) n [] b n.toNat ⟨by omega, by omega, by simp; omega⟩ (by simp; omega)
    rw [List.nil_append, Int.toNat_of_nonneg (by omega)] at h1
    have hl : (b.take n.toNat).length = n.toNat := by rw [List.length_take]; omega
    have h2 := gPutN (Γ := Γ) n (b.take n.toNat) [c] 0 ⟨by omega, by omega, by rw [hl]; omega⟩ (by rw [hl]; omega)
    rw [List.take_zero, List.append_nil] at h2
    have h3 := gTakeN (Γ := Γ) n (b.take n.toNat) n n.toNat ⟨by omega, by omega, by rw [hl]; omega⟩ (by rw [hl]; omega)
    rw [List.take_take, Nat.min_self, show (b.take n.toNat).drop n.toNat = [] from List.drop_of_length_le (by omega)] at h3
    have h4 := gPutN (Γ := Γ) n [] (b.take n.toNat) n.toNat ⟨by omega, by omega, by simp; omega⟩ (by rw [hl]; simp)
    rw [List.nil_append, Int.toNat_of_nonneg (by omega), List.take_take, Nat.min_self] at h4
    generalize hB : b.take n.toNat = B at h1 h2 h3 h4 hl
    refine sh_call h1 [] ⟨⟨rfl, rfl, trivial⟩, ⟨rfl, rfl⟩, trivial⟩ trivial rfl ⟨.inr rfl, trivial⟩ ?_
    simp (maxSteps := 1000000) (disch := omega) only [go_sem, seval]
    refine sh_call h2 [] ⟨⟨rfl, ⟨rfl, rfl⟩, trivial⟩, ⟨rfl, rfl⟩, trivial⟩ trivial rfl ⟨.inr rfl, trivial⟩ ?_
    simp (maxSteps := 1000000) (disch := omega) only [go_sem, seval]
    refine sh_call h3 [] ⟨⟨rfl, ⟨rfl, rfl⟩, trivial⟩, rfl, trivial⟩ trivial rfl ⟨.inr rfl, .inr rfl, trivial⟩ ?_
    simp (maxSteps := 1000000) (disch := omega) only [go_sem, seval]
    rw [hB]
    refine sh_callT h4 [] ⟨⟨rfl, ⟨rfl, rfl⟩, trivial⟩, rfl, trivial⟩ trivial rfl ⟨.inr rfl, trivial⟩ ?_
    simp (maxSteps := 1000000) (disch := omega) only [go_sem, seval, hB]
    refine ⟨rfl, ?_⟩
    refine sh_call (gSame n n B B) [] ⟨⟨rfl, ⟨rfl, rfl⟩, trivial⟩, ⟨rfl, ⟨rfl, rfl⟩, trivial⟩, trivial⟩ trivial rfl trivial ?_
    simp (maxSteps := 1000000) (disch := omega) only [go_sem, seval, and_self]
    refine sh_call (gSame n n B B) [] ⟨⟨rfl, ⟨rfl, rfl⟩, trivial⟩, ⟨rfl, ⟨rfl, rfl⟩, trivial⟩, trivial⟩ trivial rfl trivial ?_
    simp (maxSteps := 1000000) (disch := omega) only [go_sem, seval, and_self, hB]
    refine sh_call (gOctets B B) [] ⟨⟨rfl, rfl⟩, rfl, trivial⟩ trivial rfl trivial ?_
    simp (maxSteps := 1000000) (disch := omega) only [go_sem, seval]
    refine sh_call gAwake [] trivial trivial rfl trivial ?_
    simp (maxSteps := 1000000) (disch := omega) only [go_sem, seval]
    exact endE_by [] rfl trivial rfl rfl
end Go.Proofs.Ytnhkcalanpepoaa
