/- Layer 8, as far as it is reached: what keys mean. Own work. -/
import Derived.Test.YtmkblhinpnodaaaDoorKa
import Derived.Test.YtmkblhinpnodaaaDoorZ3
import Derived.Test.YtmkblhinpnodaaaDoorZ3
namespace Go.Proofs.YtmkblhinpnodaaaDoor
open Go Go.Shade
variable {Γ : Globs}
/-- Does a function of a table have a key? -/
def hit (t : Tbl) (k : UInt8) (i : Nat) : Prop := t.lv i ≠ 0 ∧ t.v i = k
instance (t : Tbl) (k : UInt8) (i : Nat) : Decidable (hit t k i) := inferInstanceAs (Decidable (_ ∧ _))
def meanFrom (t : Tbl) (k : UInt8) : Nat → Nat
  | 0 => 0
  | r + 1 => if hit t k (30 - r) then 30 - r else meanFrom t k r
/-- What a key means. -/
def meaning (t : Tbl) (k : UInt8) : Nat := if k = 13 then 31 else meanFrom t k 30
theorem meanFrom_spec (t : Tbl) (k : UInt8) : ∀ r : Nat, r ≤ 30 → (meanFrom t k r = 0 ∧ ∀ i, 31 - r ≤ i → i ≤ 30 → ¬ hit t k i) ∨ (31 - r ≤ meanFrom t k r ∧ meanFrom t k r ≤ 30 ∧ hit t k (meanFrom t k r) ∧ ∀ i, 31 - r ≤ i → i < meanFrom t k r → ¬ hit t k i)
  | 0, _ => .inl ⟨rfl, fun i h1 h2 => by omega⟩
  | r + 1, h => by
    rw [meanFrom]
    by_cases hh : hit t k (30 - r)
    · rw [if_pos hh]
      exact .inr ⟨by omega, by omega, hh, fun i h1 h2 => by omega⟩
    · rw [if_neg hh]
      have hi : ∀ i, 31 - (r + 1) ≤ i → i ≤ 30 → (31 - r ≤ i → ¬ hit t k i) → ¬ hit t k i := fun i h1 h2 h3 => by
        by_cases he : i = 30 - r
        · rw [he]; exact hh
        · exact h3 (by omega)
      rcases meanFrom_spec t k r (by omega) with ⟨h1, h2⟩ | ⟨h1, h2, h3, h4⟩
      · exact .inl ⟨h1, fun i h3 h4 => hi i h3 h4 (fun h5 => h2 i h5 h4)⟩
      · exact .inr ⟨by omega, h2, h3, fun i h5 h6 => hi i h5 (by omega) (fun h7 => h4 i h7 h6)⟩
theorem is13 (c : UInt8) : ((c.toNat : Int) = 13) = (c = 13) := propext ⟨fun h => UInt8.toNat_inj.1 (by show c.toNat = 13; omega), fun h => by rw [h]; rfl⟩
theorem u8i_eq (c d : UInt8) : ((c.toNat : Int) = (d.toNat : Int)) = (c = d) := propext ⟨fun h => UInt8.toNat_inj.1 (by omega), fun h => by rw [h]⟩
theorem gMeaning (t : Tbl) (k : UInt8) : Good Tryd.prog Γ 30 [.agg (tq t), .int .u8 k.toNat] [] (.ret (.int .i64 (meaning t k))) [] := by
  refine sh_start mixed F30 rfl ⟨(by first | exact rfl | (simp only [go_sem, seval]; done) | (simp only [go_sem, seval]; exact rfl)), (by first | exact rfl | (simp only [go_sem, seval]; done) | (simp only [go_sem, seval]; exact rfl)), (by first | exact rfl | (simp only [go_sem, seval]; done) | (simp only [go_sem, seval]; exact rfl)), (by first | exact rfl | (simp only [go_sem, seval]; done) | (simp only [go_sem, seval]; exact rfl)), (by first | exact rfl | (simp only [go_sem, seval]; done) | (simp only [go_sem, seval]; exact rfl))⟩ ?_
  unfold meaning
  by_cases h13 : k = 13
  · repeat' (first | (with_reducible exact trivial) | simp (maxSteps := 2000000) (disch := omega) only [h13, go_sem, seval] | ((with_reducible refine isE ?_); refine eA ?_; (repeat' (first | exact le_tq0 rfl | exact le_tq0r rfl | refine le_tqr rfl ?_ | refine le_tq rfl ?_ | exact trivial | refine le_int ?_ | refine le_bool ?_ | refine le_str ?_ | refine le_sl ?_ | refine le_own ?_ | refine le_osl ?_ | refine le_nsl ?_ | exact rfl | refine ⟨?_, ?_⟩ | fail))) | ((with_reducible refine isI ?_ ?_); (kernel_rfl)) | fail)
  · rw [if_neg h13]
    repeat' (first | (with_reducible exact trivial) | simp (maxSteps := 2000000) (disch := omega) only [is13, h13, go_sem, seval] | ((with_reducible refine isI ?_ ?_); (kernel_rfl)) | fail)
    refine sh_loopX mixed (fun r : Nat => ([(1, .int .u8 k.toNat), (2, .ptr 0 0), (5, .int .i64 ((31 - r : Nat) : Int))], [(0, .box (tq t) false)])) (fun r => r) (fun r => r ≤ 30 ∧ meanFrom t k 30 = meanFrom t k r) 30 ⟨by omega, rfl⟩ wkAu ?_
    rintro r ⟨hr, he⟩
    cases r with
    | zero => repeat' (first | (with_reducible exact trivial) | simp (maxSteps := 2000000) (disch := omega) only [go_sem, seval] | ((with_reducible refine isE ?_); refine eA ?_; (repeat' (first | exact le_tq0 rfl | exact le_tq0r rfl | refine le_tqr rfl ?_ | refine le_tq rfl ?_ | exact trivial | refine le_int ?_ | refine le_bool ?_ | refine le_str ?_ | refine le_sl ?_ | refine le_own ?_ | refine le_osl ?_ | refine le_nsl ?_ | exact rfl | ((rw [he]; rfl); done) | refine ⟨?_, ?_⟩ | fail))) | ((with_reducible refine isI ?_ ?_); (kernel_rfl)) | fail)
    | succ r =>
      have e1 : ((31 - (r + 1) : Nat) : Int) = ((30 - r : Nat) : Int) := by omega
      have hi : 30 - r < 31 := by omega
      have hlv := tq_lv (t := t) hi
      have hv := tq_v (t := t) hi
      rw [meanFrom.eq_2 _ _ r] at he
      rw [e1]
      generalize hq : 30 - r = q at *
      by_cases h1 : t.lv q = 0
      · rw [if_neg (fun h => h.1 h1)] at he
        repeat' (first | (with_reducible exact trivial) | simp (maxSteps := 2000000) (disch := omega) only [Int.toNat_natCast, hlv, h1, go_sem, seval] | ((with_reducible refine isI ?_ ?_); (kernel_rfl)) | fail)
        exact ⟨r, by omega, ⟨by omega, he⟩, (wkAu (h1 := by (repeat' (first | exact le_tq0 rfl | exact le_tq0r rfl | refine le_tqr rfl ?_ | refine le_tq rfl ?_ | exact trivial | exact rfl | refine le_int ?_ | refine le_bool ?_ | refine le_str ?_ | refine le_sl ?_ | refine le_own ?_ | refine le_osl ?_ | refine le_nsl ?_ | refine ⟨_, rfl, ?_⟩ | refine ⟨?_, ?_⟩ | (omega; done) | fail)); first | done | fail) (h2 := by (repeat' (first | exact le_tq0 rfl | exact le_tq0r rfl | refine le_tqr rfl ?_ | refine le_tq rfl ?_ | exact trivial | exact rfl | refine le_int ?_ | refine le_bool ?_ | refine le_str ?_ | refine le_sl ?_ | refine le_own ?_ | refine le_osl ?_ | refine le_nsl ?_ | refine ⟨_, rfl, ?_⟩ | refine ⟨?_, ?_⟩ | (omega; done) | fail)); first | done | fail))⟩
      · by_cases h2 : t.v q = k
        · rw [if_pos ⟨h1, h2⟩] at he
          repeat' (first | (with_reducible exact trivial) | simp (maxSteps := 2000000) (disch := omega) only [Int.toNat_natCast, hlv, hv, h1, h2, go_sem, seval] | ((with_reducible refine isE ?_); refine eA ?_; (repeat' (first | exact le_tq0 rfl | exact le_tq0r rfl | refine le_tqr rfl ?_ | refine le_tq rfl ?_ | exact trivial | refine le_int ?_ | refine le_bool ?_ | refine le_str ?_ | refine le_sl ?_ | refine le_own ?_ | refine le_osl ?_ | refine le_nsl ?_ | exact rfl | ((rw [he]); done) | refine ⟨?_, ?_⟩ | fail))) | ((with_reducible refine isI ?_ ?_); (kernel_rfl)) | fail)
        · rw [if_neg (fun h => h2 h.2)] at he
          repeat' (first | (with_reducible exact trivial) | simp (maxSteps := 2000000) (disch := omega) only [Int.toNat_natCast, hlv, hv, h1, u8i_eq, h2, go_sem, seval] | ((with_reducible refine isI ?_ ?_); (kernel_rfl)) | fail)
          exact ⟨r, by omega, ⟨by omega, he⟩, (wkAu (h1 := by (repeat' (first | exact le_tq0 rfl | exact le_tq0r rfl | refine le_tqr rfl ?_ | refine le_tq rfl ?_ | exact trivial | exact rfl | refine le_int ?_ | refine le_bool ?_ | refine le_str ?_ | refine le_sl ?_ | refine le_own ?_ | refine le_osl ?_ | refine le_nsl ?_ | refine ⟨_, rfl, ?_⟩ | refine ⟨?_, ?_⟩ | (omega; done) | fail)); first | done | fail) (h2 := by (repeat' (first | exact le_tq0 rfl | exact le_tq0r rfl | refine le_tqr rfl ?_ | refine le_tq rfl ?_ | exact trivial | exact rfl | refine le_int ?_ | refine le_bool ?_ | refine le_str ?_ | refine le_sl ?_ | refine le_own ?_ | refine le_osl ?_ | refine le_nsl ?_ | refine ⟨_, rfl, ?_⟩ | refine ⟨?_, ?_⟩ | (omega; done) | fail)); first | done | fail))⟩
end Go.Proofs.YtmkblhinpnodaaaDoor
