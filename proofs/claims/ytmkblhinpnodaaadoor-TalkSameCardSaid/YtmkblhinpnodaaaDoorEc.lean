/- Layer 8, as far as it is reached: what the document says of meaning. Own work. -/
import Derived.Test.YtmkblhinpnodaaaDoorEb
import Derived.Test.YtmkblhinpnodaaaDoorZ3
namespace Go.Proofs.YtmkblhinpnodaaaDoor
open Go Go.Shade
variable {Γ : Globs}
/-- Has one of the first functions the key? -/
def anyHit (t : Tbl) (k : UInt8) : Nat → Bool
  | 0 => false
  | n + 1 => anyHit t k n || (decide (1 ≤ n) && decide (hit t k n))
theorem anyHit_iff (t : Tbl) (k : UInt8) : ∀ n : Nat, anyHit t k n = true ↔ ∃ i, 1 ≤ i ∧ i < n ∧ hit t k i
  | 0 => by simp [anyHit]
  | n + 1 => by
    rw [anyHit, Bool.or_eq_true, anyHit_iff t k n, Bool.and_eq_true, decide_eq_true_iff, decide_eq_true_iff]
    constructor
    · rintro (⟨i, h1, h2, h3⟩ | ⟨h1, h2⟩)
      · exact ⟨i, h1, by omega, h3⟩
      · exact ⟨n, h1, by omega, h2⟩
    · rintro ⟨i, h1, h2, h3⟩
      by_cases he : i = n
      · subst he; exact .inr ⟨h1, h3⟩
      · exact .inl ⟨i, h1, by omega, h3⟩
theorem meaning_at {t : Tbl} {k : UInt8} (h13 : ¬ k = 13) {f : Nat} (h1 : 1 ≤ f) (h30 : f ≤ 30) (hle : meaning t k ≤ f) (hh : hit t k f) (hn : anyHit t k f = false) : meaning t k = f := by
  by_cases h0 : meaning t k = 0
  · exact absurd hh (hit_none h0 f h1 h30)
  · obtain ⟨h2, h3, h4⟩ := hit_one h13 rfl (show 1 ≤ meaning t k by omega)
    by_cases he : meaning t k = f
    · exact he
    · have : anyHit t k f = true := (anyHit_iff t k f).2 ⟨meaning t k, by omega, by omega, h3⟩
      rw [hn] at this
      cases this
theorem meaning_lt {t : Tbl} {k : UInt8} (h13 : ¬ k = 13) {f : Nat} (h1 : 1 ≤ f) (hle : meaning t k ≤ f) (hh : ¬ (hit t k f ∧ anyHit t k f = false)) : meaning t k ≤ f - 1 := by
  by_cases he : meaning t k = f
  · obtain ⟨h2, h3, h4⟩ := hit_one h13 he h1
    refine absurd ⟨h3, ?_⟩ hh
    cases hb : anyHit t k f with
    | false => rfl
    | true =>
      obtain ⟨i, h5, h6, h7⟩ := (anyHit_iff t k f).1 hb
      exact absurd h7 (h4 i h5 h6)
  · omega
set_option maxHeartbeats 1000000 in
theorem gRMeaning (t : Tbl) (k : UInt8) : Good Tryd.prog Γ 40 [.agg (tq t), .int .u8 k.toNat] [] (.ret (.int .i64 (meaning t k))) [] := by
  refine sh_start mixed F40 rfl ⟨(by first | exact rfl | (simp only [go_sem, seval]; done) | (simp only [go_sem, seval]; exact rfl)), (by first | exact rfl | (simp only [go_sem, seval]; done) | (simp only [go_sem, seval]; exact rfl)), (by first | exact rfl | (simp only [go_sem, seval]; done) | (simp only [go_sem, seval]; exact rfl)), (by first | exact rfl | (simp only [go_sem, seval]; done) | (simp only [go_sem, seval]; exact rfl)), (by first | exact rfl | (simp only [go_sem, seval]; done) | (simp only [go_sem, seval]; exact rfl))⟩ ?_
  by_cases h13 : k = 13
  · have : meaning t k = 31 := by subst h13; rfl
    rw [this]
    repeat' (first | (with_reducible exact trivial) | simp (maxSteps := 2000000) (disch := omega) only [h13, go_sem, seval] | ((with_reducible refine isE ?_); refine eA ?_; (repeat' (first | exact le_tq0 rfl | exact le_tq0r rfl | refine le_tqr rfl ?_ | refine le_tq rfl ?_ | exact trivial | refine le_int ?_ | refine le_bool ?_ | refine le_str ?_ | refine le_sl ?_ | refine le_own ?_ | refine le_osl ?_ | refine le_nsl ?_ | exact rfl | refine ⟨?_, ?_⟩ | fail))) | ((with_reducible refine isI ?_ ?_); (kernel_rfl)) | fail)
  · have hm31 : meaning t k ≤ 30 := by
      unfold meaning
      rw [if_neg h13]
      rcases meanFrom_spec t k 30 (by omega) with ⟨h2, _⟩ | ⟨h2, h3, _⟩ <;> omega
    repeat' (first | (with_reducible exact trivial) | simp (maxSteps := 2000000) (disch := omega) only [is13, h13, go_sem, seval] | ((with_reducible refine isI ?_ ?_); (kernel_rfl)) | fail)
    refine sh_loopX mixed (fun f : Nat => ([(1, .int .u8 k.toNat), (2, .ptr 0 0), (5, .int .i64 f)], [(0, .box (tq t) false)])) (fun f => f) (fun f => f ≤ 30 ∧ meaning t k ≤ f) 30 ⟨by omega, hm31⟩ wkAu ?_
    rintro f ⟨hf, hle⟩
    cases f with
    | zero =>
      have : meaning t k = 0 := by omega
      rw [this]
      repeat' (first | (with_reducible exact trivial) | simp (maxSteps := 2000000) (disch := omega) only [go_sem, seval] | ((with_reducible refine isE ?_); refine eA ?_; (repeat' (first | exact le_tq0 rfl | exact le_tq0r rfl | refine le_tqr rfl ?_ | refine le_tq rfl ?_ | exact trivial | refine le_int ?_ | refine le_bool ?_ | refine le_str ?_ | refine le_sl ?_ | refine le_own ?_ | refine le_osl ?_ | refine le_nsl ?_ | exact rfl | refine ⟨?_, ?_⟩ | fail))) | ((with_reducible refine isI ?_ ?_); (kernel_rfl)) | fail)
    | succ f =>
      repeat' (first | (with_reducible exact trivial) | simp (maxSteps := 2000000) (disch := omega) only [go_sem, seval] | ((with_reducible refine isI ?_ ?_); (kernel_rfl)) | fail)
      refine sh_loopX mixed (fun g : Nat => ([(1, .int .u8 k.toNat), (2, .ptr 0 0), (5, .int .i64 ((f + 1 : Nat) : Int)), (6, .bool (anyHit t k g)), (7, .int .i64 g)], [(0, .box (tq t) false)])) (fun g => f + 1 - g) (fun g => 1 ≤ g ∧ g ≤ f + 1) 1 ⟨by omega, by omega⟩ wkAu ?_
      rintro g ⟨hg1, hg⟩
      by_cases hl : g < f + 1
      · have hlv := tq_lv (t := t) (i := g) (by omega)
        have hv := tq_v (t := t) (i := g) (by omega)
        have hs : anyHit t k (g + 1) = (anyHit t k g || decide (hit t k g)) := by rw [anyHit, decide_eq_true hg1, Bool.true_and]
        cases ha : anyHit t k g
        · rw [ha, Bool.false_or] at hs
          by_cases h1 : t.lv g = 0
          · rw [decide_eq_false (fun h => h.1 h1)] at hs
            repeat' (first | (with_reducible exact trivial) | simp (maxSteps := 2000000) (disch := omega) only [Int.toNat_natCast, hlv, h1, go_sem, seval] | ((with_reducible refine isI ?_ ?_); (kernel_rfl)) | fail)
            exact ⟨g + 1, by omega, ⟨by omega, by omega⟩, (wkAu (h1 := by (repeat' (first | exact le_tq0 rfl | exact le_tq0r rfl | refine le_tqr rfl ?_ | refine le_tq rfl ?_ | exact trivial | exact rfl | refine le_int ?_ | refine le_bool ?_ | refine le_str ?_ | refine le_sl ?_ | refine le_own ?_ | refine le_osl ?_ | refine le_nsl ?_ | refine ⟨_, rfl, ?_⟩ | refine ⟨?_, ?_⟩ | (exact hs.symm; done) | fail)); first | done | fail) (h2 := by (repeat' (first | exact le_tq0 rfl | exact le_tq0r rfl | refine le_tqr rfl ?_ | refine le_tq rfl ?_ | exact trivial | exact rfl | refine le_int ?_ | refine le_bool ?_ | refine le_str ?_ | refine le_sl ?_ | refine le_own ?_ | refine le_osl ?_ | refine le_nsl ?_ | refine ⟨_, rfl, ?_⟩ | refine ⟨?_, ?_⟩ | (exact hs.symm; done) | fail)); first | done | fail))⟩
          · by_cases h2 : t.v g = k
            · rw [decide_eq_true ⟨h1, h2⟩] at hs
              repeat' (first | (with_reducible exact trivial) | simp (maxSteps := 2000000) (disch := omega) only [Int.toNat_natCast, hlv, hv, h1, h2, go_sem, seval] | ((with_reducible refine isI ?_ ?_); (kernel_rfl)) | fail)
              exact ⟨g + 1, by omega, ⟨by omega, by omega⟩, (wkAu (h1 := by (repeat' (first | exact le_tq0 rfl | exact le_tq0r rfl | refine le_tqr rfl ?_ | refine le_tq rfl ?_ | exact trivial | exact rfl | refine le_int ?_ | refine le_bool ?_ | refine le_str ?_ | refine le_sl ?_ | refine le_own ?_ | refine le_osl ?_ | refine le_nsl ?_ | refine ⟨_, rfl, ?_⟩ | refine ⟨?_, ?_⟩ | (exact hs.symm; done) | fail)); first | done | fail) (h2 := by (repeat' (first | exact le_tq0 rfl | exact le_tq0r rfl | refine le_tqr rfl ?_ | refine le_tq rfl ?_ | exact trivial | exact rfl | refine le_int ?_ | refine le_bool ?_ | refine le_str ?_ | refine le_sl ?_ | refine le_own ?_ | refine le_osl ?_ | refine le_nsl ?_ | refine ⟨_, rfl, ?_⟩ | refine ⟨?_, ?_⟩ | (exact hs.symm; done) | fail)); first | done | fail))⟩
            · rw [decide_eq_false (fun h => h2 h.2)] at hs
              repeat' (first | (with_reducible exact trivial) | simp (maxSteps := 2000000) (disch := omega) only [Int.toNat_natCast, hlv, hv, h1, u8i_eq, h2, go_sem, seval] | ((with_reducible refine isI ?_ ?_); (kernel_rfl)) | fail)
              exact ⟨g + 1, by omega, ⟨by omega, by omega⟩, (wkAu (h1 := by (repeat' (first | exact le_tq0 rfl | exact le_tq0r rfl | refine le_tqr rfl ?_ | refine le_tq rfl ?_ | exact trivial | exact rfl | refine le_int ?_ | refine le_bool ?_ | refine le_str ?_ | refine le_sl ?_ | refine le_own ?_ | refine le_osl ?_ | refine le_nsl ?_ | refine ⟨_, rfl, ?_⟩ | refine ⟨?_, ?_⟩ | (exact hs.symm; done) | fail)); first | done | fail) (h2 := by (repeat' (first | exact le_tq0 rfl | exact le_tq0r rfl | refine le_tqr rfl ?_ | refine le_tq rfl ?_ | exact trivial | exact rfl | refine le_int ?_ | refine le_bool ?_ | refine le_str ?_ | refine le_sl ?_ | refine le_own ?_ | refine le_osl ?_ | refine le_nsl ?_ | refine ⟨_, rfl, ?_⟩ | refine ⟨?_, ?_⟩ | (exact hs.symm; done) | fail)); first | done | fail))⟩
        · rw [ha, Bool.true_or] at hs
          repeat' (first | (with_reducible exact trivial) | simp (maxSteps := 2000000) (disch := omega) only [go_sem, seval] | ((with_reducible refine isI ?_ ?_); (kernel_rfl)) | fail)
          exact ⟨g + 1, by omega, ⟨by omega, by omega⟩, (wkAu (h1 := by (repeat' (first | exact le_tq0 rfl | exact le_tq0r rfl | refine le_tqr rfl ?_ | refine le_tq rfl ?_ | exact trivial | exact rfl | refine le_int ?_ | refine le_bool ?_ | refine le_str ?_ | refine le_sl ?_ | refine le_own ?_ | refine le_osl ?_ | refine le_nsl ?_ | refine ⟨_, rfl, ?_⟩ | refine ⟨?_, ?_⟩ | (exact hs.symm; done) | fail)); first | done | fail) (h2 := by (repeat' (first | exact le_tq0 rfl | exact le_tq0r rfl | refine le_tqr rfl ?_ | refine le_tq rfl ?_ | exact trivial | exact rfl | refine le_int ?_ | refine le_bool ?_ | refine le_str ?_ | refine le_sl ?_ | refine le_own ?_ | refine le_osl ?_ | refine le_nsl ?_ | refine ⟨_, rfl, ?_⟩ | refine ⟨?_, ?_⟩ | (exact hs.symm; done) | fail)); first | done | fail))⟩
      · have : g = f + 1 := by omega
        subst this
        have hlv := tq_lv (t := t) (i := f + 1) (by omega)
        have hv := tq_v (t := t) (i := f + 1) (by omega)
        have en : ((f : Int) + 1).toNat = f + 1 := by omega
        have hat := meaning_at (t := t) h13 (f := f + 1) (by omega) hf hle
        have hlt := meaning_lt (t := t) h13 (f := f + 1) (by omega) hle
        cases ha : anyHit t k (f + 1)
        · by_cases h1 : t.lv (f + 1) = 0
          · have hlt := hlt (fun h => h.1.1 h1)
            repeat' (first | (with_reducible exact trivial) | simp (maxSteps := 2000000) (disch := omega) only [Int.natCast_add, Int.natCast_one, en, hlv, h1, go_sem, seval] | ((with_reducible refine isI ?_ ?_); (kernel_rfl)) | fail)
            exact ⟨f, by omega, ⟨by omega, by omega⟩, (wkAu (h1 := by (repeat' (first | exact le_tq0 rfl | exact le_tq0r rfl | refine le_tqr rfl ?_ | refine le_tq rfl ?_ | exact trivial | exact rfl | refine le_int ?_ | refine le_bool ?_ | refine le_str ?_ | refine le_sl ?_ | refine le_own ?_ | refine le_osl ?_ | refine le_nsl ?_ | refine ⟨_, rfl, ?_⟩ | refine ⟨?_, ?_⟩ | (omega; done) | fail)); first | done | fail) (h2 := by (repeat' (first | exact le_tq0 rfl | exact le_tq0r rfl | refine le_tqr rfl ?_ | refine le_tq rfl ?_ | exact trivial | exact rfl | refine le_int ?_ | refine le_bool ?_ | refine le_str ?_ | refine le_sl ?_ | refine le_own ?_ | refine le_osl ?_ | refine le_nsl ?_ | refine ⟨_, rfl, ?_⟩ | refine ⟨?_, ?_⟩ | (omega; done) | fail)); first | done | fail))⟩
          · by_cases h2 : t.v (f + 1) = k
            · rw [hat ⟨h1, h2⟩ ha]
              repeat' (first | (with_reducible exact trivial) | simp (maxSteps := 2000000) (disch := omega) only [Int.natCast_add, Int.natCast_one, en, hlv, hv, h1, h2, go_sem, seval] | ((with_reducible refine isE ?_); refine eA ?_; (repeat' (first | exact le_tq0 rfl | exact le_tq0r rfl | refine le_tqr rfl ?_ | refine le_tq rfl ?_ | exact trivial | refine le_int ?_ | refine le_bool ?_ | refine le_str ?_ | refine le_sl ?_ | refine le_own ?_ | refine le_osl ?_ | refine le_nsl ?_ | exact rfl | (omega; done) | refine ⟨?_, ?_⟩ | fail))) | ((with_reducible refine isI ?_ ?_); (kernel_rfl)) | fail)
            · have hlt := hlt (fun h => h2 h.1.2)
              repeat' (first | (with_reducible exact trivial) | simp (maxSteps := 2000000) (disch := omega) only [Int.natCast_add, Int.natCast_one, en, hlv, hv, h1, u8i_eq, h2, go_sem, seval] | ((with_reducible refine isI ?_ ?_); (kernel_rfl)) | fail)
              exact ⟨f, by omega, ⟨by omega, by omega⟩, (wkAu (h1 := by (repeat' (first | exact le_tq0 rfl | exact le_tq0r rfl | refine le_tqr rfl ?_ | refine le_tq rfl ?_ | exact trivial | exact rfl | refine le_int ?_ | refine le_bool ?_ | refine le_str ?_ | refine le_sl ?_ | refine le_own ?_ | refine le_osl ?_ | refine le_nsl ?_ | refine ⟨_, rfl, ?_⟩ | refine ⟨?_, ?_⟩ | (omega; done) | fail)); first | done | fail) (h2 := by (repeat' (first | exact le_tq0 rfl | exact le_tq0r rfl | refine le_tqr rfl ?_ | refine le_tq rfl ?_ | exact trivial | exact rfl | refine le_int ?_ | refine le_bool ?_ | refine le_str ?_ | refine le_sl ?_ | refine le_own ?_ | refine le_osl ?_ | refine le_nsl ?_ | refine ⟨_, rfl, ?_⟩ | refine ⟨?_, ?_⟩ | (omega; done) | fail)); first | done | fail))⟩
        · have hlt := hlt (fun h => by rw [ha] at h; cases h.2)
          by_cases h1 : t.lv (f + 1) = 0
          · repeat' (first | (with_reducible exact trivial) | simp (maxSteps := 2000000) (disch := omega) only [Int.natCast_add, Int.natCast_one, en, hlv, h1, go_sem, seval] | ((with_reducible refine isI ?_ ?_); (kernel_rfl)) | fail)
            exact ⟨f, by omega, ⟨by omega, by omega⟩, (wkAu (h1 := by (repeat' (first | exact le_tq0 rfl | exact le_tq0r rfl | refine le_tqr rfl ?_ | refine le_tq rfl ?_ | exact trivial | exact rfl | refine le_int ?_ | refine le_bool ?_ | refine le_str ?_ | refine le_sl ?_ | refine le_own ?_ | refine le_osl ?_ | refine le_nsl ?_ | refine ⟨_, rfl, ?_⟩ | refine ⟨?_, ?_⟩ | (omega; done) | fail)); first | done | fail) (h2 := by (repeat' (first | exact le_tq0 rfl | exact le_tq0r rfl | refine le_tqr rfl ?_ | refine le_tq rfl ?_ | exact trivial | exact rfl | refine le_int ?_ | refine le_bool ?_ | refine le_str ?_ | refine le_sl ?_ | refine le_own ?_ | refine le_osl ?_ | refine le_nsl ?_ | refine ⟨_, rfl, ?_⟩ | refine ⟨?_, ?_⟩ | (omega; done) | fail)); first | done | fail))⟩
          · by_cases h2 : t.v (f + 1) = k
            · repeat' (first | (with_reducible exact trivial) | simp (maxSteps := 2000000) (disch := omega) only [Int.natCast_add, Int.natCast_one, en, hlv, hv, h1, h2, go_sem, seval] | ((with_reducible refine isI ?_ ?_); (kernel_rfl)) | fail)
              exact ⟨f, by omega, ⟨by omega, by omega⟩, (wkAu (h1 := by (repeat' (first | exact le_tq0 rfl | exact le_tq0r rfl | refine le_tqr rfl ?_ | refine le_tq rfl ?_ | exact trivial | exact rfl | refine le_int ?_ | refine le_bool ?_ | refine le_str ?_ | refine le_sl ?_ | refine le_own ?_ | refine le_osl ?_ | refine le_nsl ?_ | refine ⟨_, rfl, ?_⟩ | refine ⟨?_, ?_⟩ | (omega; done) | fail)); first | done | fail) (h2 := by (repeat' (first | exact le_tq0 rfl | exact le_tq0r rfl | refine le_tqr rfl ?_ | refine le_tq rfl ?_ | exact trivial | exact rfl | refine le_int ?_ | refine le_bool ?_ | refine le_str ?_ | refine le_sl ?_ | refine le_own ?_ | refine le_osl ?_ | refine le_nsl ?_ | refine ⟨_, rfl, ?_⟩ | refine ⟨?_, ?_⟩ | (omega; done) | fail)); first | done | fail))⟩
            · repeat' (first | (with_reducible exact trivial) | simp (maxSteps := 2000000) (disch := omega) only [Int.natCast_add, Int.natCast_one, en, hlv, hv, h1, u8i_eq, h2, go_sem, seval] | ((with_reducible refine isI ?_ ?_); (kernel_rfl)) | fail)
              exact ⟨f, by omega, ⟨by omega, by omega⟩, (wkAu (h1 := by (repeat' (first | exact le_tq0 rfl | exact le_tq0r rfl | refine le_tqr rfl ?_ | refine le_tq rfl ?_ | exact trivial | exact rfl | refine le_int ?_ | refine le_bool ?_ | refine le_str ?_ | refine le_sl ?_ | refine le_own ?_ | refine le_osl ?_ | refine le_nsl ?_ | refine ⟨_, rfl, ?_⟩ | refine ⟨?_, ?_⟩ | (omega; done) | fail)); first | done | fail) (h2 := by (repeat' (first | exact le_tq0 rfl | exact le_tq0r rfl | refine le_tqr rfl ?_ | refine le_tq rfl ?_ | exact trivial | exact rfl | refine le_int ?_ | refine le_bool ?_ | refine le_str ?_ | refine le_sl ?_ | refine le_own ?_ | refine le_osl ?_ | refine le_nsl ?_ | refine ⟨_, rfl, ?_⟩ | refine ⟨?_, ?_⟩ | (omega; done) | fail)); first | done | fail))⟩
end Go.Proofs.YtmkblhinpnodaaaDoor
