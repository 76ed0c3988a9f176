/- Layer 14: what the document says. Own work. -/
import Derived.Test.YtmkblhinpnodaaaDoorFd
import Derived.Test.YtmkblhinpnodaaaDoorZ3
namespace Go.Proofs.YtmkblhinpnodaaaDoor
open Go Go.Shade
variable {Γ : Globs}
/-- A key's number; 256: there is none. -/
def keyN (t : Tbl) (f : Nat) : Nat := match keyOf t f with
  | some k => k.toNat
  | none => 256
theorem gRKeyT (t : Tbl) (f : Nat) (h1 : 1 ≤ f) : Good Tryd.prog Γ 65 [.agg (tq t), .int .i64 f] [] (.ret (.int .i64 (keyN t f))) [] := by
  refine sh_start mixed F65 rfl ⟨(by first | exact rfl | (simp only [go_sem, seval]; done) | (simp only [go_sem, seval]; exact rfl)), (by first | exact rfl | (simp only [go_sem, seval]; done) | (simp only [go_sem, seval]; exact rfl)), (by first | exact rfl | (simp only [go_sem, seval]; done) | (simp only [go_sem, seval]; exact rfl)), (by first | exact rfl | (simp only [go_sem, seval]; done) | (simp only [go_sem, seval]; exact rfl)), (by first | exact rfl | (simp only [go_sem, seval]; done) | (simp only [go_sem, seval]; exact rfl))⟩ ?_
  repeat' (first | (with_reducible exact trivial) | simp (maxSteps := 2000000) (disch := omega) only [go_sem, seval] | ((with_reducible refine isI ?_ ?_); (kernel_rfl)) | fail)
  refine sh_loopX mixed (fun k : Nat => ([(1, .int .i64 f), (2, .ptr 0 0), (5, .int .i64 k)], [(0, .box (tq t) false)])) (fun k => 256 - k) (fun k => k ≤ 256 ∧ ∀ j : Nat, j < k → meaning t (u8 j) ≠ f) 0 ⟨by omega, fun j h => by omega⟩ wkAu ?_
  rintro k ⟨hk, hn⟩
  by_cases hl : k < 256
  · have hm := gRMeaning (Γ := Γ) t (u8 k)
    have hu : ((u8 (k : Int)).toNat : Int) = k := u8_in (by omega) (by omega)
    by_cases hf : meaning t (u8 k) = f
    · have hko := keyOf_of hf h1
      have hr : (keyN t f : Int) = k := by unfold keyN; rw [hko]; exact hu
      rw [hr]
      rw [hf] at hm
      repeat' (first | (with_reducible exact trivial) | simp (maxSteps := 2000000) (disch := omega) only [wrapU8, go_sem, seval] | ((with_reducible refine isS ?_); first | refine cS (hm) ?_ | fail) | ((with_reducible refine isE ?_); refine eA ?_; (repeat' (first | exact le_tq0 rfl | exact le_tq0r rfl | refine le_tqr rfl ?_ | refine le_tq rfl ?_ | exact trivial | refine le_int ?_ | refine le_bool ?_ | refine le_str ?_ | refine le_sl ?_ | refine le_own ?_ | refine le_osl ?_ | refine le_nsl ?_ | exact rfl | (omega; done) | refine ⟨?_, ?_⟩ | fail))) | ((with_reducible refine isI ?_ ?_); (kernel_rfl)) | fail)
    · generalize hmv : meaning t (u8 k) = m at hm hf
      have hf' : ¬ ((m : Int) = f) := by omega
      repeat' (first | (with_reducible exact trivial) | simp (maxSteps := 2000000) (disch := omega) only [wrapU8, hf', go_sem, seval] | ((with_reducible refine isS ?_); first | refine cS (hm) ?_ | fail) | ((with_reducible refine isI ?_ ?_); (kernel_rfl)) | fail)
      exact ⟨k + 1, by omega, ⟨by omega, fun j hj => by
        by_cases he : j = k
        · rw [he, hmv]; exact hf
        · exact hn j (by omega)⟩, (wkAu (h1 := by (repeat' (first | exact le_tq0 rfl | exact le_tq0r rfl | refine le_tqr rfl ?_ | refine le_tq rfl ?_ | exact trivial | exact rfl | refine le_int ?_ | refine le_bool ?_ | refine le_str ?_ | refine le_sl ?_ | refine le_own ?_ | refine le_osl ?_ | refine le_nsl ?_ | refine ⟨_, rfl, ?_⟩ | refine ⟨?_, ?_⟩ | (omega; done) | exact Option.some_ne_none _ | fail)); first | done | fail) (h2 := by (repeat' (first | exact le_tq0 rfl | exact le_tq0r rfl | refine le_tqr rfl ?_ | refine le_tq rfl ?_ | exact trivial | exact rfl | refine le_int ?_ | refine le_bool ?_ | refine le_str ?_ | refine le_sl ?_ | refine le_own ?_ | refine le_osl ?_ | refine le_nsl ?_ | refine ⟨_, rfl, ?_⟩ | refine ⟨?_, ?_⟩ | (omega; done) | exact Option.some_ne_none _ | fail)); first | done | fail))⟩
  · have hno : keyOf t f = none := by
      cases hko : keyOf t f with
      | none => rfl
      | some q =>
        obtain ⟨h2, _⟩ := keyOf_some hko
        have := hn q.toNat (by have := q.toNat_lt; omega)
        rw [u8_to] at this
        exact absurd h2 this
    have hr : keyN t f = 256 := by unfold keyN; rw [hno]
    rw [hr]
    repeat' (first | (with_reducible exact trivial) | simp (maxSteps := 2000000) (disch := omega) only [go_sem, seval] | ((with_reducible refine isE ?_); refine eA ?_; (repeat' (first | exact le_tq0 rfl | exact le_tq0r rfl | refine le_tqr rfl ?_ | refine le_tq rfl ?_ | exact trivial | refine le_int ?_ | refine le_bool ?_ | refine le_str ?_ | refine le_sl ?_ | refine le_own ?_ | refine le_osl ?_ | refine le_nsl ?_ | exact rfl | refine ⟨?_, ?_⟩ | fail))) | ((with_reducible refine isI ?_ ?_); (kernel_rfl)) | fail)
theorem gRkey (t : Tbl) (f n : Nat) (h1 : 1 ≤ f) (hn : n ≤ 8192) : Good Tryd.prog Γ 53 [.agg (tq t), .int .i64 f, .int .i64 n] [] (.ret (.sl 1 (bys (keysOf t f n)))) [] := by
  have hk := gRKeyT (Γ := Γ) t f h1
  unfold keyN at hk
  unfold keysOf
  cases hko : keyOf t f with
  | none =>
    rw [hko] at hk
    simp only at hk ⊢
    refine sh_start mixed F53 rfl ⟨(by first | exact rfl | (simp only [go_sem, seval]; done) | (simp only [go_sem, seval]; exact rfl)), (by first | exact rfl | (simp only [go_sem, seval]; done) | (simp only [go_sem, seval]; exact rfl)), (by first | exact rfl | (simp only [go_sem, seval]; done) | (simp only [go_sem, seval]; exact rfl)), (by first | exact rfl | (simp only [go_sem, seval]; done) | (simp only [go_sem, seval]; exact rfl)), (by first | exact rfl | (simp only [go_sem, seval]; done) | (simp only [go_sem, seval]; exact rfl))⟩ ?_
    repeat' (first | (with_reducible exact trivial) | simp (maxSteps := 2000000) (disch := omega) only [go_sem, seval] | ((with_reducible refine isS ?_); first | refine cS (hk) ?_ | fail) | ((with_reducible refine isI ?_ ?_); (kernel_rfl)) | fail)
    refine sh_loopX mixed (fun _ : Unit => ([(2, .int .i64 n), (7, .int .i64 256), (8, nilP), (9, .int .i64 0)], [])) (fun _ => 0) (fun _ => True) () trivial wkAu ?_
    intro _ _
    by_cases h0 : n = 0
    · subst h0
      repeat' (first | (with_reducible exact trivial) | simp (maxSteps := 2000000) (disch := omega) only [go_sem, seval] | ((with_reducible refine isE ?_); refine eA ?_; (repeat' (first | exact le_tq0 rfl | exact le_tq0r rfl | refine le_tqr rfl ?_ | refine le_tq rfl ?_ | exact trivial | refine le_int ?_ | refine le_bool ?_ | refine le_str ?_ | refine le_sl ?_ | refine le_own ?_ | refine le_osl ?_ | refine le_nsl ?_ | exact rfl | refine ⟨?_, ?_⟩ | fail))) | ((with_reducible refine isI ?_ ?_); (kernel_rfl)) | fail)
    · repeat' (first | (with_reducible exact trivial) | simp (maxSteps := 2000000) (disch := omega) only [go_sem, seval] | ((with_reducible refine isE ?_); refine eA ?_; (repeat' (first | exact le_tq0 rfl | exact le_tq0r rfl | refine le_tqr rfl ?_ | refine le_tq rfl ?_ | exact trivial | refine le_int ?_ | refine le_bool ?_ | refine le_str ?_ | refine le_sl ?_ | refine le_own ?_ | refine le_osl ?_ | refine le_nsl ?_ | exact rfl | refine ⟨?_, ?_⟩ | fail))) | ((with_reducible refine isI ?_ ?_); (kernel_rfl)) | fail)
  | some k =>
    rw [hko] at hk
    simp only at hk ⊢
    have hkl : k.toNat < 256 := k.toNat_lt
    refine sh_start mixed F53 rfl ⟨(by first | exact rfl | (simp only [go_sem, seval]; done) | (simp only [go_sem, seval]; exact rfl)), (by first | exact rfl | (simp only [go_sem, seval]; done) | (simp only [go_sem, seval]; exact rfl)), (by first | exact rfl | (simp only [go_sem, seval]; done) | (simp only [go_sem, seval]; exact rfl)), (by first | exact rfl | (simp only [go_sem, seval]; done) | (simp only [go_sem, seval]; exact rfl)), (by first | exact rfl | (simp only [go_sem, seval]; done) | (simp only [go_sem, seval]; exact rfl))⟩ ?_
    repeat' (first | (with_reducible exact trivial) | simp (maxSteps := 2000000) (disch := omega) only [go_sem, seval] | ((with_reducible refine isS ?_); first | refine cS (hk) ?_ | fail) | ((with_reducible refine isI ?_ ?_); (kernel_rfl)) | fail)
    refine sh_loopX mixed (fun i : Nat => ([(2, .int .i64 n), (7, .int .i64 k.toNat), (8, .own 0 1 (bys (List.replicate i k))), (9, .int .i64 i)], [(0, .tok)])) (fun i => n - i) (fun i => i ≤ n) 0 (Nat.zero_le _) (weakG_nil 8 1 1 rfl rfl wkAu) ?_
    intro i hi
    by_cases hl : i < n
    · repeat' (first | (with_reducible exact trivial) | simp (maxSteps := 2000000) (disch := omega) only [wrapU8, u8_to, by2_nil, set_by2, bys_length, bys_cat, bys_length, List.length_replicate, go_sem, seval] | ((with_reducible refine isI ?_ ?_); (kernel_rfl)) | fail)
      exact ⟨i + 1, by omega, by omega, (wkAu (h1 := by (repeat' (first | exact le_tq0 rfl | exact le_tq0r rfl | refine le_tqr rfl ?_ | refine le_tq rfl ?_ | exact trivial | exact rfl | refine le_int ?_ | refine le_bool ?_ | refine le_str ?_ | refine le_sl ?_ | refine le_own ?_ | refine le_osl ?_ | refine le_nsl ?_ | refine ⟨_, rfl, ?_⟩ | refine ⟨?_, ?_⟩ | (first | omega | (rw [List.replicate_succ']); done) | exact Option.some_ne_none _ | fail)); first | done | fail) (h2 := by (repeat' (first | exact le_tq0 rfl | exact le_tq0r rfl | refine le_tqr rfl ?_ | refine le_tq rfl ?_ | exact trivial | exact rfl | refine le_int ?_ | refine le_bool ?_ | refine le_str ?_ | refine le_sl ?_ | refine le_own ?_ | refine le_osl ?_ | refine le_nsl ?_ | refine ⟨_, rfl, ?_⟩ | refine ⟨?_, ?_⟩ | (first | omega | (rw [List.replicate_succ']); done) | exact Option.some_ne_none _ | fail)); first | done | fail))⟩
    · have : i = n := by omega
      subst this
      repeat' (first | (with_reducible exact trivial) | simp (maxSteps := 2000000) (disch := omega) only [go_sem, seval] | ((with_reducible refine isE ?_); refine eA ?_; (repeat' (first | exact le_tq0 rfl | exact le_tq0r rfl | refine le_tqr rfl ?_ | refine le_tq rfl ?_ | exact trivial | refine le_int ?_ | refine le_bool ?_ | refine le_str ?_ | refine le_sl ?_ | refine le_own ?_ | refine le_osl ?_ | refine le_nsl ?_ | exact rfl | refine ⟨?_, ?_⟩ | fail))) | ((with_reducible refine isI ?_ ?_); (kernel_rfl)) | fail)
theorem gRTold (t : Tbl) (b : List UInt8) (hb : b.length ≤ 8192) : Good Tryd.prog Γ 52 [.agg (tq t), .sl 1 (bys b)] [] (.ret (.own 0 1 (bys (tellV t b)))) [(0, .tok)] := by
  have hf := gRkey (Γ := Γ) t 14 1 (by omega) (by omega)
  have hk := keys_len t 14 1
  refine sh_start mixed F52 rfl ⟨(by first | exact rfl | (simp only [go_sem, seval]; done) | (simp only [go_sem, seval]; exact rfl)), (by first | exact rfl | (simp only [go_sem, seval]; done) | (simp only [go_sem, seval]; exact rfl)), (by first | exact rfl | (simp only [go_sem, seval]; done) | (simp only [go_sem, seval]; exact rfl)), (by first | exact rfl | (simp only [go_sem, seval]; done) | (simp only [go_sem, seval]; exact rfl)), (by first | exact rfl | (simp only [go_sem, seval]; done) | (simp only [go_sem, seval]; exact rfl))⟩ ?_
  repeat' (first | (with_reducible exact trivial) | simp (maxSteps := 2000000) (disch := omega) only [go_sem, seval] | ((with_reducible refine isI ?_ ?_); (kernel_rfl)) | fail)
  refine sh_loopX mixed (fun i : Nat => ([(1, .sl 1 (bys b)), (2, .ptr 0 0), (5, .own 1 1 (bys (tellV t (b.take i)))), (6, .int .i64 i)], [(0, .box (tq t) false), (1, .tok)])) (fun i => b.length - i) (fun i => i ≤ b.length) 0 (Nat.zero_le _) (weakG_nil 5 1 1 rfl rfl (wkAu (h1 := by (repeat' (first | exact le_tq0 rfl | exact le_tq0r rfl | refine le_tqr rfl ?_ | refine le_tq rfl ?_ | exact trivial | exact rfl | refine le_int ?_ | refine le_bool ?_ | refine le_str ?_ | refine le_sl ?_ | refine le_own ?_ | refine le_osl ?_ | refine le_nsl ?_ | refine ⟨_, rfl, ?_⟩ | refine ⟨?_, ?_⟩ | (first | omega | rfl; done) | exact Option.some_ne_none _ | fail)); first | done | fail) (h2 := by (repeat' (first | exact le_tq0 rfl | exact le_tq0r rfl | refine le_tqr rfl ?_ | refine le_tq rfl ?_ | exact trivial | exact rfl | refine le_int ?_ | refine le_bool ?_ | refine le_str ?_ | refine le_sl ?_ | refine le_own ?_ | refine le_osl ?_ | refine le_nsl ?_ | refine ⟨_, rfl, ?_⟩ | refine ⟨?_, ?_⟩ | (first | omega | rfl; done) | exact Option.some_ne_none _ | fail)); first | done | fail))) ?_
  intro i hi
  by_cases hl : i < b.length
  · have hg := bys_at hl
    have htk := tell_snoc t (b.take i) (b.getD i 0)
    rw [← take_upE hl] at htk
    have hp := gRPlain (Γ := Γ) t (b.getD i 0)
    generalize b.getD i 0 = c at hg htk hp
    have hln := (tell_len t (b.take i)).2
    rw [List.length_take] at hln
    cases hpl : plainK t c
    · rw [hpl, if_neg (by simp)] at htk
      rw [hpl] at hp
      repeat' (first | (with_reducible exact trivial) | simp (maxSteps := 2000000) (disch := omega) only [bys_length, hg, by1_nil, bys_cat, List.length_append, Int.toNat_natCast, go_sem, seval] | ((with_reducible refine isS ?_); first | refine cS (hp) ?_ | refine cS (hf) ?_ | fail) | ((with_reducible refine isT ?_); first | refine cT (hp) ?_ | refine cT (hf) ?_ | fail) | ((with_reducible refine isI ?_ ?_); (kernel_rfl)) | fail)
      exact ⟨i + 1, by omega, by omega, (wkAu (h1 := by (repeat' (first | exact le_tq0 rfl | exact le_tq0r rfl | refine le_tqr rfl ?_ | refine le_tq rfl ?_ | exact trivial | exact rfl | refine le_int ?_ | refine le_bool ?_ | refine le_str ?_ | refine le_sl ?_ | refine le_own ?_ | refine le_osl ?_ | refine le_nsl ?_ | refine ⟨_, rfl, ?_⟩ | refine ⟨?_, ?_⟩ | (first | omega | (rw [htk]; done) | (rw [htk]; simp; done); done) | exact Option.some_ne_none _ | fail)); first | done | fail) (h2 := by (repeat' (first | exact le_tq0 rfl | exact le_tq0r rfl | refine le_tqr rfl ?_ | refine le_tq rfl ?_ | exact trivial | exact rfl | refine le_int ?_ | refine le_bool ?_ | refine le_str ?_ | refine le_sl ?_ | refine le_own ?_ | refine le_osl ?_ | refine le_nsl ?_ | refine ⟨_, rfl, ?_⟩ | refine ⟨?_, ?_⟩ | (first | omega | (rw [htk]; done) | (rw [htk]; simp; done); done) | exact Option.some_ne_none _ | fail)); first | done | fail))⟩
    · rw [hpl, if_pos rfl, List.nil_append] at htk
      rw [hpl] at hp
      repeat' (first | (with_reducible exact trivial) | simp (maxSteps := 2000000) (disch := omega) only [bys_length, hg, by1_nil, bys_cat, Int.toNat_natCast, go_sem, seval] | ((with_reducible refine isS ?_); first | refine cS (hp) ?_ | refine cS (hf) ?_ | fail) | ((with_reducible refine isT ?_); first | refine cT (hp) ?_ | refine cT (hf) ?_ | fail) | ((with_reducible refine isI ?_ ?_); (kernel_rfl)) | fail)
      exact ⟨i + 1, by omega, by omega, (wkAu (h1 := by (repeat' (first | exact le_tq0 rfl | exact le_tq0r rfl | refine le_tqr rfl ?_ | refine le_tq rfl ?_ | exact trivial | exact rfl | refine le_int ?_ | refine le_bool ?_ | refine le_str ?_ | refine le_sl ?_ | refine le_own ?_ | refine le_osl ?_ | refine le_nsl ?_ | refine ⟨_, rfl, ?_⟩ | refine ⟨?_, ?_⟩ | (first | omega | (rw [htk]; done) | (rw [htk]; simp; done); done) | exact Option.some_ne_none _ | fail)); first | done | fail) (h2 := by (repeat' (first | exact le_tq0 rfl | exact le_tq0r rfl | refine le_tqr rfl ?_ | refine le_tq rfl ?_ | exact trivial | exact rfl | refine le_int ?_ | refine le_bool ?_ | refine le_str ?_ | refine le_sl ?_ | refine le_own ?_ | refine le_osl ?_ | refine le_nsl ?_ | refine ⟨_, rfl, ?_⟩ | refine ⟨?_, ?_⟩ | (first | omega | (rw [htk]; done) | (rw [htk]; simp; done); done) | exact Option.some_ne_none _ | fail)); first | done | fail))⟩
  · have : i = b.length := by omega
    subst this
    rw [List.take_length]
    repeat' (first | (with_reducible exact trivial) | simp (maxSteps := 2000000) (disch := omega) only [bys_length, go_sem, seval] | ((with_reducible refine isE ?_); refine eA ?_; (repeat' (first | exact le_tq0 rfl | exact le_tq0r rfl | refine le_tqr rfl ?_ | refine le_tq rfl ?_ | exact trivial | refine le_int ?_ | refine le_bool ?_ | refine le_str ?_ | refine le_sl ?_ | refine le_own ?_ | refine le_osl ?_ | refine le_nsl ?_ | exact rfl | refine ⟨?_, ?_⟩ | fail))) | ((with_reducible refine isI ?_ ?_); (kernel_rfl)) | fail)
end Go.Proofs.YtmkblhinpnodaaaDoor
