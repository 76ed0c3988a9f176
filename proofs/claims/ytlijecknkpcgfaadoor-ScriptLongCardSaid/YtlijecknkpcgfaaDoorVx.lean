/- Layer 22: the law ScriptLong. Own work. -/
import Derived.Test.YtlijecknkpcgfaaDoorVp
import Derived.Test.YtlijecknkpcgfaaDoorScb
import Derived.Test.YtlijecknkpcgfaaDoorCodl
namespace Go.Proofs.YtlijecknkpcgfaaDoor
open Go Go.Shade
variable {Γ : Globs}
def s0 (a : UInt8) : Stp := { zS 0 with k := a }
theorem s0_may (a : UInt8) : mayV (s0 a) := ⟨rfl, .inl (.inl rfl)⟩
theorem s0_in (a : UInt8) : inS (s0 a) := inS_z rfl rfl rfl rfl rfl
theorem s0_lay (a : UInt8) : layS (s0 a) = [0, a] := rfl
theorem rep_snoc {α : Type} (i : Nat) (x : α) : List.replicate (i + 1) x = List.replicate i x ++ [x] := List.replicate_succ'
theorem putS_rep (a : UInt8) : ∀ n, (putS (List.replicate n (s0 a))).length = 2 * n
  | 0 => rfl
  | n + 1 => by
    rw [List.replicate_succ, putS_cons, List.length_append, putS_rep a n, s0_lay]
    simp
    omega
theorem rep_all {a : UInt8} {n : Nat} : ∀ s ∈ List.replicate n (s0 a), mayV s ∧ inS s := fun s hs => by
  rw [(List.mem_replicate.1 hs).2]
  exact ⟨s0_may a, s0_in a⟩
theorem gtS_long (a : UInt8) {n : Nat} (h : 4096 < n) : gtS 4096 (putS (List.replicate n (s0 a))) = (List.replicate 4096 (s0 a), putS (List.replicate (n - 4096) (s0 a)), true) := by
  have e : putS (List.replicate n (s0 a)) = putS (List.replicate 4096 (s0 a)) ++ putS (List.replicate (n - 4096) (s0 a)) := by
    rw [show List.replicate n (s0 a) = List.replicate 4096 (s0 a) ++ List.replicate (n - 4096) (s0 a) by rw [List.replicate_append_replicate, show 4096 + (n - 4096) = n by omega]]
    simp only [putS, List.flatMap_append]
  have := gtS_app (List.replicate 4096 (s0 a)) rep_all 0 (putS (List.replicate (n - 4096) (s0 a)))
  rw [List.length_replicate] at this
  rw [e, this, gtS, List.append_nil]
set_option maxHeartbeats 8000000 in
theorem gLLong (a k : UInt8) : Go.Shade.Good Tryd.prog Γ 5 [.int .u8 a.toNat, .int .u8 k.toNat] [] (.ret (.bool true)) [] := by
  have hk := k.toNat_lt
  have ha := gAwakeV (Γ := Γ)
  obtain ⟨n, hn, n1, n2⟩ : ∃ n : Nat, (4094 : Int) + ((k.toNat : Nat) : Int) % 5 = (n : Nat) ∧ 4094 ≤ n ∧ n ≤ 4098 := ⟨4094 + k.toNat % 5, by omega, by omega, by omega⟩
  have hw : IntKind.u8.wrap (((k.toNat : Nat) : Int) % 5) = ((k.toNat : Nat) : Int) % 5 := by
    have : ∀ m : Nat, m < 5 → IntKind.u8.wrap (m : Int) = m := by decide
    have h := this (k.toNat % 5) (by omega)
    rwa [show (((k.toNat % 5 : Nat) : Int)) = ((k.toNat : Nat) : Int) % 5 by omega] at h
  have hlen := putS_rep a n
  have hP := gPutN (Γ := Γ) (List.replicate n (s0 a)) (by rw [List.length_replicate]; omega) (fun s hs => (rep_all s hs).2) (fun s hs => by rw [(List.mem_replicate.1 hs).2]; rfl)
  have hG := gGetS (Γ := Γ) (putS (List.replicate n (s0 a))) (by omega)
  refine sh_start mixed F5 rfl ⟨(by first | exact rfl | (simp only [go_sem, seval]; done) | (simp only [go_sem, seval]; exact rfl)), (by first | exact rfl | (simp only [go_sem, seval]; done) | (simp only [go_sem, seval]; exact rfl)), (by first | exact rfl | (simp only [go_sem, seval]; done) | (simp only [go_sem, seval]; exact rfl)), (by first | exact rfl | (simp only [go_sem, seval]; done) | (simp only [go_sem, seval]; exact rfl)), (by first | exact rfl | (simp only [go_sem, seval]; done) | (simp only [go_sem, seval]; exact rfl))⟩ ?_
  repeat' (first | (with_reducible exact trivial) | simp (maxSteps := 2000000) (disch := omega) only [bin_rem, tmod_pos, hn, go_sem, seval] | ((with_reducible refine isI ?_ ?_); (kernel_rfl)) | fail)
  refine sh_loopX mixed (fun i : Nat => ([(0, .int .u8 a.toNat), (5, .int .i64 n), (6, .own 0 1 (bys (putS (List.replicate i (s0 a))))), (7, .own 1 50 ((List.replicate i (s0 a)).map sN)), (8, .int .i64 i)], [(0, .tok), (1, .tok)])) (fun i => n - i) (fun i => i ≤ n) 0 (by omega)
    (weakG_nil 6 9 1 rfl rfl (weakG_nil 7 10 50 rfl rfl wkAu)) ?_
  intro i hi
  by_cases h : i < n
  · have hl := putS_rep a i
    repeat' (first | (with_reducible exact trivial) | simp (maxSteps := 2000000) (disch := omega) only [bys_length, List.length_map, List.length_replicate, go_sem, seval] | ((with_reducible refine isI ?_ ?_); (kernel_rfl)) | fail)
    exact ⟨i + 1, by omega, by omega, (wkAu (h1 := by (repeat' (first | exact le_mq0 rfl | exact le_mq0r rfl | exact le_jk50 (by simp only [List.length_cons, List.length_append, mq_len, List.length_nil]) | refine le_mqr ?_ | refine le_mq ?_ | exact trivial | exact rfl | refine le_int ?_ | refine le_bool ?_ | refine le_str ?_ | refine le_sl ?_ | refine le_own ?_ | refine le_osl ?_ | refine le_nsl ?_ | refine ⟨_, rfl, ?_⟩ | refine ⟨?_, ?_⟩ | (first | (rw [rep_snoc, putS_snoc, s0_lay]; simp [bys, by1]) | (rw [rep_snoc, List.map_append]; rfl); done) | exact Option.some_ne_none _ | fail)); first | done | fail) (h2 := by (repeat' (first | exact le_mq0 rfl | exact le_mq0r rfl | exact le_jk50 (by simp only [List.length_cons, List.length_append, mq_len, List.length_nil]) | refine le_mqr ?_ | refine le_mq ?_ | exact trivial | exact rfl | refine le_int ?_ | refine le_bool ?_ | refine le_str ?_ | refine le_sl ?_ | refine le_own ?_ | refine le_osl ?_ | refine le_nsl ?_ | refine ⟨_, rfl, ?_⟩ | refine ⟨?_, ?_⟩ | (first | (rw [rep_snoc, putS_snoc, s0_lay]; simp [bys, by1]) | (rw [rep_snoc, List.map_append]; rfl); done) | exact Option.some_ne_none _ | fail)); first | done | fail))⟩
  · have e : i = n := by omega
    subst e
    by_cases h4 : 4096 < i
    · rw [resG_is, gtS_long a h4, putS_rep] at hG
      rw [show resP (List.replicate i (s0 a)) = .tup [.sl 1 [], .int .i64 3] by
        rw [resP, outP, stopP, if_pos (fun s hs => (rep_all s hs).1), if_neg (by rw [List.length_replicate]; omega), if_pos (fun s hs => (rep_all s hs).1), if_neg (by rw [List.length_replicate]; omega)]; rfl] at hP
      have h5 : ((List.replicate 4096 (s0 a)).map sR).length = 4096 := by rw [List.length_map, List.length_replicate]
      generalize (List.replicate 4096 (s0 a)).map sR = R at hG h5
      generalize (List.replicate i (s0 a)).map sN = X at hP
      repeat' (first | (with_reducible exact trivial) | simp (maxSteps := 2000000) (disch := omega) only [h5, go_sem, seval] | ((with_reducible refine isS ?_); first | refine cS (hG) ?_ | refine cS (hP) ?_ | refine cS (ha) ?_ | fail) | ((with_reducible refine isE ?_); refine eA ?_; (repeat' (first | exact le_mq0 rfl | exact le_mq0r rfl | exact le_jk50 (by simp only [List.length_cons, List.length_append, mq_len, List.length_nil]) | refine le_mqr ?_ | refine le_mq ?_ | exact trivial | refine le_int ?_ | refine le_bool ?_ | refine le_str ?_ | refine le_sl ?_ | refine le_own ?_ | refine le_osl ?_ | refine le_nsl ?_ | exact rfl | refine ⟨?_, ?_⟩ | fail))) | ((with_reducible refine isI ?_ ?_); (kernel_rfl)) | fail)
    · rw [resG_put rep_all (by rw [List.length_replicate]; omega), hlen] at hG
      rw [resP_ok (fun s hs => (rep_all s hs).1) (by rw [List.length_replicate]; omega)] at hP
      have ho := gOctets (Γ := Γ) (putS (List.replicate i (s0 a))) (putS (List.replicate i (s0 a)))
      rw [decide_eq_true rfl] at ho
      have h5 : ((List.replicate i (s0 a)).map sR).length = i := by rw [List.length_map, List.length_replicate]
      generalize (List.replicate i (s0 a)).map sR = R at hG h5
      generalize (List.replicate i (s0 a)).map sN = X at hP
      generalize putS (List.replicate i (s0 a)) = Y at hG hP ho hlen
      repeat' (first | (with_reducible exact trivial) | simp (maxSteps := 2000000) (disch := omega) only [bys_length, h5, hlen, go_sem, seval] | ((with_reducible refine isS ?_); first | refine cS (hG) ?_ | refine cS (hP) ?_ | refine cS (ho) ?_ | refine cS (ha) ?_ | fail) | ((with_reducible refine isE ?_); refine eA ?_; (repeat' (first | exact le_mq0 rfl | exact le_mq0r rfl | exact le_jk50 (by simp only [List.length_cons, List.length_append, mq_len, List.length_nil]) | refine le_mqr ?_ | refine le_mq ?_ | exact trivial | refine le_int ?_ | refine le_bool ?_ | refine le_str ?_ | refine le_sl ?_ | refine le_own ?_ | refine le_osl ?_ | refine le_nsl ?_ | exact rfl | refine ⟨?_, ?_⟩ | fail))) | ((with_reducible refine isI ?_ ?_); (kernel_rfl)) | fail)
end Go.Proofs.YtlijecknkpcgfaaDoor
