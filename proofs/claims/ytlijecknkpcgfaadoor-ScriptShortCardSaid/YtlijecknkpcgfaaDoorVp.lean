/- Layer 22: the plain laws of scripts; what the program's examples come to. Own work. -/
import Derived.Test.YtlijecknkpcgfaaDoorVo
import Derived.Test.YtlijecknkpcgfaaDoorScb
namespace Go.Proofs.YtlijecknkpcgfaaDoor
open Go Go.Shade
variable {Γ : Globs}
theorem layS_two {s : Stp} : 2 ≤ (layS s).length := by
  have h : (layR s) ≠ [] := by
    unfold layR lay4
    repeat' split
    all_goals simp
  have := List.length_pos_iff.2 h
  rw [layS, List.length_cons]
  omega
theorem putS_cons (s : Stp) (l : List Stp) : putS (s :: l) = layS s ++ putS l := by simp [putS]
/-- A step that may be, read. -/
theorem gtS_step {s : Stp} (h : mayV s) (hi : inS s) (n : Nat) (r : List UInt8) : gtS (n + 1) (layS s ++ r) = (s :: (gtS n r).1, (gtS n r).2) := by
  have h1 := rd_lay h hi r
  have h2 := layS_two (s := s)
  match hb : layS s ++ r, h1 with
  | [], h1 => rw [rdS] at h1; cases h1
  | c :: q, h1 => rw [gtS, h1]
theorem gtS_app : ∀ (l : List Stp), (∀ s ∈ l, mayV s ∧ inS s) → ∀ (n : Nat) (b : List UInt8), gtS (l.length + n) (putS l ++ b) = (l ++ (gtS n b).1, (gtS n b).2)
  | [], _, n, b => by simp [putS]
  | s :: l, h, n, b => by
    obtain ⟨h1, h2⟩ := h s (by simp)
    have ih := gtS_app l (fun t ht => h t (by simp [ht])) n b
    rw [putS_cons, List.append_assoc, List.length_cons, show l.length + 1 + n = (l.length + n) + 1 by omega, gtS_step h1 h2, ih]
    rfl
theorem gtS_put (l : List Stp) (h : ∀ s ∈ l, mayV s ∧ inS s) {n : Nat} (hn : l.length ≤ n) : gtS n (putS l) = (l, [], true) := by
  have := gtS_app l h (n - l.length) []
  rw [gtS_nil, List.append_nil, List.append_nil, show l.length + (n - l.length) = n by omega] at this
  exact this
/-- What is got is what was there, step by step. -/
theorem gtS_is : ∀ (n : Nat) (b : List UInt8), b = putS (gtS n b).1 ++ (gtS n b).2.1 ∧ (∀ s ∈ (gtS n b).1, mayV s ∧ inS s) ∧ (gtS n b).1.length ≤ n
  | 0, b => ⟨by simp [gtS, putS], by simp [gtS], by simp [gtS]⟩
  | n + 1, [] => ⟨by simp [gtS, putS], by simp [gtS], by simp [gtS]⟩
  | n + 1, c :: r => by
    rw [gtS]
    cases hq : rdS (c :: r) with
    | none => exact ⟨by simp [putS], by simp, by simp⟩
    | some q =>
      obtain ⟨s, r'⟩ := q
      obtain ⟨h1, h2, h3⟩ := lay_rd hq
      obtain ⟨i1, i2, i3⟩ := gtS_is n r'
      refine ⟨?_, ?_, ?_⟩
      · simp only
        rw [putS_cons, List.append_assoc, ← i1, h3]
      · intro t ht
        rcases List.mem_cons.1 ht with rfl | ht
        · exact ⟨h1, h2⟩
        · exact i2 t ht
      · simp only [List.length_cons]
        omega
/-- A step's octets but for the last one are no step. -/
theorem rd_short {s : Stp} (h : mayV s) (hi : inS s) : rdS (layS s).dropLast = none := by
  cases hq : rdS (layS s).dropLast with
  | none => rfl
  | some q =>
    exfalso
    obtain ⟨t, r⟩ := q
    obtain ⟨h1, h2, h3⟩ := lay_rd hq
    have hne : layS s ≠ [] := by rw [layS]; simp
    have e := List.dropLast_concat_getLast hne
    rw [h3, List.append_assoc] at e
    have a := rd_lay h1 h2 (r ++ [(layS s).getLast hne])
    rw [e] at a
    have b := rd_lay h hi []
    rw [List.append_nil] at b
    rw [b] at a
    simp only [Option.some.injEq, Prod.mk.injEq] at a
    have := congrArg List.length a.2
    simp at this
theorem inS_cut {l : List Stp} (h : ∀ s ∈ l, inS s) : ∀ s ∈ cutS l, inS s ∧ s.b.length ≤ 80000 := by
  intro s hs
  obtain ⟨t, ht, rfl⟩ := List.mem_map.1 hs
  exact ⟨h t (List.mem_of_mem_take ht), by simp only [cut1, List.length_take]; omega⟩
theorem cutS_len (l : List Stp) : (cutS l).length ≤ 60 := by rw [cutS, List.length_map, List.length_take]; omega
theorem resP_ok {l : List Stp} (h : ∀ s ∈ l, mayV s) (h4 : l.length ≤ 4096) : resP l = .tup [.sl 1 (bys (putS l)), .int .i64 0] := by rw [resP, outP, stopP, if_pos h, if_pos h4, if_pos h, if_pos h4]
theorem resP_no {l : List Stp} (h : ¬ ∀ s ∈ l, mayV s) : resP l = .tup [.sl 1 [], .int .i64 1] := by rw [resP, outP, stopP, if_neg h, if_neg h]; rfl
/-- What is got, and how far. -/
theorem resG_is (b : List UInt8) : resG b = .tup [.sl 50 ((gtS 4096 b).1.map sR), .int .i64 ((putS (gtS 4096 b).1).length : Nat), .int .i64 (if (gtS 4096 b).2.2 = true then 0 else 2)] := by
  have := congrArg List.length (gtS_is 4096 b).1
  rw [List.length_append] at this
  rw [resG, show (b.length : Int) - ((gtS 4096 b).2.1.length : Int) = (((putS (gtS 4096 b).1).length : Nat) : Int) by omega]
theorem resG_put {l : List Stp} (h : ∀ s ∈ l, mayV s ∧ inS s) (h4 : l.length ≤ 4096) : resG (putS l) = .tup [.sl 50 (l.map sR), .int .i64 ((putS l).length : Nat), .int .i64 0] := by
  rw [resG_is, gtS_put l h h4]
  rfl
/-! ### The chapter's examples -/
def exA : Stp := { zS 0 with k := 97 }
def exB : Stp := { zS 1 with who := 2, n := 9 }
def exC : Stp := { zS 2 with who := 1, n := 3, on := true }
theorem ex_out : outP [exA, exB] = [0, 97, 1, 2, 9] := by decide +kernel
theorem ex_stop : stopP [exA, exB] = 0 := by decide +kernel
theorem ex_g1 : gtS 4096 [0, 97, 8] = ([exA], [8], false) := by decide +kernel
theorem ex_g2 : gtS 4096 [2, 5, 3] = ([exC], [], true) := by decide +kernel
theorem inS_z {s : Stp} (h0 : s.w0 = 0) (h1 : s.w1 = 0) (h2 : s.w2 = 0) (h3 : s.w3 = 0) (h4 : s.draw = 0) : inS s := by
  unfold inS
  rw [h0, h1, h2, h3, h4]
  omega
set_option maxHeartbeats 4000000 in
theorem gAwakeV : Go.Shade.Good Tryd.prog Γ 12 [] [] (.ret (.bool true)) [] := by
  have h1 := gPutN (Γ := Γ) [exA, exB] (by decide) (fun s hs => by
    rcases List.mem_cons.1 hs with rfl | hs
    · exact inS_z rfl rfl rfl rfl rfl
    · rw [List.mem_singleton.1 hs]; exact inS_z rfl rfl rfl rfl rfl) (fun s hs => by
    rcases List.mem_cons.1 hs with rfl | hs
    · rfl
    · rw [List.mem_singleton.1 hs]; rfl)
  rw [resP, ex_out, ex_stop] at h1
  have h2 := gGetS (Γ := Γ) [0, 97, 8] (by decide)
  rw [show resG [0, 97, 8] = .tup [.sl 50 [sR exA], .int .i64 2, .int .i64 2] by rw [resG, ex_g1]; rfl] at h2
  have h3 := gGetS (Γ := Γ) [2, 5, 3] (by decide)
  rw [show resG [2, 5, 3] = .tup [.sl 50 [sR exC], .int .i64 3, .int .i64 0] by rw [resG, ex_g2]; rfl] at h3
  have h4 := gSameN (Γ := Γ) [exC] [exC] (by decide) (fun s hs => by rw [List.mem_singleton.1 hs]; rfl)
  rw [decide_eq_true rfl] at h4
  have hd : (List.drop 3 (sR exA))[0]? = some (PV.s (.int .u8 97)) := rfl
  simp only [List.map_cons, List.map_nil] at h1 h4
  refine sh_start mixed F12 rfl ⟨(by first | exact rfl | (simp only [go_sem, seval]; done) | (simp only [go_sem, seval]; exact rfl)), (by first | exact rfl | (simp only [go_sem, seval]; done) | (simp only [go_sem, seval]; exact rfl)), (by first | exact rfl | (simp only [go_sem, seval]; done) | (simp only [go_sem, seval]; exact rfl)), (by first | exact rfl | (simp only [go_sem, seval]; done) | (simp only [go_sem, seval]; exact rfl)), (by first | exact rfl | (simp only [go_sem, seval]; done) | (simp only [go_sem, seval]; exact rfl))⟩ ?_
  repeat' (first | (with_reducible exact trivial) | simp (maxSteps := 2000000) (disch := omega) only [hd, go_sem, seval] | ((with_reducible refine isS ?_); first | refine cS (h1) ?_ | refine cS (h2) ?_ | refine cS (h3) ?_ | refine cS (h4) ?_ | fail) | ((with_reducible refine isE ?_); refine eA ?_; (repeat' (first | exact le_mq0 rfl | exact le_mq0r rfl | exact le_jk50 (by simp only [List.length_cons, List.length_append, mq_len, List.length_nil]) | refine le_mqr ?_ | refine le_mq ?_ | exact trivial | refine le_int ?_ | refine le_bool ?_ | refine le_str ?_ | refine le_sl ?_ | refine le_own ?_ | refine le_osl ?_ | refine le_nsl ?_ | exact rfl | refine ⟨?_, ?_⟩ | fail))) | ((with_reducible refine isI ?_ ?_); (kernel_rfl)) | fail)
end Go.Proofs.YtlijecknkpcgfaaDoor
