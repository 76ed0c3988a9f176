/- Layer 13: the chapter's examples; what is looked at. Own work. -/
import Derived.Test.YtmkblhinpnodaaaDoorEg
import Derived.Test.YtmkblhinpnodaaaDoorZ3
namespace Go.Proofs.YtmkblhinpnodaaaDoor
open Go Go.Shade
variable {Γ : Globs}
abbrev dkB (t : Tbl) (room : Int) (b : List UInt8) (n : Int) (o l : Bool) : AV := .agg (tq t ++ [.int .i64 room, .sl 1 (bys b), .int .i64 n, .bool o, .bool l])
/-- As much of a line as is looked at. -/
def fewL (b : List UInt8) : List UInt8 := if (200 < b.length ∧ b.length < 4000) ∨ 4100 < b.length then b.take 200 else b
theorem gEOne (b : List UInt8) (n : Int) (o l : Bool) : Good Tryd.prog Γ 36 [edI b n o l] [] (.ret (edI (fewL b) n o l)) [] := by
  have h := gFewL (Γ := Γ) b n
  rw [show (if (200 < b.length ∧ b.length < 4000) ∨ 4100 < b.length then b.take 200 else b) = fewL b from rfl] at h
  generalize fewL b = a at h ⊢
  refine sh_start mixed F36 rfl ⟨(by first | exact rfl | (simp only [go_sem, seval]; done) | (simp only [go_sem, seval]; exact rfl)), (by first | exact rfl | (simp only [go_sem, seval]; done) | (simp only [go_sem, seval]; exact rfl)), (by first | exact rfl | (simp only [go_sem, seval]; done) | (simp only [go_sem, seval]; exact rfl)), (by first | exact rfl | (simp only [go_sem, seval]; done) | (simp only [go_sem, seval]; exact rfl)), (by first | exact rfl | (simp only [go_sem, seval]; done) | (simp only [go_sem, seval]; exact rfl))⟩ ?_
  repeat' (first | (with_reducible exact trivial) | simp (maxSteps := 2000000) (disch := omega) only [go_sem, seval] | ((with_reducible refine isS ?_); first | refine cS (h) ?_ | fail) | ((with_reducible refine isE ?_); refine eA ?_; (repeat' (first | exact le_tq0 rfl | exact le_tq0r rfl | refine le_tqr rfl ?_ | refine le_tq rfl ?_ | exact trivial | refine le_int ?_ | refine le_bool ?_ | refine le_str ?_ | refine le_sl ?_ | refine le_own ?_ | refine le_osl ?_ | refine le_nsl ?_ | exact rfl | refine ⟨?_, ?_⟩ | fail))) | ((with_reducible refine isI ?_ ?_); (kernel_rfl)) | fail)
theorem gEKeys (b : List UInt8) : Good Tryd.prog Γ 9 [.sl 1 (bys b)] [] (.ret (.sl 1 (bys (b.take 200)))) [] := by
  refine sh_start mixed F9 rfl ⟨(by first | exact rfl | (simp only [go_sem, seval]; done) | (simp only [go_sem, seval]; exact rfl)), (by first | exact rfl | (simp only [go_sem, seval]; done) | (simp only [go_sem, seval]; exact rfl)), (by first | exact rfl | (simp only [go_sem, seval]; done) | (simp only [go_sem, seval]; exact rfl)), (by first | exact rfl | (simp only [go_sem, seval]; done) | (simp only [go_sem, seval]; exact rfl)), (by first | exact rfl | (simp only [go_sem, seval]; done) | (simp only [go_sem, seval]; exact rfl))⟩ ?_
  repeat' (first | (with_reducible exact trivial) | simp (maxSteps := 2000000) (disch := omega) only [go_sem, seval] | ((with_reducible refine isS ?_); first | refine cS (gFew b) ?_ | fail) | ((with_reducible refine isE ?_); refine eA ?_; (repeat' (first | exact le_tq0 rfl | exact le_tq0r rfl | refine le_tqr rfl ?_ | refine le_tq rfl ?_ | exact trivial | refine le_int ?_ | refine le_bool ?_ | refine le_str ?_ | refine le_sl ?_ | refine le_own ?_ | refine le_osl ?_ | refine le_nsl ?_ | exact rfl | refine ⟨?_, ?_⟩ | fail))) | ((with_reducible refine isI ?_ ?_); (kernel_rfl)) | fail)
theorem gEPlayNo (t : Tbl) (room : Int) (b : List UInt8) (n : Int) (o l : Bool) (ks : List UInt8) (hs : ¬ mayL b n) (hk : ks.length ≤ 1000000) :
    Good Tryd.prog Γ 23 [.agg (tq t), .int .i64 room, edI b n o l, .sl 1 (bys ks)] [] (.ret (.tup [edI b n o l, outA [], .int .i64 0])) [] := by
  refine sh_start mixed F23 rfl ⟨(by first | exact rfl | (simp only [go_sem, seval]; done) | (simp only [go_sem, seval]; exact rfl)), (by first | exact rfl | (simp only [go_sem, seval]; done) | (simp only [go_sem, seval]; exact rfl)), (by first | exact rfl | (simp only [go_sem, seval]; done) | (simp only [go_sem, seval]; exact rfl)), (by first | exact rfl | (simp only [go_sem, seval]; done) | (simp only [go_sem, seval]; exact rfl)), (by first | exact rfl | (simp only [go_sem, seval]; done) | (simp only [go_sem, seval]; exact rfl))⟩ ?_
  repeat' (first | (with_reducible exact trivial) | simp (maxSteps := 2000000) (disch := omega) only [bys_length, go_sem, seval] | ((with_reducible refine isI ?_ ?_); (kernel_rfl)) | fail)
  refine sh_loopX mixed (fun x : Nat => ([(1, .int .i64 room), (4, .ptr 0 0), (6, .ptr 1 0), (8, .ptr 2 0), (11, .own 3 3 (([] : List Ev).map evP)), (12, .int .i64 0), (18, .sl 1 (bys ks)), (19, .int .i64 ks.length), (20, .int .i64 x)],
    [(0, .box (tq t) false), (1, .box [.sl 1 (bys b), .int .i64 n, .bool o, .bool l] false), (2, .box [.p (.s (.slice none 0 0)), .p (.s (.int .i64 0)), .p (.s (.bool false)), .p (.s (.bool false))] false), (3, .tok)])) (fun x => ks.length - x)
    (fun x => x ≤ ks.length) 0 (Nat.zero_le _) (weakG_nil 11 3 3 rfl rfl wkAu) ?_
  intro i hi
  by_cases hl : i < ks.length
  · have hg := bys_at hl
    have hkey := gEKeyNo (Γ := Γ) t room b n o l (ks.getD i 0) hs
    repeat' (first | (with_reducible exact trivial) | simp (maxSteps := 2000000) (disch := omega) only [bys_length, hg, Int.toNat_natCast, List.map_nil, go_sem, seval] | ((with_reducible refine isS ?_); first | refine cS (hkey) ?_ | fail) | ((with_reducible refine isT ?_); first | refine cT (hkey) ?_ | fail) | ((with_reducible refine isI ?_ ?_); (kernel_rfl)) | fail)
    exact ⟨i + 1, by omega, by omega, (wkAu (h1 := by (repeat' (first | exact le_tq0 rfl | exact le_tq0r rfl | refine le_tqr rfl ?_ | refine le_tq rfl ?_ | exact trivial | exact rfl | refine le_int ?_ | refine le_bool ?_ | refine le_str ?_ | refine le_sl ?_ | refine le_own ?_ | refine le_osl ?_ | refine le_nsl ?_ | refine ⟨_, rfl, ?_⟩ | refine ⟨?_, ?_⟩ | (first | omega | rfl | simp; done) | fail)); first | done | fail) (h2 := by (repeat' (first | exact le_tq0 rfl | exact le_tq0r rfl | refine le_tqr rfl ?_ | refine le_tq rfl ?_ | exact trivial | exact rfl | refine le_int ?_ | refine le_bool ?_ | refine le_str ?_ | refine le_sl ?_ | refine le_own ?_ | refine le_osl ?_ | refine le_nsl ?_ | refine ⟨_, rfl, ?_⟩ | refine ⟨?_, ?_⟩ | (first | omega | rfl | simp; done) | fail)); first | done | fail))⟩
  · repeat' (first | (with_reducible exact trivial) | simp (maxSteps := 2000000) (disch := omega) only [go_sem, seval] | ((with_reducible refine isE ?_); refine eA ?_; (repeat' (first | exact le_tq0 rfl | exact le_tq0r rfl | refine le_tqr rfl ?_ | refine le_tq rfl ?_ | exact trivial | refine le_int ?_ | refine le_bool ?_ | refine le_str ?_ | refine le_sl ?_ | refine le_own ?_ | refine le_osl ?_ | refine le_nsl ?_ | exact rfl | refine ⟨?_, ?_⟩ | fail))) | ((with_reducible refine isI ?_ ?_); (kernel_rfl)) | fail)
theorem ex1 : playV stdT 99 .zero [97, 98, 127, 13] = (.zero, [⟨1, 0, [97]⟩], 0) := by decide +kernel
theorem ex2 : playV stdT 99 .zero [22, 3, 3] = (.zero, [⟨3, 3, []⟩], 0) := by decide +kernel
theorem ex3 : playV stdT 1 .zero [97, 98] = (⟨[97], 1, false, false⟩, [], 1) := by decide +kernel
end Go.Proofs.YtmkblhinpnodaaaDoor
