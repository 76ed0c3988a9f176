/- Layer 14: keys of functions, and what is told. Own work. -/
import Derived.Test.YtmkblhinpnodaaaDoorFb
import Derived.Test.YtmkblhinpnodaaaDoorZ3
namespace Go.Proofs.YtmkblhinpnodaaaDoor
open Go Go.Shade
variable {Γ : Globs}
/-- A function, and how often. -/
def mvP (m : Nat × Nat) : List PV := [.s (.int .i64 m.1), .s (.int .i64 m.2)]
def firstV (t : Tbl) : List (Nat × Nat) → List UInt8
  | [] => []
  | m :: l => match keyOf t m.1 with
    | some k => List.replicate m.2 k
    | none => firstV t l
theorem gFirst (t : Tbl) (l : List (Nat × Nat)) (hl : l.length ≤ 1000) (hm : ∀ m ∈ l, m.1 ≤ 31 ∧ m.2 ≤ 8192) : Good Tryd.prog Γ 63 [.agg (tq t), .sl 2 (l.map mvP)] [] (.ret (.sl 1 (bys (firstV t l)))) [] := by
  refine sh_start mixed F63 rfl ⟨(by first | exact rfl | (simp only [go_sem, seval]; done) | (simp only [go_sem, seval]; exact rfl)), (by first | exact rfl | (simp only [go_sem, seval]; done) | (simp only [go_sem, seval]; exact rfl)), (by first | exact rfl | (simp only [go_sem, seval]; done) | (simp only [go_sem, seval]; exact rfl)), (by first | exact rfl | (simp only [go_sem, seval]; done) | (simp only [go_sem, seval]; exact rfl)), (by first | exact rfl | (simp only [go_sem, seval]; done) | (simp only [go_sem, seval]; exact rfl))⟩ ?_
  repeat' (first | (with_reducible exact trivial) | simp (maxSteps := 2000000) (disch := omega) only [List.length_map, go_sem, seval] | ((with_reducible refine isI ?_ ?_); (kernel_rfl)) | fail)
  refine sh_loopX mixed (fun i : Nat => ([(2, .ptr 0 0), (9, .sl 2 (l.map mvP)), (10, .int .i64 l.length), (11, .int .i64 i)], [(0, .box (tq t) false)])) (fun i => l.length - i) (fun i => i ≤ l.length ∧ firstV t l = firstV t (l.drop i)) 0 ⟨Nat.zero_le _, rfl⟩ wkAu ?_
  rintro i ⟨hi, he⟩
  by_cases hlt : i < l.length
  · have hg : (l.map mvP).getD i [] = mvP l[i] := by rw [List.getD_eq_getElem?_getD, List.getElem?_map, List.getElem?_eq_getElem hlt]; rfl
    rw [List.drop_eq_getElem_cons hlt, firstV] at he
    obtain ⟨h1, h2⟩ := hm l[i] (List.getElem_mem hlt)
    generalize l[i] = m at he hg h1 h2
    obtain ⟨f, n⟩ := m
    simp only at he h1 h2
    have hk := gKeyT (Γ := Γ) t f h1
    unfold keyR at hk
    cases hkt : keyOf t f with
    | some k =>
      rw [hkt] at he hk
      simp only at he hk
      rw [he]
      have hr := gRepeat (Γ := Γ) k n h2
      repeat' (first | (with_reducible exact trivial) | simp (maxSteps := 2000000) (disch := omega) only [hg, mvP, List.length_map, Int.toNat_natCast, go_sem, seval] | ((with_reducible refine isS ?_); first | refine cS (hk) ?_ | refine cS (hr) ?_ | fail) | ((with_reducible refine isE ?_); refine eA ?_; (repeat' (first | exact le_tq0 rfl | exact le_tq0r rfl | refine le_tqr rfl ?_ | refine le_tq rfl ?_ | exact trivial | refine le_int ?_ | refine le_bool ?_ | refine le_str ?_ | refine le_sl ?_ | refine le_own ?_ | refine le_osl ?_ | refine le_nsl ?_ | exact rfl | refine ⟨?_, ?_⟩ | fail))) | ((with_reducible refine isI ?_ ?_); (kernel_rfl)) | fail)
    | none =>
      rw [hkt] at he hk
      simp only at he hk
      repeat' (first | (with_reducible exact trivial) | simp (maxSteps := 2000000) (disch := omega) only [hg, mvP, List.length_map, Int.toNat_natCast, go_sem, seval] | ((with_reducible refine isS ?_); first | refine cS (hk) ?_ | fail) | ((with_reducible refine isI ?_ ?_); (kernel_rfl)) | fail)
      exact ⟨i + 1, by omega, ⟨by omega, he⟩, wkAu⟩
  · rw [List.drop_eq_nil_of_le (by omega)] at he
    rw [he]
    repeat' (first | (with_reducible exact trivial) | simp (maxSteps := 2000000) (disch := omega) only [go_sem, seval] | ((with_reducible refine isE ?_); refine eA ?_; (repeat' (first | exact le_tq0 rfl | exact le_tq0r rfl | refine le_tqr rfl ?_ | refine le_tq rfl ?_ | exact trivial | refine le_int ?_ | refine le_bool ?_ | refine le_str ?_ | refine le_sl ?_ | refine le_own ?_ | refine le_osl ?_ | refine le_nsl ?_ | exact rfl | refine ⟨?_, ?_⟩ | fail))) | ((with_reducible refine isI ?_ ?_); (kernel_rfl)) | fail)
theorem first_len (t : Tbl) : ∀ l : List (Nat × Nat), (∀ m ∈ l, m.2 ≤ 8192) → (firstV t l).length ≤ 8192
  | [], _ => Nat.zero_le _
  | m :: l, h => by
    rw [firstV]
    split
    · rw [List.length_replicate]; exact h m (by simp)
    · exact first_len t l (fun x hx => h x (by simp [hx]))
theorem first_one (t : Tbl) (f n : Nat) : firstV t [(f, n)] = keysOf t f n := by
  rw [firstV, firstV]
  unfold keysOf
  cases keyOf t f <;> rfl
theorem first_home (t : Tbl) (n : Nat) : firstV t [(23, 1), (19, n), (21, n)] = homeV t n := by
  rw [firstV, firstV, firstV, firstV]
  unfold homeV keysOf
  cases keyOf t 23 <;> cases keyOf t 19 <;> cases keyOf t 21 <;> simp
theorem tell_snoc (t : Tbl) : ∀ (l : List UInt8) (c : UInt8), tellV t (l ++ [c]) = tellV t l ++ ((if plainK t c = true then [] else keysOf t 14 1) ++ [c])
  | [], c => by simp [tellV]
  | x :: l, c => by
    rw [List.cons_append, tellV, tell_snoc t l c, tellV]
    simp
theorem mv14 : [[PV.s (.int .i64 14), PV.s (.int .i64 1)]] = [((14 : Nat), (1 : Nat))].map mvP := rfl
theorem mv26 : [[PV.s (.int .i64 26), PV.s (.int .i64 1)]] = [((26 : Nat), (1 : Nat))].map mvP := rfl
set_option maxHeartbeats 2000000 in
/-- Told into a row that is nil yet. -/
theorem gTellN (t : Tbl) (b : List UInt8) (hne : b ≠ []) (hb : b.length ≤ 8192) : Good Tryd.prog Γ 61 [.sl 1 (bys b), .ptr 0 0, .ptr 1 0] [(0, .box (tq t) false), (1, .box [nilP] false)] (.ret (.tup [])) [(0, .box (tq t) false), (1, .box [.own 2 1 (bys (tellV t b))] false), (2, .tok)] := by
  have hf := gFirst (Γ := Γ) t [(14, 1)] (by simp) (by simp)
  rw [first_one] at hf
  have hk := keys_len t 14 1
  have hpos : 0 < b.length := List.length_pos_iff.2 hne
  refine sh_start mixed F61 rfl ⟨(by first | exact rfl | (simp only [go_sem, seval]; done) | (simp only [go_sem, seval]; exact rfl)), (by first | exact rfl | (simp only [go_sem, seval]; done) | (simp only [go_sem, seval]; exact rfl)), (by first | exact rfl | (simp only [go_sem, seval]; done) | (simp only [go_sem, seval]; exact rfl)), (by first | exact rfl | (simp only [go_sem, seval]; done) | (simp only [go_sem, seval]; exact rfl)), (by first | exact rfl | (simp only [go_sem, seval]; done) | (simp only [go_sem, seval]; exact rfl))⟩ ?_
  repeat' (first | (with_reducible exact trivial) | simp (maxSteps := 2000000) (disch := omega) only [bys_length, go_sem, seval] | ((with_reducible refine isI ?_ ?_); (kernel_rfl)) | fail)
  refine sh_loopX mixed (fun i : Nat => ([(1, .ptr 0 0), (2, .ptr 1 0), (6, .sl 1 (bys b)), (7, .int .i64 b.length), (8, .int .i64 i)], if i = 0 then [(0, .box (tq t) false), (1, .box [nilP] false)] else [(0, .box (tq t) false), (1, .box [.own 2 1 (bys (tellV t (b.take i)))] false), (2, .tok)])) (fun i => b.length - i) (fun i => i ≤ b.length) 0 (Nat.zero_le _) wkAu ?_
  intro i hi
  by_cases hl : i < b.length
  · have hg := bys_at hl
    have htk := tell_snoc t (b.take i) (b.getD i 0)
    rw [← take_upE hl] at htk
    have hp := gPlain (Γ := Γ) t (b.getD i 0)
    generalize b.getD i 0 = c at hg htk hp
    have hln := (tell_len t (b.take i)).2
    rw [List.length_take] at hln
    by_cases h0 : i = 0
    · subst h0
      simp only [if_true]
      rw [List.take_zero, tellV, List.nil_append] at htk
      cases hpl : plainK t c
      · rw [hpl, if_neg (by simp)] at htk
        rw [hpl] at hp
        repeat' (first | (with_reducible exact trivial) | simp (maxSteps := 2000000) (disch := omega) only [bys_length, hg, by1_nil, bys_cat, mv14, go_sem, seval] | ((with_reducible refine isS ?_); first | refine cS (hp) ?_ | refine cS (hf) ?_ | fail) | ((with_reducible refine isT ?_); first | refine cT (hp) ?_ | refine cT (hf) ?_ | fail) | ((with_reducible refine isI ?_ ?_); (kernel_rfl)) | fail)
        refine ⟨0 + 1, by omega, by omega, ?_⟩
        rw [if_neg (by omega)]
        exact (wkAu (h1 := by (repeat' (first | exact le_tq0 rfl | exact le_tq0r rfl | refine le_tqr rfl ?_ | refine le_tq rfl ?_ | exact trivial | exact rfl | refine le_int ?_ | refine le_bool ?_ | refine le_str ?_ | refine le_sl ?_ | refine le_own ?_ | refine le_osl ?_ | refine le_nsl ?_ | refine ⟨_, rfl, ?_⟩ | refine ⟨?_, ?_⟩ | (first | omega | (rw [htk]; done) | (rw [htk]; simp; done); done) | exact Option.some_ne_none _ | fail)); first | done | fail) (h2 := by (repeat' (first | exact le_tq0 rfl | exact le_tq0r rfl | refine le_tqr rfl ?_ | refine le_tq rfl ?_ | exact trivial | exact rfl | refine le_int ?_ | refine le_bool ?_ | refine le_str ?_ | refine le_sl ?_ | refine le_own ?_ | refine le_osl ?_ | refine le_nsl ?_ | refine ⟨_, rfl, ?_⟩ | refine ⟨?_, ?_⟩ | (first | omega | (rw [htk]; done) | (rw [htk]; simp; done); done) | exact Option.some_ne_none _ | fail)); first | done | fail))
      · rw [hpl, if_pos rfl, List.nil_append] at htk
        rw [hpl] at hp
        repeat' (first | (with_reducible exact trivial) | simp (maxSteps := 2000000) (disch := omega) only [bys_length, hg, by1_nil, go_sem, seval] | ((with_reducible refine isS ?_); first | refine cS (hp) ?_ | refine cS (hf) ?_ | fail) | ((with_reducible refine isT ?_); first | refine cT (hp) ?_ | refine cT (hf) ?_ | fail) | ((with_reducible refine isI ?_ ?_); (kernel_rfl)) | fail)
        refine ⟨0 + 1, by omega, by omega, ?_⟩
        rw [if_neg (by omega)]
        exact (wkAu (h1 := by (repeat' (first | exact le_tq0 rfl | exact le_tq0r rfl | refine le_tqr rfl ?_ | refine le_tq rfl ?_ | exact trivial | exact rfl | refine le_int ?_ | refine le_bool ?_ | refine le_str ?_ | refine le_sl ?_ | refine le_own ?_ | refine le_osl ?_ | refine le_nsl ?_ | refine ⟨_, rfl, ?_⟩ | refine ⟨?_, ?_⟩ | (first | omega | (rw [htk]); done) | exact Option.some_ne_none _ | fail)); first | done | fail) (h2 := by (repeat' (first | exact le_tq0 rfl | exact le_tq0r rfl | refine le_tqr rfl ?_ | refine le_tq rfl ?_ | exact trivial | exact rfl | refine le_int ?_ | refine le_bool ?_ | refine le_str ?_ | refine le_sl ?_ | refine le_own ?_ | refine le_osl ?_ | refine le_nsl ?_ | refine ⟨_, rfl, ?_⟩ | refine ⟨?_, ?_⟩ | (first | omega | (rw [htk]); done) | exact Option.some_ne_none _ | fail)); first | done | fail))
    · simp only [if_neg h0]
      cases hpl : plainK t c
      · rw [hpl, if_neg (by simp)] at htk
        rw [hpl] at hp
        repeat' (first | (with_reducible exact trivial) | simp (maxSteps := 2000000) (disch := omega) only [bys_length, hg, by1_nil, bys_cat, mv14, List.length_append, Int.toNat_natCast, go_sem, seval] | ((with_reducible refine isS ?_); first | refine cS (hp) ?_ | refine cS (hf) ?_ | fail) | ((with_reducible refine isT ?_); first | refine cT (hp) ?_ | refine cT (hf) ?_ | fail) | ((with_reducible refine isI ?_ ?_); (kernel_rfl)) | fail)
        refine ⟨i + 1, by omega, by omega, ?_⟩
        rw [if_neg (by omega)]
        exact (wkAu (h1 := by (repeat' (first | exact le_tq0 rfl | exact le_tq0r rfl | refine le_tqr rfl ?_ | refine le_tq rfl ?_ | exact trivial | exact rfl | refine le_int ?_ | refine le_bool ?_ | refine le_str ?_ | refine le_sl ?_ | refine le_own ?_ | refine le_osl ?_ | refine le_nsl ?_ | refine ⟨_, rfl, ?_⟩ | refine ⟨?_, ?_⟩ | (first | omega | (rw [htk]; done) | (rw [htk]; simp; done); done) | exact Option.some_ne_none _ | fail)); first | done | fail) (h2 := by (repeat' (first | exact le_tq0 rfl | exact le_tq0r rfl | refine le_tqr rfl ?_ | refine le_tq rfl ?_ | exact trivial | exact rfl | refine le_int ?_ | refine le_bool ?_ | refine le_str ?_ | refine le_sl ?_ | refine le_own ?_ | refine le_osl ?_ | refine le_nsl ?_ | refine ⟨_, rfl, ?_⟩ | refine ⟨?_, ?_⟩ | (first | omega | (rw [htk]; done) | (rw [htk]; simp; done); done) | exact Option.some_ne_none _ | fail)); first | done | fail))
      · rw [hpl, if_pos rfl, List.nil_append] at htk
        rw [hpl] at hp
        repeat' (first | (with_reducible exact trivial) | simp (maxSteps := 2000000) (disch := omega) only [bys_length, hg, by1_nil, bys_cat, Int.toNat_natCast, go_sem, seval] | ((with_reducible refine isS ?_); first | refine cS (hp) ?_ | refine cS (hf) ?_ | fail) | ((with_reducible refine isT ?_); first | refine cT (hp) ?_ | refine cT (hf) ?_ | fail) | ((with_reducible refine isI ?_ ?_); (kernel_rfl)) | fail)
        refine ⟨i + 1, by omega, by omega, ?_⟩
        rw [if_neg (by omega)]
        exact (wkAu (h1 := by (repeat' (first | exact le_tq0 rfl | exact le_tq0r rfl | refine le_tqr rfl ?_ | refine le_tq rfl ?_ | exact trivial | exact rfl | refine le_int ?_ | refine le_bool ?_ | refine le_str ?_ | refine le_sl ?_ | refine le_own ?_ | refine le_osl ?_ | refine le_nsl ?_ | refine ⟨_, rfl, ?_⟩ | refine ⟨?_, ?_⟩ | (first | omega | (rw [htk]; done) | (rw [htk]; simp; done); done) | exact Option.some_ne_none _ | fail)); first | done | fail) (h2 := by (repeat' (first | exact le_tq0 rfl | exact le_tq0r rfl | refine le_tqr rfl ?_ | refine le_tq rfl ?_ | exact trivial | exact rfl | refine le_int ?_ | refine le_bool ?_ | refine le_str ?_ | refine le_sl ?_ | refine le_own ?_ | refine le_osl ?_ | refine le_nsl ?_ | refine ⟨_, rfl, ?_⟩ | refine ⟨?_, ?_⟩ | (first | omega | (rw [htk]; done) | (rw [htk]; simp; done); done) | exact Option.some_ne_none _ | fail)); first | done | fail))
  · have : i = b.length := by omega
    subst this
    simp only [if_neg (show ¬ b.length = 0 by omega), List.take_length]
    repeat' (first | (with_reducible exact trivial) | simp (maxSteps := 2000000) (disch := omega) only [go_sem, seval] | ((with_reducible refine isE ?_); refine eA ?_; (repeat' (first | exact le_tq0 rfl | exact le_tq0r rfl | refine le_tqr rfl ?_ | refine le_tq rfl ?_ | exact trivial | refine le_int ?_ | refine le_bool ?_ | refine le_str ?_ | refine le_sl ?_ | refine le_own ?_ | refine le_osl ?_ | refine le_nsl ?_ | exact rfl | refine ⟨?_, ?_⟩ | fail))) | ((with_reducible refine isI ?_ ?_); (kernel_rfl)) | fail)
set_option maxHeartbeats 2000000 in
/-- Told into a row that is there. -/
theorem gTellO (t : Tbl) (x : List UInt8) (hx : x.length ≤ 100000) (b : List UInt8) (hne : b ≠ []) (hb : b.length ≤ 8192) : Good Tryd.prog Γ 61 [.sl 1 (bys b), .ptr 0 0, .ptr 1 0] [(0, .box (tq t) false), (1, .box [.own 2 1 (bys x)] false), (2, .tok)] (.ret (.tup [])) [(0, .box (tq t) false), (1, .box [.own 3 1 (bys (x ++ tellV t b))] false), (2, .dead), (3, .tok)] := by
  have hf := gFirst (Γ := Γ) t [(14, 1)] (by simp) (by simp)
  rw [first_one] at hf
  have hk := keys_len t 14 1
  have hpos : 0 < b.length := List.length_pos_iff.2 hne
  refine sh_start mixed F61 rfl ⟨(by first | exact rfl | (simp only [go_sem, seval]; done) | (simp only [go_sem, seval]; exact rfl)), (by first | exact rfl | (simp only [go_sem, seval]; done) | (simp only [go_sem, seval]; exact rfl)), (by first | exact rfl | (simp only [go_sem, seval]; done) | (simp only [go_sem, seval]; exact rfl)), (by first | exact rfl | (simp only [go_sem, seval]; done) | (simp only [go_sem, seval]; exact rfl)), (by first | exact rfl | (simp only [go_sem, seval]; done) | (simp only [go_sem, seval]; exact rfl))⟩ ?_
  repeat' (first | (with_reducible exact trivial) | simp (maxSteps := 2000000) (disch := omega) only [bys_length, go_sem, seval] | ((with_reducible refine isI ?_ ?_); (kernel_rfl)) | fail)
  refine sh_loopX mixed (fun i : Nat => ([(1, .ptr 0 0), (2, .ptr 1 0), (6, .sl 1 (bys b)), (7, .int .i64 b.length), (8, .int .i64 i)], if i = 0 then [(0, .box (tq t) false), (1, .box [.own 2 1 (bys x)] false), (2, .tok)] else [(0, .box (tq t) false), (1, .box [.own 3 1 (bys (x ++ tellV t (b.take i)))] false), (2, .dead), (3, .tok)])) (fun i => b.length - i) (fun i => i ≤ b.length) 0 (Nat.zero_le _) wkAu ?_
  intro i hi
  by_cases hl : i < b.length
  · have hg := bys_at hl
    have htk := tell_snoc t (b.take i) (b.getD i 0)
    rw [← take_upE hl] at htk
    have hp := gPlain (Γ := Γ) t (b.getD i 0)
    generalize b.getD i 0 = c at hg htk hp
    have hln := (tell_len t (b.take i)).2
    rw [List.length_take] at hln
    by_cases h0 : i = 0
    · subst h0
      simp only [if_true]
      rw [List.take_zero, tellV, List.nil_append] at htk
      cases hpl : plainK t c
      · rw [hpl, if_neg (by simp)] at htk
        rw [hpl] at hp
        repeat' (first | (with_reducible exact trivial) | simp (maxSteps := 2000000) (disch := omega) only [bys_length, hg, by1_nil, bys_cat, mv14, go_sem, seval] | ((with_reducible refine isS ?_); first | refine cS (hp) ?_ | refine cS (hf) ?_ | fail) | ((with_reducible refine isT ?_); first | refine cT (hp) ?_ | refine cT (hf) ?_ | fail) | ((with_reducible refine isI ?_ ?_); (kernel_rfl)) | fail)
        refine ⟨0 + 1, by omega, by omega, ?_⟩
        rw [if_neg (by omega)]
        exact (wkAu (h1 := by (repeat' (first | exact le_tq0 rfl | exact le_tq0r rfl | refine le_tqr rfl ?_ | refine le_tq rfl ?_ | exact trivial | exact rfl | refine le_int ?_ | refine le_bool ?_ | refine le_str ?_ | refine le_sl ?_ | refine le_own ?_ | refine le_osl ?_ | refine le_nsl ?_ | refine ⟨_, rfl, ?_⟩ | refine ⟨?_, ?_⟩ | (first | omega | (rw [htk]; done) | (rw [htk]; simp; done); done) | exact Option.some_ne_none _ | fail)); first | done | fail) (h2 := by (repeat' (first | exact le_tq0 rfl | exact le_tq0r rfl | refine le_tqr rfl ?_ | refine le_tq rfl ?_ | exact trivial | exact rfl | refine le_int ?_ | refine le_bool ?_ | refine le_str ?_ | refine le_sl ?_ | refine le_own ?_ | refine le_osl ?_ | refine le_nsl ?_ | refine ⟨_, rfl, ?_⟩ | refine ⟨?_, ?_⟩ | (first | omega | (rw [htk]; done) | (rw [htk]; simp; done); done) | exact Option.some_ne_none _ | fail)); first | done | fail))
      · rw [hpl, if_pos rfl, List.nil_append] at htk
        rw [hpl] at hp
        repeat' (first | (with_reducible exact trivial) | simp (maxSteps := 2000000) (disch := omega) only [bys_length, hg, by1_nil, bys_cat, go_sem, seval] | ((with_reducible refine isS ?_); first | refine cS (hp) ?_ | refine cS (hf) ?_ | fail) | ((with_reducible refine isT ?_); first | refine cT (hp) ?_ | refine cT (hf) ?_ | fail) | ((with_reducible refine isI ?_ ?_); (kernel_rfl)) | fail)
        refine ⟨0 + 1, by omega, by omega, ?_⟩
        rw [if_neg (by omega)]
        exact (wkAu (h1 := by (repeat' (first | exact le_tq0 rfl | exact le_tq0r rfl | refine le_tqr rfl ?_ | refine le_tq rfl ?_ | exact trivial | exact rfl | refine le_int ?_ | refine le_bool ?_ | refine le_str ?_ | refine le_sl ?_ | refine le_own ?_ | refine le_osl ?_ | refine le_nsl ?_ | refine ⟨_, rfl, ?_⟩ | refine ⟨?_, ?_⟩ | (first | omega | (rw [htk]); done) | exact Option.some_ne_none _ | fail)); first | done | fail) (h2 := by (repeat' (first | exact le_tq0 rfl | exact le_tq0r rfl | refine le_tqr rfl ?_ | refine le_tq rfl ?_ | exact trivial | exact rfl | refine le_int ?_ | refine le_bool ?_ | refine le_str ?_ | refine le_sl ?_ | refine le_own ?_ | refine le_osl ?_ | refine le_nsl ?_ | refine ⟨_, rfl, ?_⟩ | refine ⟨?_, ?_⟩ | (first | omega | (rw [htk]); done) | exact Option.some_ne_none _ | fail)); first | done | fail))
    · simp only [if_neg h0]
      cases hpl : plainK t c
      · rw [hpl, if_neg (by simp)] at htk
        rw [hpl] at hp
        repeat' (first | (with_reducible exact trivial) | simp (maxSteps := 2000000) (disch := omega) only [bys_length, hg, by1_nil, bys_cat, mv14, List.length_append, Int.toNat_natCast, go_sem, seval] | ((with_reducible refine isS ?_); first | refine cS (hp) ?_ | refine cS (hf) ?_ | fail) | ((with_reducible refine isT ?_); first | refine cT (hp) ?_ | refine cT (hf) ?_ | fail) | ((with_reducible refine isI ?_ ?_); (kernel_rfl)) | fail)
        refine ⟨i + 1, by omega, by omega, ?_⟩
        rw [if_neg (by omega)]
        exact (wkAu (h1 := by (repeat' (first | exact le_tq0 rfl | exact le_tq0r rfl | refine le_tqr rfl ?_ | refine le_tq rfl ?_ | exact trivial | exact rfl | refine le_int ?_ | refine le_bool ?_ | refine le_str ?_ | refine le_sl ?_ | refine le_own ?_ | refine le_osl ?_ | refine le_nsl ?_ | refine ⟨_, rfl, ?_⟩ | refine ⟨?_, ?_⟩ | (first | omega | (rw [htk]; done) | (rw [htk]; simp; done); done) | exact Option.some_ne_none _ | fail)); first | done | fail) (h2 := by (repeat' (first | exact le_tq0 rfl | exact le_tq0r rfl | refine le_tqr rfl ?_ | refine le_tq rfl ?_ | exact trivial | exact rfl | refine le_int ?_ | refine le_bool ?_ | refine le_str ?_ | refine le_sl ?_ | refine le_own ?_ | refine le_osl ?_ | refine le_nsl ?_ | refine ⟨_, rfl, ?_⟩ | refine ⟨?_, ?_⟩ | (first | omega | (rw [htk]; done) | (rw [htk]; simp; done); done) | exact Option.some_ne_none _ | fail)); first | done | fail))
      · rw [hpl, if_pos rfl, List.nil_append] at htk
        rw [hpl] at hp
        repeat' (first | (with_reducible exact trivial) | simp (maxSteps := 2000000) (disch := omega) only [bys_length, hg, by1_nil, bys_cat, List.length_append, Int.toNat_natCast, go_sem, seval] | ((with_reducible refine isS ?_); first | refine cS (hp) ?_ | refine cS (hf) ?_ | fail) | ((with_reducible refine isT ?_); first | refine cT (hp) ?_ | refine cT (hf) ?_ | fail) | ((with_reducible refine isI ?_ ?_); (kernel_rfl)) | fail)
        refine ⟨i + 1, by omega, by omega, ?_⟩
        rw [if_neg (by omega)]
        exact (wkAu (h1 := by (repeat' (first | exact le_tq0 rfl | exact le_tq0r rfl | refine le_tqr rfl ?_ | refine le_tq rfl ?_ | exact trivial | exact rfl | refine le_int ?_ | refine le_bool ?_ | refine le_str ?_ | refine le_sl ?_ | refine le_own ?_ | refine le_osl ?_ | refine le_nsl ?_ | refine ⟨_, rfl, ?_⟩ | refine ⟨?_, ?_⟩ | (first | omega | (rw [htk]; done) | (rw [htk]; simp; done); done) | exact Option.some_ne_none _ | fail)); first | done | fail) (h2 := by (repeat' (first | exact le_tq0 rfl | exact le_tq0r rfl | refine le_tqr rfl ?_ | refine le_tq rfl ?_ | exact trivial | exact rfl | refine le_int ?_ | refine le_bool ?_ | refine le_str ?_ | refine le_sl ?_ | refine le_own ?_ | refine le_osl ?_ | refine le_nsl ?_ | refine ⟨_, rfl, ?_⟩ | refine ⟨?_, ?_⟩ | (first | omega | (rw [htk]; done) | (rw [htk]; simp; done); done) | exact Option.some_ne_none _ | fail)); first | done | fail))
  · have : i = b.length := by omega
    subst this
    simp only [if_neg (show ¬ b.length = 0 by omega), List.take_length]
    repeat' (first | (with_reducible exact trivial) | simp (maxSteps := 2000000) (disch := omega) only [go_sem, seval] | ((with_reducible refine isE ?_); refine eA ?_; (repeat' (first | exact le_tq0 rfl | exact le_tq0r rfl | refine le_tqr rfl ?_ | refine le_tq rfl ?_ | exact trivial | refine le_int ?_ | refine le_bool ?_ | refine le_str ?_ | refine le_sl ?_ | refine le_own ?_ | refine le_osl ?_ | refine le_nsl ?_ | exact rfl | refine ⟨?_, ?_⟩ | fail))) | ((with_reducible refine isI ?_ ?_); (kernel_rfl)) | fail)
theorem gTellN0 (t : Tbl) : Good Tryd.prog Γ 61 [.sl 1 (bys []), .ptr 0 0, .ptr 1 0] [(0, .box (tq t) false), (1, .box [nilP] false)] (.ret (.tup [])) [(0, .box (tq t) false), (1, .box [nilP] false)] := by
  refine sh_start mixed F61 rfl ⟨(by first | exact rfl | (simp only [go_sem, seval]; done) | (simp only [go_sem, seval]; exact rfl)), (by first | exact rfl | (simp only [go_sem, seval]; done) | (simp only [go_sem, seval]; exact rfl)), (by first | exact rfl | (simp only [go_sem, seval]; done) | (simp only [go_sem, seval]; exact rfl)), (by first | exact rfl | (simp only [go_sem, seval]; done) | (simp only [go_sem, seval]; exact rfl)), (by first | exact rfl | (simp only [go_sem, seval]; done) | (simp only [go_sem, seval]; exact rfl))⟩ ?_
  repeat' (first | (with_reducible exact trivial) | simp (maxSteps := 2000000) (disch := omega) only [List.length_nil, go_sem, seval] | ((with_reducible refine isI ?_ ?_); (kernel_rfl)) | fail)
  refine sh_loopX mixed (fun _ : Unit => ([(1, .ptr 0 0), (2, .ptr 1 0), (6, .sl 1 (bys [])), (7, .int .i64 0), (8, .int .i64 0)], [(0, .box (tq t) false), (1, .box [nilP] false)])) (fun _ => 0) (fun _ => True) () trivial wkAu ?_
  intro _ _
  repeat' (first | (with_reducible exact trivial) | simp (maxSteps := 2000000) (disch := omega) only [go_sem, seval] | ((with_reducible refine isE ?_); refine eA ?_; (repeat' (first | exact le_tq0 rfl | exact le_tq0r rfl | refine le_tqr rfl ?_ | refine le_tq rfl ?_ | exact trivial | refine le_int ?_ | refine le_bool ?_ | refine le_str ?_ | refine le_sl ?_ | refine le_own ?_ | refine le_osl ?_ | refine le_nsl ?_ | exact rfl | refine ⟨?_, ?_⟩ | fail))) | ((with_reducible refine isI ?_ ?_); (kernel_rfl)) | fail)
theorem gTellO0 (t : Tbl) (x : List UInt8) : Good Tryd.prog Γ 61 [.sl 1 (bys []), .ptr 0 0, .ptr 1 0] [(0, .box (tq t) false), (1, .box [.own 2 1 (bys x)] false), (2, .tok)] (.ret (.tup [])) [(0, .box (tq t) false), (1, .box [.own 2 1 (bys x)] false), (2, .tok)] := by
  refine sh_start mixed F61 rfl ⟨(by first | exact rfl | (simp only [go_sem, seval]; done) | (simp only [go_sem, seval]; exact rfl)), (by first | exact rfl | (simp only [go_sem, seval]; done) | (simp only [go_sem, seval]; exact rfl)), (by first | exact rfl | (simp only [go_sem, seval]; done) | (simp only [go_sem, seval]; exact rfl)), (by first | exact rfl | (simp only [go_sem, seval]; done) | (simp only [go_sem, seval]; exact rfl)), (by first | exact rfl | (simp only [go_sem, seval]; done) | (simp only [go_sem, seval]; exact rfl))⟩ ?_
  repeat' (first | (with_reducible exact trivial) | simp (maxSteps := 2000000) (disch := omega) only [List.length_nil, go_sem, seval] | ((with_reducible refine isI ?_ ?_); (kernel_rfl)) | fail)
  refine sh_loopX mixed (fun _ : Unit => ([(1, .ptr 0 0), (2, .ptr 1 0), (6, .sl 1 (bys [])), (7, .int .i64 0), (8, .int .i64 0)], [(0, .box (tq t) false), (1, .box [.own 2 1 (bys x)] false), (2, .tok)])) (fun _ => 0) (fun _ => True) () trivial wkAu ?_
  intro _ _
  repeat' (first | (with_reducible exact trivial) | simp (maxSteps := 2000000) (disch := omega) only [go_sem, seval] | ((with_reducible refine isE ?_); refine eA ?_; (repeat' (first | exact le_tq0 rfl | exact le_tq0r rfl | refine le_tqr rfl ?_ | refine le_tq rfl ?_ | exact trivial | refine le_int ?_ | refine le_bool ?_ | refine le_str ?_ | refine le_sl ?_ | refine le_own ?_ | refine le_osl ?_ | refine le_nsl ?_ | exact rfl | refine ⟨?_, ?_⟩ | fail))) | ((with_reducible refine isI ?_ ?_); (kernel_rfl)) | fail)
end Go.Proofs.YtmkblhinpnodaaaDoor
