/- Layer 13: keys in a row; what is the same. Own work. -/
import Derived.Test.YtmkblhinpnodaaaDoorEe
import Derived.Test.YtmkblhinpnodaaaDoorZ3
namespace Go.Proofs.YtmkblhinpnodaaaDoor
open Go Go.Shade
variable {Γ : Globs}
theorem typeW_ok {b : List UInt8} {n : Nat} {room : Int} {o : Bool} {k : UInt8} (hb : b.length ≤ 4096) (hn : n ≤ b.length) :
    (typeW b n room o k).1.length ≤ 4096 ∧ (typeW b n room o k).2.1 ≤ (typeW b n room o k).1.length ∧ ((typeW b n room o k).2.2 = true → (typeW b n room o k).2.1 = n + 1) ∧ ((typeW b n room o k).2.2 = false → (typeW b n room o k).1 = b ∧ (typeW b n room o k).2.1 = n) ∧
    (b.length < (typeW b n room o k).1.length → (typeW b n room o k).1.length = b.length + 1 ∧ ((typeW b n room o k).1.length : Int) ≤ room) := by
  unfold typeW typeV
  by_cases h1 : o = true ∧ n < b.length
  · rw [if_pos h1]
    have hl : (b.take n ++ [k] ++ b.drop (n + 1)).length = b.length := by rw [List.length_append, List.length_append, List.length_take, List.length_drop, List.length_cons, List.length_nil]; omega
    simp only
    exact ⟨by omega, by omega, fun _ => trivial, fun h => (by cases h), fun h => (by omega)⟩
  · rw [if_neg h1]
    by_cases h2 : min room 4096 ≤ b.length
    · rw [if_pos h2]
      simp only
      exact ⟨hb, hn, fun h => (by cases h), fun _ => ⟨trivial, trivial⟩, fun h => (by omega)⟩
    · rw [if_neg h2]
      have hl : (b.take n ++ [k] ++ b.drop n).length = b.length + 1 := by rw [List.length_append, List.length_append, List.length_take, List.length_drop, List.length_cons, List.length_nil]; omega
      simp only
      exact ⟨by omega, by omega, fun _ => trivial, fun h => (by cases h), fun _ => ⟨hl, (by omega)⟩⟩
theorem cut_len {b : List UInt8} {i j : Nat} (h : i ≤ j) (hj : j ≤ b.length) : (b.take i ++ b.drop j).length ≤ b.length ∧ i ≤ (b.take i ++ b.drop j).length := by
  rw [List.length_append, List.length_take, List.length_drop]; omega
theorem doV_le {b : List UInt8} {n : Nat} {f : Int} {c : List UInt8} {m : Nat} (hn : n ≤ b.length) (h : doV b n f = some (c, m)) : c.length ≤ b.length ∧ m ≤ c.length := by
  have hbk := backF_le b n
  have hon := onF_le hn
  unfold doV at h
  by_cases g0 : f = 10
  · rw [if_pos g0] at h; cases h; exact cut_len (by omega) hn
  rw [if_neg g0] at h
  by_cases g1 : f = 27
  · rw [if_pos g1] at h; cases h; exact cut_len (by omega) (by omega)
  rw [if_neg g1] at h
  by_cases g2 : f = 12
  · rw [if_pos g2] at h; cases h; exact cut_len hbk hn
  rw [if_neg g2] at h
  by_cases g3 : f = 28
  · rw [if_pos g3] at h; cases h; exact cut_len hon.1 hon.2
  rw [if_neg g3] at h
  by_cases g4 : f = 29
  · rw [if_pos g4] at h; cases h; exact cut_len (by omega) hn
  rw [if_neg g4] at h
  by_cases g5 : f = 30
  · rw [if_pos g5] at h; cases h; exact cut_len hn (Nat.le_refl _)
  rw [if_neg g5] at h
  by_cases g6 : f = 11
  · rw [if_pos g6] at h; cases h; simp
  rw [if_neg g6] at h
  by_cases g7 : f = 19
  · rw [if_pos g7] at h; cases h; omega
  rw [if_neg g7] at h
  by_cases g8 : f = 20
  · rw [if_pos g8] at h; cases h; omega
  rw [if_neg g8] at h
  by_cases g9 : f = 21
  · rw [if_pos g9] at h; cases h; omega
  rw [if_neg g9] at h
  by_cases g10 : f = 22
  · rw [if_pos g10] at h; cases h; omega
  rw [if_neg g10] at h
  by_cases g11 : f = 23
  · rw [if_pos g11] at h; cases h; omega
  rw [if_neg g11] at h
  by_cases g12 : f = 24
  · rw [if_pos g12] at h; cases h; omega
  rw [if_neg g12] at h
  cases h
theorem doW_ok {b : List UInt8} {n : Nat} {f : Int} (hn : n ≤ b.length) : (doW b n f).1.length ≤ b.length ∧ (doW b n f).2.1 ≤ (doW b n f).1.length := by
  unfold doW
  cases h : doV b n f with
  | none => exact ⟨Nat.le_refl _, hn⟩
  | some x => exact doV_le hn h
theorem zero_ok : Ed.zero.ok := ⟨by decide, by decide⟩
theorem sig_ok {s : Ed} {f : Int} (h : s.ok) : (sigV s f).1.ok := by
  unfold sigV
  split
  · exact h
  split
  · exact zero_ok
  · exact zero_ok
theorem typed_ok {s : Ed} {room : Int} {k : UInt8} (h : s.ok) : (typedV s room k).1.ok := by
  obtain ⟨h1, h2, _⟩ := typeW_ok (room := room) (o := s.o) (k := k) h.1 h.2
  exact ⟨h1, h2⟩
theorem mean_ok {s : Ed} {room : Int} {f : Nat} {k : UInt8} (h : s.ok) : (meanV s room f k).1.ok := by
  unfold meanV
  split
  · exact typed_ok h
  split
  · exact zero_ok
  split
  · exact sig_ok h
  split
  · exact h
  split
  · exact h
  · obtain ⟨h1, h2⟩ := doW_ok (f := f) h.2
    exact ⟨Nat.le_trans h1 h.1, h2⟩
theorem key_ok {t : Tbl} {s : Ed} {room : Int} {k : UInt8} (h : s.ok) : (keyV t room s k).1.ok := by
  unfold keyV
  split
  · exact typed_ok (s := { s with l := false }) h
  · exact mean_ok h
theorem mean_one (s : Ed) (room : Int) (f : Nat) (k : UInt8) : (meanV s room f k).2.1.length ≤ 1 := by
  unfold meanV typedV
  repeat' split
  all_goals simp
theorem key_one (t : Tbl) (s : Ed) (room : Int) (k : UInt8) : (keyV t room s k).2.1.length ≤ 1 := by
  unfold keyV
  split
  · simp [typedV]
  · exact mean_one _ _ _ _
/-- Keys in a row. -/
def playV (t : Tbl) (room : Int) : Ed → List UInt8 → Ed × List Ev × Nat
  | s, [] => (s, [], 0)
  | s, k :: ks => ((playV t room (keyV t room s k).1 ks).1, (keyV t room s k).2.1 ++ (playV t room (keyV t room s k).1 ks).2.1, (if (keyV t room s k).2.2 = true then 1 else 0) + (playV t room (keyV t room s k).1 ks).2.2)
theorem play_append (t : Tbl) (room : Int) : ∀ (s : Ed) (a b : List UInt8), playV t room s (a ++ b) = ((playV t room (playV t room s a).1 b).1, (playV t room s a).2.1 ++ (playV t room (playV t room s a).1 b).2.1, (playV t room s a).2.2 + (playV t room (playV t room s a).1 b).2.2)
  | s, [], b => by simp [playV]
  | s, k :: a, b => by
    rw [List.cons_append, playV, play_append t room _ a b, playV]
    simp [Nat.add_assoc]
theorem play_snoc (t : Tbl) (room : Int) (s : Ed) (a : List UInt8) (k : UInt8) : playV t room s (a ++ [k]) = ((keyV t room (playV t room s a).1 k).1, (playV t room s a).2.1 ++ (keyV t room (playV t room s a).1 k).2.1, (playV t room s a).2.2 + (if (keyV t room (playV t room s a).1 k).2.2 = true then 1 else 0)) := by
  rw [play_append]
  simp [playV]
theorem play_ok {t : Tbl} {room : Int} : ∀ {a : List UInt8} {s : Ed}, s.ok → (playV t room s a).1.ok
  | [], s, h => h
  | k :: a, s, h => by
    rw [playV]
    exact play_ok (key_ok h)
theorem play_len {t : Tbl} {room : Int} : ∀ (a : List UInt8) (s : Ed), (playV t room s a).2.1.length ≤ a.length ∧ (playV t room s a).2.2 ≤ a.length
  | [], s => ⟨Nat.le_refl _, Nat.le_refl _⟩
  | k :: a, s => by
    obtain ⟨h1, h2⟩ := play_len (t := t) (room := room) a (keyV t room s k).1
    have h3 := key_one t s room k
    rw [playV, List.length_cons]
    simp only [List.length_append]
    split <;> omega
theorem take_upE {l : List UInt8} {t : Nat} (h : t < l.length) : l.take (t + 1) = l.take t ++ [l.getD t 0] := by
  rw [List.take_add_one, List.getD_eq_getElem?_getD, List.getElem?_eq_getElem h]; rfl
set_option maxHeartbeats 1000000 in
theorem gEPlay (t : Tbl) (room : Int) (s : Ed) (ks : List UInt8) (hs : s.ok) (hk : ks.length ≤ 1000000) {s' : Ed} {l : List Ev} {n : Nat} (h : playV t room s ks = (s', l, n)) :
    Good Tryd.prog Γ 23 [.agg (tq t), .int .i64 room, edA s, .sl 1 (bys ks)] [] (.ret (.tup [edA s', outA l, .int .i64 n])) [] := by
  refine sh_start mixed F23 rfl ⟨(by first | exact rfl | (simp only [go_sem, seval]; done) | (simp only [go_sem, seval]; exact rfl)), (by first | exact rfl | (simp only [go_sem, seval]; done) | (simp only [go_sem, seval]; exact rfl)), (by first | exact rfl | (simp only [go_sem, seval]; done) | (simp only [go_sem, seval]; exact rfl)), (by first | exact rfl | (simp only [go_sem, seval]; done) | (simp only [go_sem, seval]; exact rfl)), (by first | exact rfl | (simp only [go_sem, seval]; done) | (simp only [go_sem, seval]; exact rfl))⟩ ?_
  repeat' (first | (with_reducible exact trivial) | simp (maxSteps := 2000000) (disch := omega) only [bys_length, go_sem, seval] | ((with_reducible refine isI ?_ ?_); (kernel_rfl)) | fail)
  refine sh_loopX mixed (fun x : Nat × Ed × List Ev × Nat => ([(1, .int .i64 room), (4, .ptr 0 0), (6, .ptr 1 0), (8, .ptr 2 0), (11, .own 3 3 (x.2.2.1.map evP)), (12, .int .i64 x.2.2.2), (18, .sl 1 (bys ks)), (19, .int .i64 ks.length), (20, .int .i64 x.1)],
    [(0, .box (tq t) false), (1, .box [.sl 1 (bys x.2.1.b), .int .i64 x.2.1.n, .bool x.2.1.o, .bool x.2.1.l] false), (2, .box [.p (.s (.slice none 0 0)), .p (.s (.int .i64 0)), .p (.s (.bool false)), .p (.s (.bool false))] false), (3, .tok)])) (fun x => ks.length - x.1)
    (fun x => x.1 ≤ ks.length ∧ playV t room s (ks.take x.1) = x.2) (0, s, [], 0) ⟨Nat.zero_le _, rfl⟩ (weakG_nil 11 3 3 rfl rfl wkAu) ?_
  rintro ⟨i, s1, l1, n1⟩ ⟨hi, he⟩
  simp only at hi he
  have hs1 : s1.ok := by have := play_ok (t := t) (room := room) (a := ks.take i) hs; rw [he] at this; exact this
  obtain ⟨q1, q2⟩ := play_len (t := t) (room := room) (ks.take i) s
  rw [he, List.length_take] at q1 q2
  simp only at q1 q2
  by_cases hl : i < ks.length
  · have hg := bys_at hl
    have hn := play_snoc t room s (ks.take i) (ks.getD i 0)
    rw [← take_upE hl, he] at hn
    simp only at hn
    generalize ks.getD i 0 = k at hg hn
    have h1 := key_one t s1 room k
    obtain ⟨s2, l2, bl, hkv⟩ : ∃ s2 l2 bl, keyV t room s1 k = (s2, l2, bl) := ⟨_, _, _, rfl⟩
    rw [hkv] at hn h1
    simp only at hn h1
    have hkey := gEKey (Γ := Γ) t room s1 k hs1 hkv
    cases bl
    · repeat' (first | (with_reducible exact trivial) | simp (maxSteps := 2000000) (disch := omega) only [bys_length, hg, Int.toNat_natCast, List.length_map, go_sem, seval] | ((with_reducible refine isS ?_); first | refine cS (hkey) ?_ | fail) | ((with_reducible refine isT ?_); first | refine cT (hkey) ?_ | fail) | ((with_reducible refine isI ?_ ?_); (kernel_rfl)) | fail)
      exact ⟨(i + 1, s2, l1 ++ l2, n1), by simp only; omega, ⟨by simp only; omega, hn⟩, (wkAu (h1 := by (repeat' (first | exact le_tq0 rfl | exact le_tq0r rfl | refine le_tqr rfl ?_ | refine le_tq rfl ?_ | exact trivial | exact rfl | refine le_int ?_ | refine le_bool ?_ | refine le_str ?_ | refine le_sl ?_ | refine le_own ?_ | refine le_osl ?_ | refine le_nsl ?_ | refine ⟨_, rfl, ?_⟩ | refine ⟨?_, ?_⟩ | (first | omega | simp; done) | fail)); first | done | fail) (h2 := by (repeat' (first | exact le_tq0 rfl | exact le_tq0r rfl | refine le_tqr rfl ?_ | refine le_tq rfl ?_ | exact trivial | exact rfl | refine le_int ?_ | refine le_bool ?_ | refine le_str ?_ | refine le_sl ?_ | refine le_own ?_ | refine le_osl ?_ | refine le_nsl ?_ | refine ⟨_, rfl, ?_⟩ | refine ⟨?_, ?_⟩ | (first | omega | simp; done) | fail)); first | done | fail))⟩
    · repeat' (first | (with_reducible exact trivial) | simp (maxSteps := 2000000) (disch := omega) only [bys_length, hg, Int.toNat_natCast, List.length_map, go_sem, seval] | ((with_reducible refine isS ?_); first | refine cS (hkey) ?_ | fail) | ((with_reducible refine isT ?_); first | refine cT (hkey) ?_ | fail) | ((with_reducible refine isI ?_ ?_); (kernel_rfl)) | fail)
      exact ⟨(i + 1, s2, l1 ++ l2, n1 + 1), by simp only; omega, ⟨by simp only; omega, hn⟩, (wkAu (h1 := by (repeat' (first | exact le_tq0 rfl | exact le_tq0r rfl | refine le_tqr rfl ?_ | refine le_tq rfl ?_ | exact trivial | exact rfl | refine le_int ?_ | refine le_bool ?_ | refine le_str ?_ | refine le_sl ?_ | refine le_own ?_ | refine le_osl ?_ | refine le_nsl ?_ | refine ⟨_, rfl, ?_⟩ | refine ⟨?_, ?_⟩ | (first | omega | simp; done) | fail)); first | done | fail) (h2 := by (repeat' (first | exact le_tq0 rfl | exact le_tq0r rfl | refine le_tqr rfl ?_ | refine le_tq rfl ?_ | exact trivial | exact rfl | refine le_int ?_ | refine le_bool ?_ | refine le_str ?_ | refine le_sl ?_ | refine le_own ?_ | refine le_osl ?_ | refine le_nsl ?_ | refine ⟨_, rfl, ?_⟩ | refine ⟨?_, ?_⟩ | (first | omega | simp; done) | fail)); first | done | fail))⟩
  · have hi' : i = ks.length := by omega
    subst hi'
    rw [List.take_length, h] at he
    cases he
    repeat' (first | (with_reducible exact trivial) | simp (maxSteps := 2000000) (disch := omega) only [go_sem, seval] | ((with_reducible refine isE ?_); refine eA ?_; (repeat' (first | exact le_tq0 rfl | exact le_tq0r rfl | refine le_tqr rfl ?_ | refine le_tq rfl ?_ | exact trivial | refine le_int ?_ | refine le_bool ?_ | refine le_str ?_ | refine le_sl ?_ | refine le_own ?_ | refine le_osl ?_ | refine le_nsl ?_ | exact rfl | refine ⟨?_, ?_⟩ | fail))) | ((with_reducible refine isI ?_ ?_); (kernel_rfl)) | fail)
theorem gESameI (b c : List UInt8) (n m : Int) (o p l q : Bool) : Good Tryd.prog Γ 12 [edI b n o l, edI c m p q] [] (.ret (.bool (decide (n = m ∧ b = c ∧ o = p ∧ l = q)))) [] := by
  have hl := gLSame (Γ := Γ) b c n m
  refine sh_start mixed F12 rfl ⟨(by first | exact rfl | (simp only [go_sem, seval]; done) | (simp only [go_sem, seval]; exact rfl)), (by first | exact rfl | (simp only [go_sem, seval]; done) | (simp only [go_sem, seval]; exact rfl)), (by first | exact rfl | (simp only [go_sem, seval]; done) | (simp only [go_sem, seval]; exact rfl)), (by first | exact rfl | (simp only [go_sem, seval]; done) | (simp only [go_sem, seval]; exact rfl)), (by first | exact rfl | (simp only [go_sem, seval]; done) | (simp only [go_sem, seval]; exact rfl))⟩ ?_
  by_cases h : n = m ∧ b = c
  · rw [decide_eq_true h] at hl
    obtain ⟨rfl, rfl⟩ := h
    cases o <;> cases p <;> cases l <;> cases q
    all_goals repeat' (first | (with_reducible exact trivial) | simp (maxSteps := 2000000) (disch := omega) only [go_sem, seval] | ((with_reducible refine isS ?_); first | refine cS (hl) ?_ | fail) | ((with_reducible refine isE ?_); refine eA ?_; (repeat' (first | exact le_tq0 rfl | exact le_tq0r rfl | refine le_tqr rfl ?_ | refine le_tq rfl ?_ | exact trivial | refine le_int ?_ | refine le_bool ?_ | refine le_str ?_ | refine le_sl ?_ | refine le_own ?_ | refine le_osl ?_ | refine le_nsl ?_ | exact rfl | (simp; done) | refine ⟨?_, ?_⟩ | fail))) | ((with_reducible refine isI ?_ ?_); (kernel_rfl)) | fail)
  · rw [decide_eq_false h] at hl
    rw [decide_eq_false (fun e => h ⟨e.1, e.2.1⟩)]
    repeat' (first | (with_reducible exact trivial) | simp (maxSteps := 2000000) (disch := omega) only [go_sem, seval] | ((with_reducible refine isS ?_); first | refine cS (hl) ?_ | fail) | ((with_reducible refine isE ?_); refine eA ?_; (repeat' (first | exact le_tq0 rfl | exact le_tq0r rfl | refine le_tqr rfl ?_ | refine le_tq rfl ?_ | exact trivial | refine le_int ?_ | refine le_bool ?_ | refine le_str ?_ | refine le_sl ?_ | refine le_own ?_ | refine le_osl ?_ | refine le_nsl ?_ | exact rfl | refine ⟨?_, ?_⟩ | fail))) | ((with_reducible refine isI ?_ ?_); (kernel_rfl)) | fail)
theorem gESame (s u : Ed) : Good Tryd.prog Γ 12 [edA s, edA u] [] (.ret (.bool (decide (s = u)))) [] := by
  have h := gESameI (Γ := Γ) s.b u.b s.n u.n s.o u.o s.l u.l
  have e : decide ((s.n : Int) = u.n ∧ s.b = u.b ∧ s.o = u.o ∧ s.l = u.l) = decide (s = u) := by
    apply decide_eq_decide.2
    cases s; cases u
    simp only [Ed.mk.injEq]
    constructor
    · rintro ⟨h1, h2, h3, h4⟩; exact ⟨h2, by omega, h3, h4⟩
    · rintro ⟨h1, h2, h3, h4⟩; exact ⟨by omega, h1, h3, h4⟩
  rwa [e] at h
theorem gELit (a b : Ev) : Good Tryd.prog Γ 43 [evA a, evA b] [] (.ret (.bool (decide (a = b)))) [] := by
  have he := gEqual (Γ := Γ) a.b b.b
  obtain ⟨k1, f1, b1⟩ := a
  obtain ⟨k2, f2, b2⟩ := b
  simp only at he
  refine sh_start mixed F43 rfl ⟨(by first | exact rfl | (simp only [go_sem, seval]; done) | (simp only [go_sem, seval]; exact rfl)), (by first | exact rfl | (simp only [go_sem, seval]; done) | (simp only [go_sem, seval]; exact rfl)), (by first | exact rfl | (simp only [go_sem, seval]; done) | (simp only [go_sem, seval]; exact rfl)), (by first | exact rfl | (simp only [go_sem, seval]; done) | (simp only [go_sem, seval]; exact rfl)), (by first | exact rfl | (simp only [go_sem, seval]; done) | (simp only [go_sem, seval]; exact rfl))⟩ ?_
  by_cases h1 : k1 = k2 <;> by_cases h2 : f1 = f2
  all_goals repeat' (first | (with_reducible exact trivial) | simp (maxSteps := 2000000) (disch := omega) only [h1, h2, go_sem, seval] | ((with_reducible refine isS ?_); first | refine cS (he) ?_ | fail) | ((with_reducible refine isE ?_); refine eA ?_; (repeat' (first | exact le_tq0 rfl | exact le_tq0r rfl | refine le_tqr rfl ?_ | refine le_tq rfl ?_ | exact trivial | refine le_int ?_ | refine le_bool ?_ | refine le_str ?_ | refine le_sl ?_ | refine le_own ?_ | refine le_osl ?_ | refine le_nsl ?_ | exact rfl | (simp [h1, h2]; done) | refine ⟨?_, ?_⟩ | fail))) | ((with_reducible refine isI ?_ ?_); (kernel_rfl)) | fail)
theorem two_ev {a b : List Ev} {i : Nat} (ha : i < a.length) (hb : i < b.length) : ∃ t u, (a.map evP).getD i [] = evP t ∧ (b.map evP).getD i [] = evP u ∧ (a.take i = b.take i → (t = u ↔ a.take (i + 1) = b.take (i + 1))) := by
  refine ⟨a[i], b[i], ?_, ?_, fun h => ?_⟩
  · rw [List.getD_eq_getElem?_getD, List.getElem?_map, List.getElem?_eq_getElem ha]; rfl
  · rw [List.getD_eq_getElem?_getD, List.getElem?_map, List.getElem?_eq_getElem hb]; rfl
  · have e1 : a.take (i + 1) = a.take i ++ [a[i]] := by rw [List.take_add_one, List.getElem?_eq_getElem ha]; rfl
    have e2 : b.take (i + 1) = b.take i ++ [b[i]] := by rw [List.take_add_one, List.getElem?_eq_getElem hb]; rfl
    rw [e1, e2, h]
    simp only [List.append_cancel_left_eq, List.cons.injEq, and_true]
theorem gEqF (a b : List Ev) (ha : a.length ≤ 10000000) (_hb : b.length ≤ 10000000) : Good Tryd.prog Γ 42 [outA a, outA b, .fn (.func 43) [] []] [] (.ret (.bool (decide (a = b)))) [] := by
  refine sh_start mixed F42 rfl ⟨(by first | exact rfl | (simp only [go_sem, seval]; done) | (simp only [go_sem, seval]; exact rfl)), (by first | exact rfl | (simp only [go_sem, seval]; done) | (simp only [go_sem, seval]; exact rfl)), (by first | exact rfl | (simp only [go_sem, seval]; done) | (simp only [go_sem, seval]; exact rfl)), (by first | exact rfl | (simp only [go_sem, seval]; done) | (simp only [go_sem, seval]; exact rfl)), (by first | exact rfl | (simp only [go_sem, seval]; done) | (simp only [go_sem, seval]; exact rfl))⟩ ?_
  by_cases hl : a.length = b.length
  · repeat' (first | (with_reducible exact trivial) | simp (maxSteps := 2000000) (disch := omega) only [List.length_map, hl, go_sem, seval] | ((with_reducible refine isI ?_ ?_); (kernel_rfl)) | fail)
    refine sh_loopX mixed (fun i : Nat => ([(1, outA b), (2, .fn (.func 43) [] []), (15, outA a), (16, .int .i64 b.length), (17, .int .i64 i)], [])) (fun i => a.length - i) (fun i => i ≤ a.length ∧ a.take i = b.take i) 0 (by simp) (wkAu (h1 := by (repeat' (first | exact le_tq0 rfl | exact le_tq0r rfl | refine le_tqr rfl ?_ | refine le_tq rfl ?_ | exact trivial | exact rfl | refine le_int ?_ | refine le_bool ?_ | refine le_str ?_ | refine le_sl ?_ | refine le_own ?_ | refine le_osl ?_ | refine le_nsl ?_ | refine ⟨_, rfl, ?_⟩ | refine ⟨?_, ?_⟩ | (simp only [hl]; done) | fail)); first | done | fail) (h2 := by (repeat' (first | exact le_tq0 rfl | exact le_tq0r rfl | refine le_tqr rfl ?_ | refine le_tq rfl ?_ | exact trivial | exact rfl | refine le_int ?_ | refine le_bool ?_ | refine le_str ?_ | refine le_sl ?_ | refine le_own ?_ | refine le_osl ?_ | refine le_nsl ?_ | refine ⟨_, rfl, ?_⟩ | refine ⟨?_, ?_⟩ | (simp only [hl]; done) | fail)); first | done | fail)) ?_
    rintro i ⟨hi, he⟩
    by_cases h : i < a.length
    · obtain ⟨t, u, h1, h2, h3⟩ := two_ev h (by omega : i < b.length)
      have h3 := h3 he
      have hg := gELit (Γ := Γ) t u
      by_cases htu : t = u
      · rw [decide_eq_true htu] at hg
        repeat' (first | (with_reducible exact trivial) | simp (maxSteps := 2000000) (disch := omega) only [List.length_map, h1, h2, evP, Int.toNat_natCast, go_sem, seval] | ((with_reducible refine isS ?_); first | refine cS (hg) ?_ | fail) | ((with_reducible refine isI ?_ ?_); (kernel_rfl)) | fail)
        exact ⟨i + 1, by omega, ⟨by omega, h3.1 htu⟩, wkAu⟩
      · have hne : a ≠ b := fun e => htu (h3.2 (by rw [e]))
        rw [decide_eq_false htu] at hg
        repeat' (first | (with_reducible exact trivial) | simp (maxSteps := 2000000) (disch := omega) only [List.length_map, h1, h2, evP, Int.toNat_natCast, go_sem, seval] | ((with_reducible refine isS ?_); first | refine cS (hg) ?_ | fail) | ((with_reducible refine isE ?_); refine eA ?_; (repeat' (first | exact le_tq0 rfl | exact le_tq0r rfl | refine le_tqr rfl ?_ | refine le_tq rfl ?_ | exact trivial | refine le_int ?_ | refine le_bool ?_ | refine le_str ?_ | refine le_sl ?_ | refine le_own ?_ | refine le_osl ?_ | refine le_nsl ?_ | exact rfl | (exact (decide_eq_false hne).symm; done) | refine ⟨?_, ?_⟩ | fail))) | ((with_reducible refine isI ?_ ?_); (kernel_rfl)) | fail)
    · have e : a = b := by rw [← List.take_of_length_le (l := a) (i := i) (by omega), he, List.take_of_length_le (by omega)]
      repeat' (first | (with_reducible exact trivial) | simp (maxSteps := 2000000) (disch := omega) only [go_sem, seval] | ((with_reducible refine isE ?_); refine eA ?_; (repeat' (first | exact le_tq0 rfl | exact le_tq0r rfl | refine le_tqr rfl ?_ | refine le_tq rfl ?_ | exact trivial | refine le_int ?_ | refine le_bool ?_ | refine le_str ?_ | refine le_sl ?_ | refine le_own ?_ | refine le_osl ?_ | refine le_nsl ?_ | exact rfl | (exact (decide_eq_true e).symm; done) | refine ⟨?_, ?_⟩ | fail))) | ((with_reducible refine isI ?_ ?_); (kernel_rfl)) | fail)
  · repeat' (first | (with_reducible exact trivial) | simp (maxSteps := 2000000) (disch := omega) only [List.length_map, Int.natCast_inj, hl, go_sem, seval] | ((with_reducible refine isE ?_); refine eA ?_; (repeat' (first | exact le_tq0 rfl | exact le_tq0r rfl | refine le_tqr rfl ?_ | refine le_tq rfl ?_ | exact trivial | refine le_int ?_ | refine le_bool ?_ | refine le_str ?_ | refine le_sl ?_ | refine le_own ?_ | refine le_osl ?_ | refine le_nsl ?_ | exact rfl | (exact (decide_eq_false (fun e => hl (by rw [e]))).symm; done) | refine ⟨?_, ?_⟩ | fail))) | ((with_reducible refine isI ?_ ?_); (kernel_rfl)) | fail)
theorem gEAlike (a b : List Ev) (ha : a.length ≤ 10000000) (hb : b.length ≤ 10000000) : Good Tryd.prog Γ 24 [outA a, outA b] [] (.ret (.bool (decide (a = b)))) [] := by
  refine sh_start mixed F24 rfl ⟨(by first | exact rfl | (simp only [go_sem, seval]; done) | (simp only [go_sem, seval]; exact rfl)), (by first | exact rfl | (simp only [go_sem, seval]; done) | (simp only [go_sem, seval]; exact rfl)), (by first | exact rfl | (simp only [go_sem, seval]; done) | (simp only [go_sem, seval]; exact rfl)), (by first | exact rfl | (simp only [go_sem, seval]; done) | (simp only [go_sem, seval]; exact rfl)), (by first | exact rfl | (simp only [go_sem, seval]; done) | (simp only [go_sem, seval]; exact rfl))⟩ ?_
  repeat' (first | (with_reducible exact trivial) | simp (maxSteps := 2000000) (disch := omega) only [go_sem, seval] | ((with_reducible refine isS ?_); first | refine cS (gEqF a b ha hb) ?_ | fail) | ((with_reducible refine isE ?_); refine eA ?_; (repeat' (first | exact le_tq0 rfl | exact le_tq0r rfl | refine le_tqr rfl ?_ | refine le_tq rfl ?_ | exact trivial | refine le_int ?_ | refine le_bool ?_ | refine le_str ?_ | refine le_sl ?_ | refine le_own ?_ | refine le_osl ?_ | refine le_nsl ?_ | exact rfl | refine ⟨?_, ?_⟩ | fail))) | ((with_reducible refine isI ?_ ?_); (kernel_rfl)) | fail)
end Go.Proofs.YtmkblhinpnodaaaDoor
