/- Layer 12: LineKeeps. Own work. -/
import Derived.Test.YthigibfnpfamdaaDoorLx
import Derived.Test.YthigibfnpfamdaaDoorZ3
namespace Go.Proofs.YthigibfnpfamdaaDoor
open Go Go.Shade
variable {Γ : Globs}
/-! Boxes of which only a part is told -/
def jk (o : Nat) (l : List UInt8) : List AV := List.replicate o .junk ++ bq l
theorem jk_len (o : Nat) (l : List UInt8) : (jk o l).length = o + l.length := by simp [jk, bq]
theorem jk_get {o : Nat} {l : List UInt8} {i : Nat} (h : i < l.length) : (jk o l)[o + i]? = some (.p (.s (.int .u8 (l.getD i 0).toNat))) := by
  unfold jk bq
  rw [List.getElem?_append_right (by simp), List.length_replicate, Nat.add_sub_cancel_left, List.getElem?_map, List.getElem?_eq_getElem h, List.getD_eq_getElem?_getD, List.getElem?_eq_getElem h]
  rfl
theorem jk_set {o : Nat} {l : List UInt8} {i : Nat} {y : UInt8} (h : i < l.length) : (jk o l).take (o + i) ++ .p (.s (.int .u8 y.toNat)) :: (jk o l).drop (o + i + 1) = jk o (l.set i y) := by
  rw [set_split (by rw [jk_len]; omega)]
  unfold jk bq
  rw [List.set_append_right _ _ (by simp), List.length_replicate, Nat.add_sub_cancel_left, List.map_set]
theorem jk_names (o : Nat) (l : List UInt8) : namesL (jk o l) = [] := by
  have h1 : ∀ k : Nat, namesL (List.replicate k .junk) = [] := fun k => by
    induction k with
    | zero => rfl
    | succ k ih => rw [List.replicate_succ, namesL, ih]; rfl
  have h2 : ∀ l : List UInt8, namesL (bq l) = [] := fun l => by
    induction l with
    | nil => rfl
    | cons x l ih => rw [bq, List.map_cons, namesL]; exact ih
  rw [jk, names_app, h1, h2]; rfl
theorem jk_ren (ρ : Nat → Nat) (o : Nat) (l : List UInt8) : renL ρ (jk o l) = jk o l := by
  have h1 : ∀ k : Nat, renL ρ (List.replicate k .junk) = List.replicate k .junk := fun k => by
    induction k with
    | zero => rfl
    | succ k ih => rw [List.replicate_succ, renL, ih]; rfl
  have h2 : ∀ l : List UInt8, renL ρ (bq l) = bq l := fun l => by
    induction l with
    | nil => rfl
    | cons x l ih =>
      rw [bq, List.map_cons, renL]
      exact congrArg (AV.p (.s (.int .u8 x.toNat)) :: ·) ih
  rw [jk, renL_app, h1, h2]
theorem le_jk : ∀ (o : Nat) (l : List UInt8), LeAs (jk o l) (jk o l)
  | 0, l => by
    unfold jk
    rw [List.replicate_zero, List.nil_append]
    induction l with
    | nil => trivial
    | cons x l ih => rw [bq, List.map_cons, LeAs]; exact ⟨rfl, ih⟩
  | o + 1, l => by
    have := le_jk o l
    unfold jk at this ⊢
    rw [List.replicate_succ, List.cons_append, LeAs]
    exact ⟨by rw [LeA]; trivial, this⟩
theorem le_jkr {o : Nat} {l k : List UInt8} {ρ : Nat → Nat} (h : l = k) : LeAs (jk o l) (renL ρ (jk o k)) := by rw [jk_ren, h]; exact le_jk o k
theorem posts_one (t : Nat) (l : List UInt8) (off : Nat → Nat) : posts [(t, 1, bys l)] off = [(t, .box (jk (off t) l) false)] := by
  unfold posts jk
  rw [List.map_cons, List.map_nil, ← bys_cells]
attribute [go_sem] jk_names jk_ren
theorem bys_plain (l : List UInt8) : (bys l).flatten.all plainP = true := by
  induction l with
  | nil => rfl
  | cons x l ih => rw [bys, List.map_cons, List.flatten_cons, List.all_append]; exact (Bool.and_eq_true _ _).mpr ⟨rfl, ih⟩
/-- Typing, when there is room: what comes of it is the caller's own. -/
theorem gTypeO (b : List UInt8) (n : Nat) (c : UInt8) (hb : b.length < 4096) (hn : n ≤ b.length) : Good Tryd.prog Γ 17 [lA b n, .int .i64 4096, .bool false, .int .u8 c.toNat] [] (.ret (.tup [.agg [.own 0 1 (bys (b.take n ++ [c] ++ b.drop n)), .int .i64 (n + 1 : Nat)], .bool true])) [(0, .tok)] := by
  have hc := gLCheck (Γ := Γ) b n
  rw [if_pos ⟨by omega, by omega, by omega⟩] at hc
  have hcl := gClone (Γ := Γ) (b.take n) (by rw [List.length_take]; omega)
  have e0 : ((n : Int) + 0).toNat = n := by omega
  refine sh_start mixed F17 rfl ⟨(by first | exact rfl | (simp only [go_sem, seval]; done) | (simp only [go_sem, seval]; exact rfl)), (by first | exact rfl | (simp only [go_sem, seval]; done) | (simp only [go_sem, seval]; exact rfl)), (by first | exact rfl | (simp only [go_sem, seval]; done) | (simp only [go_sem, seval]; exact rfl)), (by first | exact rfl | (simp only [go_sem, seval]; done) | (simp only [go_sem, seval]; exact rfl)), (by first | exact rfl | (simp only [go_sem, seval]; done) | (simp only [go_sem, seval]; exact rfl))⟩ ?_
  repeat' (first | (with_reducible exact trivial) | simp (maxSteps := 2000000) (disch := omega) only [bys_length, bys_take, bys_drop, by1_nil, bys_cat, Int.toNat_natCast, e0, List.length_take, List.length_drop, List.take_length, Int.natCast_add, Int.natCast_one, go_sem, seval] | ((with_reducible refine isS ?_); first | refine sh_call (hc) [] (by (repeat' (first | exact le_mq0 rfl | exact le_mq0r rfl | refine le_mqr ?_ | refine le_mq ?_ | exact rfl | exact trivial | exact le_nbys | refine ⟨?_, ?_⟩ | fail)); first | done | fail) trivial rfl (by (repeat' (first | exact trivial | exact .inr rfl | exact .inl rfl | refine ⟨?_, ?_⟩ | fail)); first | done | fail) ?_ | refine sh_call (hcl) [] (by (repeat' (first | exact le_mq0 rfl | exact le_mq0r rfl | refine le_mqr ?_ | refine le_mq ?_ | exact rfl | exact trivial | exact le_nbys | refine ⟨?_, ?_⟩ | fail)); first | done | fail) trivial rfl (by (repeat' (first | exact trivial | exact .inr rfl | exact .inl rfl | refine ⟨?_, ?_⟩ | fail)); first | done | fail) ?_ | fail) | ((with_reducible refine isT ?_); first | refine sh_callT (hc) [] (by (repeat' (first | exact le_mq0 rfl | exact le_mq0r rfl | refine le_mqr ?_ | refine le_mq ?_ | exact rfl | exact trivial | exact le_nbys | refine ⟨?_, ?_⟩ | fail)); first | done | fail) trivial rfl (by (repeat' (first | exact trivial | exact .inr rfl | exact .inl rfl | refine ⟨?_, ?_⟩ | fail)); first | done | fail) ?_ | refine sh_callT (hcl) [] (by (repeat' (first | exact le_mq0 rfl | exact le_mq0r rfl | refine le_mqr ?_ | refine le_mq ?_ | exact rfl | exact trivial | exact le_nbys | refine ⟨?_, ?_⟩ | fail)); first | done | fail) trivial rfl (by (repeat' (first | exact trivial | exact .inr rfl | exact .inl rfl | refine ⟨?_, ?_⟩ | fail)); first | done | fail) ?_ | fail) | ((with_reducible refine isE ?_); refine endA (by first | exact rfl | (simp only [go_sem, seval]; exact rfl) | (simp only [go_sem, seval]; done)) ?_ (by (repeat' (first | exact trivial | exact rfl | refine ⟨_, rfl, ?_⟩ | refine ⟨?_, ?_⟩ | fail)); first | done | fail) rfl rfl; (repeat' (first | exact le_mq0 rfl | exact le_mq0r rfl | refine le_mqr ?_ | refine le_mq ?_ | exact trivial | refine le_int ?_ | refine le_bool ?_ | refine le_str ?_ | refine le_sl ?_ | refine le_own ?_ | refine le_osl ?_ | refine le_nsl ?_ | exact rfl | refine ⟨?_, ?_⟩ | fail))) | ((with_reducible refine isI ?_ ?_); (kernel_rfl)) | fail)
theorem gTypeI (b : List UInt8) (n : Nat) (c : UInt8) (hb : b.length < 4096) (hn : n ≤ b.length) : GoodI Tryd.prog Γ 17 [lA b n, .int .i64 4096, .bool false, .int .u8 c.toNat] [] (fun off => .tup [.agg [.bsl 0 (off 0) 1 (b.length + 1), .int .i64 (n + 1 : Nat)], .bool true]) (fun off => [(0, .box (jk (off 0) (b.take n ++ [c] ++ b.drop n)) false)]) := by
  have hl : (b.take n ++ [c] ++ b.drop n).length = b.length + 1 := by rw [List.length_append, List.length_append, List.length_take, List.length_drop, List.length_cons, List.length_nil]; omega
  have h := gTypeO (Γ := Γ) b n c hb hn
  generalize b.take n ++ [c] ++ b.drop n = d at h hl
  rw [← hl]
  have hd : d ≠ [] := fun e => by rw [e] at hl; simp at hl
  have := good_thaw (S := [(0, 1, bys d)]) rfl (r' := fun off => .tup [.agg [.bsl 0 (off 0) 1 d.length, .int .i64 (n + 1 : Nat)], .bool true]) (fun p hp => by
      rw [List.mem_singleton] at hp
      subst hp
      refine ⟨rfl, fun e => ?_, by simp [owns, ownsL]⟩
      have := congrArg List.length (bys_cells d)
      rw [List.length_map] at this
      simp only [e, List.length_nil, bq, List.length_map] at this
      exact hd (List.eq_nil_of_length_eq_zero this.symm)) (fun p hp => by
      rw [List.mem_singleton] at hp
      subst hp
      exact bys_plain d) (fun off => by simp [Th, Ths, bys_length]) rfl (fun off m hm => by
      have hm : m = 0 := by simpa [AV.names, namesL] using hm
      subst hm
      simp [posts, memL]) h
  have hp : posts [(0, 1, bys d)] = fun off => [(0, .box (jk (off 0) d) false)] := funext (posts_one 0 d)
  rw [hp] at this
  exact this
theorem xor_u8 (a : UInt8) : ((u8 (a.toNat : Int) ^^^ u8 255).toNat : Int) = ((a ^^^ 255).toNat : Int) := by rw [u8_to]; rfl
set_option maxHeartbeats 4000000 in
theorem gLKeeps (b : List UInt8) (n : Int) (c : UInt8) (f : Int) : Good Tryd.prog Γ 5 [lA b n, .int .u8 c.toNat, .int .i64 f] [] (.ret (.bool true)) [] := by
  have h0 := gFewL (Γ := Γ) b n
  generalize (if (200 < b.length ∧ b.length < 4000) ∨ 4100 < b.length then b.take 200 else b) = a at h0
  have hck := gLCheck (Γ := Γ) a n
  by_cases hm : mayL a n
  · rw [if_pos hm] at hck
    obtain ⟨hb, h1, h2⟩ := hm
    obtain ⟨k, rfl⟩ : ∃ k : Nat, n = k := ⟨n.toNat, by omega⟩
    have hn : k ≤ a.length := by omega
    obtain ⟨e, p, dn, hdo, hdn⟩ : ∃ (e : List UInt8) (p : Nat) (dn : Bool), Good Tryd.prog Γ 13 [lA a k, .int .i64 f] [] (.ret (.tup [lA e p, .bool dn])) [] ∧ (dn = false → e = a) ∧ e.length ≤ 100000 := by
      have hg := gDo (Γ := Γ) a k f hb hn
      unfold doR at hg
      split at hg
      · rename_i c m h
        obtain ⟨h3, _⟩ := doV_le hn h
        exact ⟨c, m, true, hg, fun h => (by cases h), by omega⟩
      · exact ⟨a, k, false, hg, fun _ => rfl, by omega⟩
    obtain ⟨hdn, hel⟩ := hdn
    by_cases hroom : a.length < 4096
    · have hty := gTypeI (Γ := Γ) a k c hroom hn
      generalize hd : a.take k ++ [c] ++ a.drop k = d at hty
      have hdl : d.length = a.length + 1 := by rw [← hd, List.length_append, List.length_append, List.length_take, List.length_drop, List.length_cons, List.length_nil]; omega
      clear hd
      refine sh_start mixed F5 rfl ⟨(by first | exact rfl | (simp only [go_sem, seval]; done) | (simp only [go_sem, seval]; exact rfl)), (by first | exact rfl | (simp only [go_sem, seval]; done) | (simp only [go_sem, seval]; exact rfl)), (by first | exact rfl | (simp only [go_sem, seval]; done) | (simp only [go_sem, seval]; exact rfl)), (by first | exact rfl | (simp only [go_sem, seval]; done) | (simp only [go_sem, seval]; exact rfl)), (by first | exact rfl | (simp only [go_sem, seval]; done) | (simp only [go_sem, seval]; exact rfl))⟩ ?_
      repeat' (first | (with_reducible exact trivial) | simp (maxSteps := 2000000) (disch := omega) only [go_sem, seval] | ((with_reducible refine isS ?_); first | refine sh_call (h0) [] (by (repeat' (first | exact le_mq0 rfl | exact le_mq0r rfl | refine le_mqr ?_ | refine le_mq ?_ | exact rfl | exact trivial | exact le_nbys | refine ⟨?_, ?_⟩ | fail)); first | done | fail) trivial rfl (by (repeat' (first | exact trivial | exact .inr rfl | exact .inl rfl | refine ⟨?_, ?_⟩ | fail)); first | done | fail) ?_ | fail) | ((with_reducible refine isS ?_); refine sh_callI hty [] (by (repeat' (first | exact le_mq0 rfl | exact le_mq0r rfl | refine le_mqr ?_ | refine le_mq ?_ | exact rfl | exact trivial | exact le_nbys | refine ⟨?_, ?_⟩ | fail)); first | done | fail) trivial (fun _ => rfl) (fun _ => ⟨.inr rfl, trivial⟩) (fun off => ?_)) | ((with_reducible refine isI ?_ ?_); (kernel_rfl)) | fail)
      generalize off 0 = o
      repeat' (first | (with_reducible exact trivial) | simp (maxSteps := 2000000) (disch := omega) only [go_sem, seval] | ((with_reducible refine isS ?_); first | refine sh_call (hdo) [] (by (repeat' (first | exact le_mq0 rfl | exact le_mq0r rfl | refine le_mqr ?_ | refine le_mq ?_ | exact rfl | exact trivial | exact le_nbys | refine ⟨?_, ?_⟩ | fail)); first | done | fail) trivial rfl (by (repeat' (first | exact trivial | exact .inr rfl | exact .inl rfl | refine ⟨?_, ?_⟩ | fail)); first | done | fail) ?_ | refine sh_call (hck) [] (by (repeat' (first | exact le_mq0 rfl | exact le_mq0r rfl | refine le_mqr ?_ | refine le_mq ?_ | exact rfl | exact trivial | exact le_nbys | refine ⟨?_, ?_⟩ | fail)); first | done | fail) trivial rfl (by (repeat' (first | exact trivial | exact .inr rfl | exact .inl rfl | refine ⟨?_, ?_⟩ | fail)); first | done | fail) ?_ | fail) | ((with_reducible refine isI ?_ ?_); (kernel_rfl)) | fail)
      refine sh_loopX mixed (fun x : Nat × List UInt8 => ([(3, .ptr 0 0), (7, .p (.s (.string ⟨a.toArray⟩))), (8, .ptr 1 0), (10, .ptr 3 0), (11, .bool dn), (12, .p (.s (.string ⟨e.toArray⟩))), (41, .int .i64 ((a.length + 1 : Nat) : Int)), (42, .int .i64 x.1)],
        [(0, .box [.sl 1 (bys a), .int .i64 k] false), (1, .box [.bsl 2 o 1 (a.length + 1), .int .i64 ((k + 1 : Nat) : Int)] false), (2, .box (jk o x.2) false), (3, .box [.sl 1 (bys e), .int .i64 p] false)])) (fun x => a.length + 1 - x.1)
        (fun x => x.1 ≤ a.length + 1 ∧ x.2.length = a.length + 1) (0, d) ⟨Nat.zero_le _, hdl⟩ (sh_weakA (by first | exact rfl | (simp only [go_sem, seval]; exact rfl) | (simp only [go_sem, seval]; done)) (by (repeat' (first | exact le_mq0 rfl | exact le_mq0r rfl | refine le_mqr ?_ | refine le_mq ?_ | exact trivial | exact rfl | refine le_int ?_ | refine le_bool ?_ | refine le_str ?_ | refine le_sl ?_ | refine le_own ?_ | refine le_osl ?_ | refine le_nsl ?_ | refine ⟨_, rfl, ?_⟩ | refine ⟨?_, ?_⟩ | (first | exact le_jkr rfl | omega; done) | fail)); first | done | fail) (by (repeat' (first | exact le_mq0 rfl | exact le_mq0r rfl | refine le_mqr ?_ | refine le_mq ?_ | exact trivial | exact rfl | refine le_int ?_ | refine le_bool ?_ | refine le_str ?_ | refine le_sl ?_ | refine le_own ?_ | refine le_osl ?_ | refine le_nsl ?_ | refine ⟨_, rfl, ?_⟩ | refine ⟨?_, ?_⟩ | (first | exact le_jkr rfl | omega; done) | fail)); first | done | fail) rfl (by first | exact rfl | (simp only [go_sem, seval]; done) | (simp only [go_sem, seval]; exact rfl)) (by first | exact rfl | (simp only [go_sem, seval]; done) | (simp only [go_sem, seval]; exact rfl)) rfl (by first | exact rfl | (simp only [go_sem, seval]; done) | (simp only [go_sem, seval]; exact rfl))) ?_
      rintro ⟨i, L⟩ ⟨hi, hL⟩
      simp only at hi hL
      by_cases hl : i < a.length + 1
      · have hg := jk_get (o := o) (l := L) (i := i) (by omega)
        have hs := jk_set (o := o) (l := L) (i := i) (y := L.getD i 0 ^^^ 255) (by omega)
        repeat' (first | (with_reducible exact trivial) | simp (maxSteps := 2000000) (disch := omega) only [Int.toNat_natCast, Nat.mul_one, hg, bin_xor8, xor_u8, hs, jk_len, hL, go_sem, seval] | ((with_reducible refine isI ?_ ?_); (kernel_rfl)) | fail)
        exact ⟨(i + 1, L.set i (L.getD i 0 ^^^ 255)), by simp only; omega, ⟨by simp only; omega, by simp only [List.length_set]; exact hL⟩, (sh_weakA (by first | exact rfl | (simp only [go_sem, seval]; exact rfl) | (simp only [go_sem, seval]; done)) (by (repeat' (first | exact le_mq0 rfl | exact le_mq0r rfl | refine le_mqr ?_ | refine le_mq ?_ | exact trivial | exact rfl | refine le_int ?_ | refine le_bool ?_ | refine le_str ?_ | refine le_sl ?_ | refine le_own ?_ | refine le_osl ?_ | refine le_nsl ?_ | refine ⟨_, rfl, ?_⟩ | refine ⟨?_, ?_⟩ | (first | exact le_jkr rfl | omega; done) | fail)); first | done | fail) (by (repeat' (first | exact le_mq0 rfl | exact le_mq0r rfl | refine le_mqr ?_ | refine le_mq ?_ | exact trivial | exact rfl | refine le_int ?_ | refine le_bool ?_ | refine le_str ?_ | refine le_sl ?_ | refine le_own ?_ | refine le_osl ?_ | refine le_nsl ?_ | refine ⟨_, rfl, ?_⟩ | refine ⟨?_, ?_⟩ | (first | exact le_jkr rfl | omega; done) | fail)); first | done | fail) rfl (by first | exact rfl | (simp only [go_sem, seval]; done) | (simp only [go_sem, seval]; exact rfl)) (by first | exact rfl | (simp only [go_sem, seval]; done) | (simp only [go_sem, seval]; exact rfl)) rfl (by first | exact rfl | (simp only [go_sem, seval]; done) | (simp only [go_sem, seval]; exact rfl)))⟩
      · cases dn
        · rw [hdn rfl]
          repeat' (first | (with_reducible exact trivial) | simp (maxSteps := 2000000) (disch := omega) only [go_sem, seval] | ((with_reducible refine isS ?_); first | refine sh_call (gAwakeL) [] (by (repeat' (first | exact le_mq0 rfl | exact le_mq0r rfl | refine le_mqr ?_ | refine le_mq ?_ | exact rfl | exact trivial | exact le_nbys | refine ⟨?_, ?_⟩ | fail)); first | done | fail) trivial rfl (by (repeat' (first | exact trivial | exact .inr rfl | exact .inl rfl | refine ⟨?_, ?_⟩ | fail)); first | done | fail) ?_ | fail) | ((with_reducible refine isE ?_); refine endA (by first | exact rfl | (simp only [go_sem, seval]; exact rfl) | (simp only [go_sem, seval]; done)) ?_ (by (repeat' (first | exact trivial | exact rfl | refine ⟨_, rfl, ?_⟩ | refine ⟨?_, ?_⟩ | fail)); first | done | fail) rfl rfl; (repeat' (first | exact le_mq0 rfl | exact le_mq0r rfl | refine le_mqr ?_ | refine le_mq ?_ | exact trivial | refine le_int ?_ | refine le_bool ?_ | refine le_str ?_ | refine le_sl ?_ | refine le_own ?_ | refine le_osl ?_ | refine le_nsl ?_ | exact rfl | refine ⟨?_, ?_⟩ | fail))) | ((with_reducible refine isI ?_ ?_); (kernel_rfl)) | fail)
        · repeat' (first | (with_reducible exact trivial) | simp (maxSteps := 2000000) (disch := omega) only [go_sem, seval] | ((with_reducible refine isS ?_); first | refine sh_call (gAwakeL) [] (by (repeat' (first | exact le_mq0 rfl | exact le_mq0r rfl | refine le_mqr ?_ | refine le_mq ?_ | exact rfl | exact trivial | exact le_nbys | refine ⟨?_, ?_⟩ | fail)); first | done | fail) trivial rfl (by (repeat' (first | exact trivial | exact .inr rfl | exact .inl rfl | refine ⟨?_, ?_⟩ | fail)); first | done | fail) ?_ | fail) | ((with_reducible refine isE ?_); refine endA (by first | exact rfl | (simp only [go_sem, seval]; exact rfl) | (simp only [go_sem, seval]; done)) ?_ (by (repeat' (first | exact trivial | exact rfl | refine ⟨_, rfl, ?_⟩ | refine ⟨?_, ?_⟩ | fail)); first | done | fail) rfl rfl; (repeat' (first | exact le_mq0 rfl | exact le_mq0r rfl | refine le_mqr ?_ | refine le_mq ?_ | exact trivial | refine le_int ?_ | refine le_bool ?_ | refine le_str ?_ | refine le_sl ?_ | refine le_own ?_ | refine le_osl ?_ | refine le_nsl ?_ | exact rfl | refine ⟨?_, ?_⟩ | fail))) | ((with_reducible refine isI ?_ ?_); (kernel_rfl)) | fail)
    · have hty := gType (Γ := Γ) a k 4096 false c hb hn
      rw [show typeR a k 4096 false c = .tup [lA a k, .bool false] by unfold typeR typeV; rw [if_neg (by simp), if_pos (by omega)]] at hty
      refine sh_start mixed F5 rfl ⟨(by first | exact rfl | (simp only [go_sem, seval]; done) | (simp only [go_sem, seval]; exact rfl)), (by first | exact rfl | (simp only [go_sem, seval]; done) | (simp only [go_sem, seval]; exact rfl)), (by first | exact rfl | (simp only [go_sem, seval]; done) | (simp only [go_sem, seval]; exact rfl)), (by first | exact rfl | (simp only [go_sem, seval]; done) | (simp only [go_sem, seval]; exact rfl)), (by first | exact rfl | (simp only [go_sem, seval]; done) | (simp only [go_sem, seval]; exact rfl))⟩ ?_
      cases dn
      · rw [hdn rfl] at hdo
        repeat' (first | (with_reducible exact trivial) | simp (maxSteps := 2000000) (disch := omega) only [go_sem, seval] | ((with_reducible refine isS ?_); first | refine sh_call (h0) [] (by (repeat' (first | exact le_mq0 rfl | exact le_mq0r rfl | refine le_mqr ?_ | refine le_mq ?_ | exact rfl | exact trivial | exact le_nbys | refine ⟨?_, ?_⟩ | fail)); first | done | fail) trivial rfl (by (repeat' (first | exact trivial | exact .inr rfl | exact .inl rfl | refine ⟨?_, ?_⟩ | fail)); first | done | fail) ?_ | refine sh_call (hty) [] (by (repeat' (first | exact le_mq0 rfl | exact le_mq0r rfl | refine le_mqr ?_ | refine le_mq ?_ | exact rfl | exact trivial | exact le_nbys | refine ⟨?_, ?_⟩ | fail)); first | done | fail) trivial rfl (by (repeat' (first | exact trivial | exact .inr rfl | exact .inl rfl | refine ⟨?_, ?_⟩ | fail)); first | done | fail) ?_ | refine sh_call (hdo) [] (by (repeat' (first | exact le_mq0 rfl | exact le_mq0r rfl | refine le_mqr ?_ | refine le_mq ?_ | exact rfl | exact trivial | exact le_nbys | refine ⟨?_, ?_⟩ | fail)); first | done | fail) trivial rfl (by (repeat' (first | exact trivial | exact .inr rfl | exact .inl rfl | refine ⟨?_, ?_⟩ | fail)); first | done | fail) ?_ | refine sh_call (hck) [] (by (repeat' (first | exact le_mq0 rfl | exact le_mq0r rfl | refine le_mqr ?_ | refine le_mq ?_ | exact rfl | exact trivial | exact le_nbys | refine ⟨?_, ?_⟩ | fail)); first | done | fail) trivial rfl (by (repeat' (first | exact trivial | exact .inr rfl | exact .inl rfl | refine ⟨?_, ?_⟩ | fail)); first | done | fail) ?_ | refine sh_call (gAwakeL) [] (by (repeat' (first | exact le_mq0 rfl | exact le_mq0r rfl | refine le_mqr ?_ | refine le_mq ?_ | exact rfl | exact trivial | exact le_nbys | refine ⟨?_, ?_⟩ | fail)); first | done | fail) trivial rfl (by (repeat' (first | exact trivial | exact .inr rfl | exact .inl rfl | refine ⟨?_, ?_⟩ | fail)); first | done | fail) ?_ | fail) | ((with_reducible refine isE ?_); refine endA (by first | exact rfl | (simp only [go_sem, seval]; exact rfl) | (simp only [go_sem, seval]; done)) ?_ (by (repeat' (first | exact trivial | exact rfl | refine ⟨_, rfl, ?_⟩ | refine ⟨?_, ?_⟩ | fail)); first | done | fail) rfl rfl; (repeat' (first | exact le_mq0 rfl | exact le_mq0r rfl | refine le_mqr ?_ | refine le_mq ?_ | exact trivial | refine le_int ?_ | refine le_bool ?_ | refine le_str ?_ | refine le_sl ?_ | refine le_own ?_ | refine le_osl ?_ | refine le_nsl ?_ | exact rfl | refine ⟨?_, ?_⟩ | fail))) | ((with_reducible refine isI ?_ ?_); (kernel_rfl)) | fail)
      · repeat' (first | (with_reducible exact trivial) | simp (maxSteps := 2000000) (disch := omega) only [go_sem, seval] | ((with_reducible refine isS ?_); first | refine sh_call (h0) [] (by (repeat' (first | exact le_mq0 rfl | exact le_mq0r rfl | refine le_mqr ?_ | refine le_mq ?_ | exact rfl | exact trivial | exact le_nbys | refine ⟨?_, ?_⟩ | fail)); first | done | fail) trivial rfl (by (repeat' (first | exact trivial | exact .inr rfl | exact .inl rfl | refine ⟨?_, ?_⟩ | fail)); first | done | fail) ?_ | refine sh_call (hty) [] (by (repeat' (first | exact le_mq0 rfl | exact le_mq0r rfl | refine le_mqr ?_ | refine le_mq ?_ | exact rfl | exact trivial | exact le_nbys | refine ⟨?_, ?_⟩ | fail)); first | done | fail) trivial rfl (by (repeat' (first | exact trivial | exact .inr rfl | exact .inl rfl | refine ⟨?_, ?_⟩ | fail)); first | done | fail) ?_ | refine sh_call (hdo) [] (by (repeat' (first | exact le_mq0 rfl | exact le_mq0r rfl | refine le_mqr ?_ | refine le_mq ?_ | exact rfl | exact trivial | exact le_nbys | refine ⟨?_, ?_⟩ | fail)); first | done | fail) trivial rfl (by (repeat' (first | exact trivial | exact .inr rfl | exact .inl rfl | refine ⟨?_, ?_⟩ | fail)); first | done | fail) ?_ | refine sh_call (hck) [] (by (repeat' (first | exact le_mq0 rfl | exact le_mq0r rfl | refine le_mqr ?_ | refine le_mq ?_ | exact rfl | exact trivial | exact le_nbys | refine ⟨?_, ?_⟩ | fail)); first | done | fail) trivial rfl (by (repeat' (first | exact trivial | exact .inr rfl | exact .inl rfl | refine ⟨?_, ?_⟩ | fail)); first | done | fail) ?_ | refine sh_call (gAwakeL) [] (by (repeat' (first | exact le_mq0 rfl | exact le_mq0r rfl | refine le_mqr ?_ | refine le_mq ?_ | exact rfl | exact trivial | exact le_nbys | refine ⟨?_, ?_⟩ | fail)); first | done | fail) trivial rfl (by (repeat' (first | exact trivial | exact .inr rfl | exact .inl rfl | refine ⟨?_, ?_⟩ | fail)); first | done | fail) ?_ | fail) | ((with_reducible refine isE ?_); refine endA (by first | exact rfl | (simp only [go_sem, seval]; exact rfl) | (simp only [go_sem, seval]; done)) ?_ (by (repeat' (first | exact trivial | exact rfl | refine ⟨_, rfl, ?_⟩ | refine ⟨?_, ?_⟩ | fail)); first | done | fail) rfl rfl; (repeat' (first | exact le_mq0 rfl | exact le_mq0r rfl | refine le_mqr ?_ | refine le_mq ?_ | exact trivial | refine le_int ?_ | refine le_bool ?_ | refine le_str ?_ | refine le_sl ?_ | refine le_own ?_ | refine le_osl ?_ | refine le_nsl ?_ | exact rfl | refine ⟨?_, ?_⟩ | fail))) | ((with_reducible refine isI ?_ ?_); (kernel_rfl)) | fail)
  · rw [if_neg hm] at hck
    refine sh_start mixed F5 rfl ⟨(by first | exact rfl | (simp only [go_sem, seval]; done) | (simp only [go_sem, seval]; exact rfl)), (by first | exact rfl | (simp only [go_sem, seval]; done) | (simp only [go_sem, seval]; exact rfl)), (by first | exact rfl | (simp only [go_sem, seval]; done) | (simp only [go_sem, seval]; exact rfl)), (by first | exact rfl | (simp only [go_sem, seval]; done) | (simp only [go_sem, seval]; exact rfl)), (by first | exact rfl | (simp only [go_sem, seval]; done) | (simp only [go_sem, seval]; exact rfl))⟩ ?_
    repeat' (first | (with_reducible exact trivial) | simp (maxSteps := 2000000) (disch := omega) only [go_sem, seval] | ((with_reducible refine isS ?_); first | refine sh_call (h0) [] (by (repeat' (first | exact le_mq0 rfl | exact le_mq0r rfl | refine le_mqr ?_ | refine le_mq ?_ | exact rfl | exact trivial | exact le_nbys | refine ⟨?_, ?_⟩ | fail)); first | done | fail) trivial rfl (by (repeat' (first | exact trivial | exact .inr rfl | exact .inl rfl | refine ⟨?_, ?_⟩ | fail)); first | done | fail) ?_ | refine sh_call (hck) [] (by (repeat' (first | exact le_mq0 rfl | exact le_mq0r rfl | refine le_mqr ?_ | refine le_mq ?_ | exact rfl | exact trivial | exact le_nbys | refine ⟨?_, ?_⟩ | fail)); first | done | fail) trivial rfl (by (repeat' (first | exact trivial | exact .inr rfl | exact .inl rfl | refine ⟨?_, ?_⟩ | fail)); first | done | fail) ?_ | refine sh_call (gTypeNo a n 4096 false c hm) [] (by (repeat' (first | exact le_mq0 rfl | exact le_mq0r rfl | refine le_mqr ?_ | refine le_mq ?_ | exact rfl | exact trivial | exact le_nbys | refine ⟨?_, ?_⟩ | fail)); first | done | fail) trivial rfl (by (repeat' (first | exact trivial | exact .inr rfl | exact .inl rfl | refine ⟨?_, ?_⟩ | fail)); first | done | fail) ?_ | refine sh_call (gDoNo a n f hm) [] (by (repeat' (first | exact le_mq0 rfl | exact le_mq0r rfl | refine le_mqr ?_ | refine le_mq ?_ | exact rfl | exact trivial | exact le_nbys | refine ⟨?_, ?_⟩ | fail)); first | done | fail) trivial rfl (by (repeat' (first | exact trivial | exact .inr rfl | exact .inl rfl | refine ⟨?_, ?_⟩ | fail)); first | done | fail) ?_ | refine sh_call (gAwakeL) [] (by (repeat' (first | exact le_mq0 rfl | exact le_mq0r rfl | refine le_mqr ?_ | refine le_mq ?_ | exact rfl | exact trivial | exact le_nbys | refine ⟨?_, ?_⟩ | fail)); first | done | fail) trivial rfl (by (repeat' (first | exact trivial | exact .inr rfl | exact .inl rfl | refine ⟨?_, ?_⟩ | fail)); first | done | fail) ?_ | fail) | ((with_reducible refine isE ?_); refine endA (by first | exact rfl | (simp only [go_sem, seval]; exact rfl) | (simp only [go_sem, seval]; done)) ?_ (by (repeat' (first | exact trivial | exact rfl | refine ⟨_, rfl, ?_⟩ | refine ⟨?_, ?_⟩ | fail)); first | done | fail) rfl rfl; (repeat' (first | exact le_mq0 rfl | exact le_mq0r rfl | refine le_mqr ?_ | refine le_mq ?_ | exact trivial | refine le_int ?_ | refine le_bool ?_ | refine le_str ?_ | refine le_sl ?_ | refine le_own ?_ | refine le_osl ?_ | refine le_nsl ?_ | exact rfl | refine ⟨?_, ?_⟩ | fail))) | ((with_reducible refine isI ?_ ?_); (kernel_rfl)) | fail)
end Go.Proofs.YthigibfnpfamdaaDoor
