/- Layer 8, as far as it is reached: keys of functions, the standard table, what the document says of meaning. Own work. -/
import Derived.Test.YtmkblhinpnodaaaDoorEa
import Derived.Test.YtmkblhinpnodaaaDoorZ3
namespace Go.Proofs.YtmkblhinpnodaaaDoor
open Go Go.Shade
variable {Γ : Globs}
theorem hit_one {t : Tbl} {k : UInt8} (h13 : ¬ k = 13) {f : Nat} (h : meaning t k = f) (h1 : 1 ≤ f) : f ≤ 30 ∧ hit t k f ∧ ∀ i, 1 ≤ i → i < f → ¬ hit t k i := by
  unfold meaning at h
  rw [if_neg h13] at h
  rcases meanFrom_spec t k 30 (by omega) with ⟨h2, _⟩ | ⟨h2, h3, h4, h5⟩
  · omega
  · rw [h] at h3 h4 h5
    exact ⟨h3, h4, fun i hi => h5 i (by omega)⟩
theorem hit_none {t : Tbl} {k : UInt8} (h : meaning t k = 0) : ∀ i, 1 ≤ i → i ≤ 30 → ¬ hit t k i := by
  unfold meaning at h
  split at h
  · cases h
  rcases meanFrom_spec t k 30 (by omega) with ⟨_, h3⟩ | ⟨h2, h3, h4, h5⟩
  · exact fun i h1 => h3 i (by omega)
  · omega
theorem meaning_le (t : Tbl) (k : UInt8) : meaning t k ≤ 31 := by
  unfold meaning
  split
  · omega
  · rcases meanFrom_spec t k 30 (by omega) with ⟨h2, _⟩ | ⟨h2, h3, _⟩ <;> omega
/-- A key that means a function. -/
def keyOf (t : Tbl) (f : Nat) : Option UInt8 := if f = 31 then some 13 else if f < 1 ∨ 31 ≤ f ∨ t.lv f = 0 ∨ meaning t (t.v f) ≠ f then none else some (t.v f)
theorem keyOf_some {t : Tbl} {f : Nat} {k : UInt8} (h : keyOf t f = some k) : meaning t k = f ∧ 1 ≤ f := by
  unfold keyOf at h
  split at h
  · next h1 => cases h; subst h1; exact ⟨rfl, by omega⟩
  split at h
  · cases h
  · next h2 =>
    cases h
    have h3 := (not_or.1 h2).1
    have h6 := (not_or.1 (not_or.1 (not_or.1 h2).2).2).2
    exact ⟨Decidable.of_not_not h6, by omega⟩
theorem keyOf_of {t : Tbl} {f : Nat} {k : UInt8} (h : meaning t k = f) (h1 : 1 ≤ f) : keyOf t f = some k := by
  by_cases h13 : k = 13
  · subst h13
    have : f = 31 := by rw [← h]; rfl
    subst this
    rfl
  · obtain ⟨h2, h3, _⟩ := hit_one h13 h h1
    obtain ⟨h4, h5⟩ := h3
    unfold keyOf
    rw [if_neg (by omega), if_neg (by rw [h5]; rintro (h | h | h' | h') <;> first | omega | exact h4 h' | exact h' h), h5]
/-- As the two results. -/
def keyR (t : Tbl) (f : Nat) : AV := match keyOf t f with
  | some k => .tup [.int .u8 k.toNat, .bool true]
  | none => .tup [.int .u8 0, .bool false]
theorem gKeyT (t : Tbl) (f : Nat) (hf : f ≤ 31) : Good Tryd.prog Γ 87 [.agg (tq t), .int .i64 f] [] (.ret (keyR t f)) [] := by
  unfold keyR keyOf
  by_cases h31 : f = 31
  · subst h31
    rw [if_pos rfl]
    simp only
    refine sh_start mixed F87 rfl ⟨(by first | exact rfl | (simp only [go_sem, seval]; done) | (simp only [go_sem, seval]; exact rfl)), (by first | exact rfl | (simp only [go_sem, seval]; done) | (simp only [go_sem, seval]; exact rfl)), (by first | exact rfl | (simp only [go_sem, seval]; done) | (simp only [go_sem, seval]; exact rfl)), (by first | exact rfl | (simp only [go_sem, seval]; done) | (simp only [go_sem, seval]; exact rfl)), (by first | exact rfl | (simp only [go_sem, seval]; done) | (simp only [go_sem, seval]; exact rfl))⟩ ?_
    repeat' (first | (with_reducible exact trivial) | simp (maxSteps := 2000000) (disch := omega) only [go_sem, seval] | ((with_reducible refine isE ?_); refine eA ?_; (repeat' (first | exact le_tq0 rfl | exact le_tq0r rfl | refine le_tqr rfl ?_ | refine le_tq rfl ?_ | exact trivial | refine le_int ?_ | refine le_bool ?_ | refine le_str ?_ | refine le_sl ?_ | refine le_own ?_ | refine le_osl ?_ | refine le_nsl ?_ | exact rfl | refine ⟨?_, ?_⟩ | fail))) | ((with_reducible refine isI ?_ ?_); (kernel_rfl)) | fail)
  · rw [if_neg h31]
    by_cases h1 : f < 1
    · rw [if_pos (.inl h1)]
      simp only
      refine sh_start mixed F87 rfl ⟨(by first | exact rfl | (simp only [go_sem, seval]; done) | (simp only [go_sem, seval]; exact rfl)), (by first | exact rfl | (simp only [go_sem, seval]; done) | (simp only [go_sem, seval]; exact rfl)), (by first | exact rfl | (simp only [go_sem, seval]; done) | (simp only [go_sem, seval]; exact rfl)), (by first | exact rfl | (simp only [go_sem, seval]; done) | (simp only [go_sem, seval]; exact rfl)), (by first | exact rfl | (simp only [go_sem, seval]; done) | (simp only [go_sem, seval]; exact rfl))⟩ ?_
      repeat' (first | (with_reducible exact trivial) | simp (maxSteps := 2000000) (disch := omega) only [go_sem, seval] | ((with_reducible refine isE ?_); refine eA ?_; (repeat' (first | exact le_tq0 rfl | exact le_tq0r rfl | refine le_tqr rfl ?_ | refine le_tq rfl ?_ | exact trivial | refine le_int ?_ | refine le_bool ?_ | refine le_str ?_ | refine le_sl ?_ | refine le_own ?_ | refine le_osl ?_ | refine le_nsl ?_ | exact rfl | refine ⟨?_, ?_⟩ | fail))) | ((with_reducible refine isI ?_ ?_); (kernel_rfl)) | fail)
    · have hi : f < 31 := by omega
      have hlv := tq_lv (t := t) hi
      have hv := tq_v (t := t) hi
      by_cases h2 : t.lv f = 0
      · rw [if_pos (.inr (.inr (.inl h2)))]
        simp only
        refine sh_start mixed F87 rfl ⟨(by first | exact rfl | (simp only [go_sem, seval]; done) | (simp only [go_sem, seval]; exact rfl)), (by first | exact rfl | (simp only [go_sem, seval]; done) | (simp only [go_sem, seval]; exact rfl)), (by first | exact rfl | (simp only [go_sem, seval]; done) | (simp only [go_sem, seval]; exact rfl)), (by first | exact rfl | (simp only [go_sem, seval]; done) | (simp only [go_sem, seval]; exact rfl)), (by first | exact rfl | (simp only [go_sem, seval]; done) | (simp only [go_sem, seval]; exact rfl))⟩ ?_
        repeat' (first | (with_reducible exact trivial) | simp (maxSteps := 2000000) (disch := omega) only [Int.toNat_natCast, hlv, h2, go_sem, seval] | ((with_reducible refine isE ?_); refine eA ?_; (repeat' (first | exact le_tq0 rfl | exact le_tq0r rfl | refine le_tqr rfl ?_ | refine le_tq rfl ?_ | exact trivial | refine le_int ?_ | refine le_bool ?_ | refine le_str ?_ | refine le_sl ?_ | refine le_own ?_ | refine le_osl ?_ | refine le_nsl ?_ | exact rfl | refine ⟨?_, ?_⟩ | fail))) | ((with_reducible refine isI ?_ ?_); (kernel_rfl)) | fail)
      · have hm := gMeaning (Γ := Γ) t (t.v f)
        by_cases h3 : meaning t (t.v f) = f
        · rw [if_neg (by rintro (h | h | h' | h') <;> first | omega | exact h2 h' | exact h' h3)]
          rw [h3] at hm
          simp only
          refine sh_start mixed F87 rfl ⟨(by first | exact rfl | (simp only [go_sem, seval]; done) | (simp only [go_sem, seval]; exact rfl)), (by first | exact rfl | (simp only [go_sem, seval]; done) | (simp only [go_sem, seval]; exact rfl)), (by first | exact rfl | (simp only [go_sem, seval]; done) | (simp only [go_sem, seval]; exact rfl)), (by first | exact rfl | (simp only [go_sem, seval]; done) | (simp only [go_sem, seval]; exact rfl)), (by first | exact rfl | (simp only [go_sem, seval]; done) | (simp only [go_sem, seval]; exact rfl))⟩ ?_
          repeat' (first | (with_reducible exact trivial) | simp (maxSteps := 2000000) (disch := omega) only [Int.toNat_natCast, hlv, hv, h2, go_sem, seval] | ((with_reducible refine isS ?_); first | refine cS (hm) ?_ | fail) | ((with_reducible refine isT ?_); first | refine cT (hm) ?_ | fail) | ((with_reducible refine isE ?_); refine eA ?_; (repeat' (first | exact le_tq0 rfl | exact le_tq0r rfl | refine le_tqr rfl ?_ | refine le_tq rfl ?_ | exact trivial | refine le_int ?_ | refine le_bool ?_ | refine le_str ?_ | refine le_sl ?_ | refine le_own ?_ | refine le_osl ?_ | refine le_nsl ?_ | exact rfl | refine ⟨?_, ?_⟩ | fail))) | ((with_reducible refine isI ?_ ?_); (kernel_rfl)) | fail)
        · rw [if_pos (.inr (.inr (.inr h3)))]
          generalize meaning t (t.v f) = m at hm h3
          simp only
          refine sh_start mixed F87 rfl ⟨(by first | exact rfl | (simp only [go_sem, seval]; done) | (simp only [go_sem, seval]; exact rfl)), (by first | exact rfl | (simp only [go_sem, seval]; done) | (simp only [go_sem, seval]; exact rfl)), (by first | exact rfl | (simp only [go_sem, seval]; done) | (simp only [go_sem, seval]; exact rfl)), (by first | exact rfl | (simp only [go_sem, seval]; done) | (simp only [go_sem, seval]; exact rfl)), (by first | exact rfl | (simp only [go_sem, seval]; done) | (simp only [go_sem, seval]; exact rfl))⟩ ?_
          repeat' (first | (with_reducible exact trivial) | simp (maxSteps := 2000000) (disch := omega) only [Int.toNat_natCast, hlv, hv, h2, go_sem, seval] | ((with_reducible refine isS ?_); first | refine cS (hm) ?_ | fail) | ((with_reducible refine isT ?_); first | refine cT (hm) ?_ | fail) | ((with_reducible refine isE ?_); refine eA ?_; (repeat' (first | exact le_tq0 rfl | exact le_tq0r rfl | refine le_tqr rfl ?_ | refine le_tq rfl ?_ | exact trivial | refine le_int ?_ | refine le_bool ?_ | refine le_str ?_ | refine le_sl ?_ | refine le_own ?_ | refine le_osl ?_ | refine le_nsl ?_ | exact rfl | refine ⟨?_, ?_⟩ | fail))) | ((with_reducible refine isI ?_ ?_); (kernel_rfl)) | fail)
/-! The standard table -/
def stdK : List UInt8 := [0, 0, 0, 3, 15, 20, 0, 28, 4, 26, 127, 21, 23, 18, 22, 17, 19, 0, 0, 2, 6, 25, 24, 1, 5, 9, 16, 8, 14, 29, 11]
def stdUp (n : Nat) : Tbl := ⟨((stdK.take n).map fun k => if 0 < k then ((2 : Int), k) else (0, 0)) ++ List.replicate (31 - (stdK.take n).length) (0, 0), by
  rw [List.length_append, List.length_map, List.length_replicate, List.length_take]
  have : stdK.length = 31 := rfl
  omega⟩
def stdT : Tbl := stdUp 31
theorem stdUp_0 : stdUp 0 = .zero := rfl
theorem stdUp_s : ∀ n, n < 31 → (0 < stdK.getD n 0 → ((stdUp n).put n 2 (stdK.getD n 0)).l = (stdUp (n + 1)).l) ∧ (¬ 0 < stdK.getD n 0 → (stdUp n).l = (stdUp (n + 1)).l) := by decide
def ΓT : Globs := fun G => if G = 0 then some (stdK.map fun n => .s (.int .u8 n.toNat)) else none
def stdP : List PV := stdK.map fun n => .s (.int .u8 n.toNat)
theorem evT_0 {env : Nat → AV} : X.ev ΓT env (.g 0) = .cptr stdP := rfl
theorem stdP_len : stdP.length = 31 := rfl
theorem stdP_at {n : Nat} (h : n < 31) : stdP.drop n = .s (.int .u8 (stdK.getD n 0).toNat) :: stdP.drop (n + 1) := by
  rw [List.drop_eq_getElem_cons (show n < stdP.length from h)]
  congr 1
  unfold stdP
  rw [List.getElem_map, List.getD_eq_getElem?_getD, List.getElem?_eq_getElem (show n < stdK.length from h)]
  rfl
theorem pos_u8 (c : UInt8) : ((0 : Int) < (c.toNat : Int)) = (0 < c) := propext ⟨fun h => by
  show (0 : UInt8).toNat < c.toNat
  have : (0 : UInt8).toNat = 0 := rfl
  omega, fun h => by
  have h : (0 : UInt8).toNat < c.toNat := h
  have : (0 : UInt8).toNat = 0 := rfl
  omega⟩
theorem gStandard : Good Tryd.prog ΓT 35 [] [] (.ret (.agg (tq stdT))) [] := by
  refine sh_start mixed F35 rfl ⟨(by first | exact rfl | (simp only [go_sem, seval]; done) | (simp only [go_sem, seval]; exact rfl)), (by first | exact rfl | (simp only [go_sem, seval]; done) | (simp only [go_sem, seval]; exact rfl)), (by first | exact rfl | (simp only [go_sem, seval]; done) | (simp only [go_sem, seval]; exact rfl)), (by first | exact rfl | (simp only [go_sem, seval]; done) | (simp only [go_sem, seval]; exact rfl)), (by first | exact rfl | (simp only [go_sem, seval]; done) | (simp only [go_sem, seval]; exact rfl))⟩ ?_
  repeat' (first | (with_reducible exact trivial) | simp (maxSteps := 2000000) (disch := omega) only [go_sem, seval] | ((with_reducible refine isI ?_ ?_); (kernel_rfl)) | fail)
  refine sh_loopX mixed (fun n : Nat => ([(0, .ptr 0 0), (1, .ptr 1 0), (4, .int .i64 n)], [(0, .box (tq .zero) false), (1, .box (tq (stdUp n)) false)])) (fun n => 31 - n) (fun n => n ≤ 31) 0 (by omega) wkAu ?_
  intro n hn
  by_cases hl : n < 31
  · have hat := stdP_at hl
    obtain ⟨h1, h2⟩ := stdUp_s n hl
    generalize stdK.getD n 0 = k at hat h1 h2
    by_cases hk : 0 < k
    · have hp := tq_put (t := stdUp n) (i := n) (n := 2) (x := k) hl
      rw [Tbl.ext' (h1 hk)] at hp
      repeat' (first | (with_reducible exact trivial) | simp (maxSteps := 2000000) (disch := omega) only [evT_0, hat, pos_u8, hk, Int.toNat_natCast, hp, go_sem, seval] | ((with_reducible refine isI ?_ ?_); (kernel_rfl)) | fail)
      exact ⟨n + 1, by omega, by omega, wkAu⟩
    · have hp : stdUp n = stdUp (n + 1) := Tbl.ext' (h2 hk)
      rw [hp]
      repeat' (first | (with_reducible exact trivial) | simp (maxSteps := 2000000) (disch := omega) only [evT_0, hat, pos_u8, hk, Int.toNat_natCast, go_sem, seval] | ((with_reducible refine isI ?_ ?_); (kernel_rfl)) | fail)
      exact ⟨n + 1, by omega, by omega, wkAu⟩
  · have : n = 31 := by omega
    subst this
    repeat' (first | (with_reducible exact trivial) | simp (maxSteps := 2000000) (disch := omega) only [go_sem, seval] | ((with_reducible refine isE ?_); refine eA ?_; (repeat' (first | exact le_tq0 rfl | exact le_tq0r rfl | refine le_tqr rfl ?_ | refine le_tq rfl ?_ | exact trivial | refine le_int ?_ | refine le_bool ?_ | refine le_str ?_ | refine le_sl ?_ | refine le_own ?_ | refine le_osl ?_ | refine le_nsl ?_ | exact rfl | refine ⟨?_, ?_⟩ | fail))) | ((with_reducible refine isI ?_ ?_); (kernel_rfl)) | fail)
end Go.Proofs.YtmkblhinpnodaaaDoor
