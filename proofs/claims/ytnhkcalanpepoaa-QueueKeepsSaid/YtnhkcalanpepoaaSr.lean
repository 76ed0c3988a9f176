/- Regions that draw their order: where what is not ordered is apart, the text's order is enough. Own work. -/
import Derived.Test.YtnhkcalanpepoaaSq
namespace Go.Shade
open Go

def LS.conf (s s' : LS) : Prop := (∃ d, s.c.dst = some d ∧ (s'.c.dst = some d ∨ d ∈ s'.c.rd)) ∨ (∃ d, s'.c.dst = some d ∧ d ∈ s.c.rd) ∨ (∃ n ∈ s.W, n ∈ s'.F) ∨ ∃ n ∈ s'.W, n ∈ s.F

/-- What holds behind those of S, in the text's order. -/
def foldS (S : Nat → Prop) [DecidablePred S] : Nat → List LS → EM → EM
  | _, [], e => e
  | k, s :: l, e => foldS S (k + 1) l (if S k then s.next e else e)

section
variable {P : Program} {Γ : Globs}

theorem next_env_other {s : LS} {e : EM} {x : Nat} (h : s.c.dst ≠ some x) : (s.next e).1 x = e.1 x := by
  simp only [LS.next]
  cases hd : s.c.dst with
  | none => rfl
  | some d => exact upd_ne _ _ (fun h' => h (by rw [hd, h']))
theorem next_mem_other {s : LS} {e : EM} {n : Nat} (h : n ∉ s.W) : (s.next e).2 n = e.2 n := by
  simp only [LS.next, overM, if_neg h]
theorem next_env_congr {s : LS} {e e' : EM} {x : Nat} (h : e'.1 x = e.1 x) : (s.next e').1 x = (s.next e).1 x := by
  simp only [LS.next]
  cases hd : s.c.dst with
  | none => exact h
  | some d =>
    simp only [putE, upd]
    split
    · rfl
    · exact h
theorem next_mem_congr {s : LS} {e e' : EM} {n : Nat} (h : e'.2 n = e.2 n) : (s.next e').2 n = (s.next e).2 n := by
  simp only [LS.next, overM]
  split
  · rfl
  · exact h

theorem next_comm {s s' : LS} (hs : ∀ n ∈ s.W, n ∈ s.F) (hc : ¬ s.conf s') (e : EM) : s.next (s'.next e) = s'.next (s.next e) := by
  have h1 : ∀ d, s.c.dst = some d → s'.c.dst ≠ some d := fun d hd hd' => hc (.inl ⟨d, hd, .inl hd'⟩)
  have h2 : ∀ n ∈ s.W, n ∉ s'.W := fun n hn hn' => hc (.inr (.inr (.inr ⟨n, hn', hs n hn⟩)))
  apply Prod.ext
  · funext x
    by_cases hx : s.c.dst = some x
    · have hx' := h1 x hx
      rw [next_env_other hx']
      simp only [LS.next, hx, putE, upd_same]
    · rw [next_env_other hx]
      exact next_env_congr (next_env_other hx).symm
  · funext n
    by_cases hn : n ∈ s.W
    · rw [next_mem_other (h2 n hn)]
      simp only [LS.next, overM, if_pos hn]
    · rw [next_mem_other hn]
      exact next_mem_congr (next_mem_other hn).symm

variable {S S' : Nat → Prop} [DecidablePred S] [DecidablePred S']

theorem foldS_next {s : LS} (hs : ∀ n ∈ s.W, n ∈ s.F) : ∀ (l : List LS) (k : Nat) (e : EM), (∀ j s', l[j]? = some s' → S (k + j) → ¬ s.conf s') → foldS S k l (s.next e) = s.next (foldS S k l e)
  | [], _, _, _ => rfl
  | s' :: l, k, e, h => by
    simp only [foldS]
    have ih := fun e => foldS_next hs l (k + 1) e (fun j t ht hS => h (j + 1) t (by simpa using ht) (by rw [show k + (j + 1) = k + 1 + j by omega]; exact hS))
    split
    · rename_i hk
      rw [← ih, next_comm hs (h 0 s' rfl hk)]
    · rw [← ih]

/-- One more. -/
theorem foldS_add {i : Nat} : ∀ (l : List LS) (k j : Nat) (s : LS) (e : EM), l[j]? = some s → i = k + j → ¬ S i → (∀ n, S' n ↔ (n = i ∨ S n)) → (∀ n ∈ s.W, n ∈ s.F) → (∀ j' s', l[j']? = some s' → j < j' → S (k + j') → ¬ s.conf s') →
    foldS S' k l e = s.next (foldS S k l e)
  | [], _, _, _, _, h, _, _, _, _, _ => by simp at h
  | s' :: l, k, 0, s, e, h, hi, hn, hS, hs, hc => by
    simp only [List.getElem?_cons_zero, Option.some.injEq] at h
    subst h
    have hik : i = k := by omega
    subst hik
    simp only [foldS]
    rw [if_pos ((hS _).2 (.inl rfl)), if_neg hn]
    rw [← foldS_next hs l _ e (fun j t ht hSj => hc (j + 1) t (by simpa using ht) (by omega) (by rw [show i + (j + 1) = i + 1 + j by omega]; exact hSj))]
    have same : ∀ (l : List LS) (k' : Nat) (e : EM), i < k' → foldS S' k' l e = foldS S k' l e := by
      intro l
      induction l with
      | nil => intro k' e _; rfl
      | cons t l ih =>
        intro k' e hk'
        simp only [foldS]
        have : S' k' ↔ S k' := ⟨fun h => ((hS k').1 h).resolve_left (by omega), fun h => (hS k').2 (.inr h)⟩
        by_cases hk : S k'
        · rw [if_pos hk, if_pos (this.2 hk), ih _ _ (by omega)]
        · rw [if_neg hk, if_neg (fun h => hk (this.1 h)), ih _ _ (by omega)]
    exact same l (i + 1) _ (by omega)
  | s' :: l, k, j + 1, s, e, h, hi, hn, hS, hs, hc => by
    simp only [foldS]
    have : S' k ↔ S k := ⟨fun h => ((hS k).1 h).resolve_left (by omega), fun h => (hS k).2 (.inr h)⟩
    have ih := fun e => foldS_add l (k + 1) j s e (by simpa using h) (by omega) hn hS hs (fun j' t ht hj hSj => hc (j' + 1) t (by simpa using ht) (by omega) (by rw [show k + (j' + 1) = k + 1 + j' by omega]; exact hSj))
    by_cases hk : S k
    · rw [if_pos hk, if_pos (this.2 hk), ih]
    · rw [if_neg hk, if_neg (fun h => hk (this.1 h)), ih]

/-- Where only such as do not write it turn. -/
theorem foldS_env {x : Nat} : ∀ (l : List LS) (k : Nat) (e e' : EM), e'.1 x = e.1 x → (∀ j s, l[j]? = some s → ¬ (S (k + j) ↔ S' (k + j)) → s.c.dst ≠ some x) → (foldS S' k l e').1 x = (foldS S k l e).1 x
  | [], _, _, _, h, _ => h
  | s :: l, k, e, e', h, hw => by
    simp only [foldS]
    refine foldS_env l (k + 1) _ _ ?_ (fun j t ht hS => hw (j + 1) t (by simpa using ht) (by rw [show k + (j + 1) = k + 1 + j by omega]; exact hS))
    by_cases h1 : S k <;> by_cases h2 : S' k <;> simp only [h1, h2, if_true, if_false]
    · exact next_env_congr h
    · rw [next_env_other (hw 0 s rfl (by simp [h1, h2]))]; exact h
    · rw [next_env_other (hw 0 s rfl (by simp [h1, h2]))]; exact h
    · exact h
theorem foldS_mem {x : Nat} : ∀ (l : List LS) (k : Nat) (e e' : EM), e'.2 x = e.2 x → (∀ j s, l[j]? = some s → ¬ (S (k + j) ↔ S' (k + j)) → x ∉ s.W) → (foldS S' k l e').2 x = (foldS S k l e).2 x
  | [], _, _, _, h, _ => h
  | s :: l, k, e, e', h, hw => by
    simp only [foldS]
    refine foldS_mem l (k + 1) _ _ ?_ (fun j t ht hS => hw (j + 1) t (by simpa using ht) (by rw [show k + (j + 1) = k + 1 + j by omega]; exact hS))
    by_cases h1 : S k <;> by_cases h2 : S' k <;> simp only [h1, h2, if_true, if_false]
    · exact next_mem_congr h
    · rw [next_mem_other (hw 0 s rfl (by simp [h1, h2]))]; exact h
    · rw [next_mem_other (hw 0 s rfl (by simp [h1, h2]))]; exact h
    · exact h

theorem locs_at : ∀ {l : List LS} {e : EM}, Locs P Γ l e → ∀ (j : Nat) (s : LS) (k : Nat), l[j]? = some s → ∃ e', Loc P Γ e' s ∧ ∀ (S : Nat → Prop) [DecidablePred S], (∀ n, S n ↔ n < k + j) → e' = foldS S k l e
  | [], _, _, j, s, _, h => by simp at h
  | s' :: l, e, hL, 0, s, k, h => by
    simp only [List.getElem?_cons_zero, Option.some.injEq] at h
    subst h
    refine ⟨e, hL.1, fun S _ hS => ?_⟩
    have none : ∀ (l : List LS) (k' : Nat) (e : EM), k ≤ k' → foldS S k' l e = e := by
      intro l
      induction l with
      | nil => intro _ _ _; rfl
      | cons t l ih =>
        intro k' e hk
        simp only [foldS]
        rw [if_neg (fun h => by have := (hS k').1 h; omega), ih _ _ (by omega)]
    exact (none (s' :: l) k e (Nat.le_refl _)).symm
  | s' :: l, e, hL, j + 1, s, k, h => by
    obtain ⟨e', h1, h2⟩ := locs_at hL.2 j s (k + 1) (by simpa using h)
    refine ⟨e', h1, fun S _ hS => ?_⟩
    rw [h2 S (fun n => by rw [hS n]; omega)]
    simp only [foldS]
    rw [if_pos ((hS k).2 (by omega))]

theorem thro_fold (S : Nat → Prop) [DecidablePred S] : ∀ (l : List LS) (k : Nat) (e : EM), (∀ n, n < k + l.length → S n) → thro l e = foldS S k l e
  | [], _, _, _ => rfl
  | s :: l, k, e, h => by
    simp only [thro, foldS]
    rw [if_pos (h k (by simp))]
    exact thro_fold S l (k + 1) _ (fun n hn => h n (by simp; omega))

/-! ### Which are not ordered -/
def masks (acc : List Nat) : List (List Nat) → List Nat
  | [] => acc
  | b :: r => masks (acc ++ [b.foldl (fun m k => m ||| 2 ^ k ||| acc.getD k 0) 0]) r
def down (bef : List (List Nat)) (S : Nat → Prop) : Prop := ∀ j b, bef[j]? = some b → S j → ∀ k ∈ b, S k

theorem fold_bits (acc : List Nat) : ∀ (b : List Nat) (m i : Nat), (b.foldl (fun m k => m ||| 2 ^ k ||| acc.getD k 0) m).testBit i = true → m.testBit i = true ∨ ∃ k ∈ b, i = k ∨ (acc.getD k 0).testBit i = true
  | [], m, i, h => .inl h
  | k :: b, m, i, h => by
    rw [List.foldl_cons] at h
    rcases fold_bits acc b _ i h with h | ⟨k', hk', h⟩
    · rw [Nat.testBit_or, Nat.testBit_or, Nat.testBit_two_pow] at h
      simp only [Bool.or_eq_true, decide_eq_true_eq] at h
      rcases h with (h | h) | h
      · exact .inl h
      · exact .inr ⟨k, by simp, .inl h.symm⟩
      · exact .inr ⟨k, by simp, .inr h⟩
    · exact .inr ⟨k', by simp [hk'], h⟩

theorem masks_sound (T : Nat → Prop) (bef : List (List Nat)) (hT : down bef T) : ∀ (r : List (List Nat)) (acc : List Nat), (∀ i, r[i]? = bef[acc.length + i]?) → (∀ j i, T j → (acc.getD j 0).testBit i = true → T i) →
    ∀ j i, T j → ((masks acc r).getD j 0).testBit i = true → T i
  | [], acc, _, hacc => hacc
  | b :: r, acc, hr, hacc => by
    rw [masks]
    refine masks_sound T bef hT r _ (fun i => ?_) (fun j i hj h => ?_)
    · have := hr (i + 1)
      rw [List.getElem?_cons_succ] at this
      rw [this]
      simp only [List.length_append, List.length_cons, List.length_nil]
      congr 1
      omega
    · by_cases hlt : j < acc.length
      · rw [List.getD_eq_getElem?_getD, List.getElem?_append_left hlt, ← List.getD_eq_getElem?_getD] at h
        exact hacc j i hj h
      · by_cases heq : j = acc.length
        · subst heq
          rw [List.getD_eq_getElem?_getD, List.getElem?_append_right (Nat.le_refl _)] at h
          simp only [Nat.sub_self, List.getElem?_cons_zero, Option.getD_some] at h
          have hb : bef[acc.length]? = some b := by have := hr 0; simpa using this.symm
          rcases fold_bits acc b 0 i h with h | ⟨k, hk, h⟩
          · simp at h
          · have hTk := hT _ _ hb hj k hk
            rcases h with rfl | h
            · exact hTk
            · exact hacc k i hTk h
        · rw [List.getD_eq_getElem?_getD, List.getElem?_append_right (by omega)] at h
          have : j - acc.length = (j - acc.length - 1) + 1 := by omega
          rw [this] at h
          simp at h

/-- Slots and names: those of an operation. -/
structure Tch where
  rd : List Nat
  dst : Option Nat
  F : List Nat
  W : List Nat
def hasD (d : Option Nat) (l : List Nat) : Bool := match d with
  | some d => l.contains d
  | none => false
def Tch.confB (s s' : Tch) : Bool := (s.dst.isSome && s.dst == s'.dst) || hasD s.dst s'.rd || hasD s'.dst s.rd || s.W.any (fun n => s'.F.contains n) || s'.W.any (fun n => s.F.contains n)
def LS.tch (s : LS) : Tch := ⟨s.c.rd, s.c.dst, s.F, s.W⟩
theorem hasD_spec {d : Option Nat} {l : List Nat} : hasD d l = true ↔ ∃ x, d = some x ∧ x ∈ l := by
  cases d with
  | none => simp [hasD]
  | some d => simp [hasD]
theorem conf_spec {s s' : LS} (h : s.tch.confB s'.tch = false) : ¬ s.conf s' := by
  intro hc
  simp only [Tch.confB, LS.tch, Bool.or_eq_false_iff] at h
  obtain ⟨⟨⟨⟨h1, h2⟩, h3⟩, h4⟩, h5⟩ := h
  rcases hc with ⟨d, hd, h | h⟩ | ⟨d, hd, h⟩ | ⟨n, hn, h⟩ | ⟨n, hn, h⟩
  · simp [hd, h] at h1
  · rw [(hasD_spec).2 ⟨d, hd, h⟩] at h2; cases h2
  · rw [(hasD_spec).2 ⟨d, hd, h⟩] at h3; cases h3
  · have := (List.any_eq_false.1 h4) n hn; simp [h] at this
  · have := (List.any_eq_false.1 h5) n hn; simp [h] at this

def apartB (ms : List Nat) (ts : List Tch) : Bool := ts.zipIdx.all fun (t, j) => (ts.take j).zipIdx.all fun (s, i) => (ms.getD j 0).testBit i || !s.confB t
def tches : List CO → List (List Nat × List Nat) → List Tch
  | c :: l, f :: r => ⟨c.rd, c.dst, f.1, f.2⟩ :: tches l r
  | _, _ => []
def indep (l : List CO) (bef : List (List Nat)) (tr : List (List Nat × List Nat)) : Bool :=
  bef.zipIdx.all (fun ((b, j) : List Nat × Nat) => b.all fun (k : Nat) => decide (k < j)) && apartB (masks [] bef) (tches l tr.reverse)

theorem tches_ls : ∀ (ss : List LS), tches (ss.map LS.c) (ss.map fun s => (s.F, s.W)) = ss.map LS.tch
  | [] => rfl
  | s :: ss => by simp [tches, LS.tch, tches_ls ss]

theorem indep_spec {ss : List LS} {bef : List (List Nat)} (h : indep (ss.map LS.c) bef ((ss.map fun s => (s.F, s.W)).reverse) = true) :
    (∀ (j : Nat) b, bef[j]? = some b → ∀ k ∈ b, k < j) ∧ ∀ T : Nat → Prop, down bef T → ∀ (i j : Nat) (s t : LS), ss[i]? = some s → ss[j]? = some t → i < j → T j → T i ∨ ¬ s.conf t := by
  simp only [indep, Bool.and_eq_true, List.reverse_reverse, tches_ls, apartB] at h
  obtain ⟨h1, h2⟩ := h
  refine ⟨fun j b hb k hk => ?_, fun T hT i j s t hs ht hij hTj => ?_⟩
  · have := List.all_eq_true.1 h1 (b, j) (List.mem_zipIdx_iff_getElem?.2 (by simpa using hb))
    have := List.all_eq_true.1 this k hk
    simpa using this
  · have h3 := List.all_eq_true.1 h2 (t.tch, j) (List.mem_zipIdx_iff_getElem?.2 (by simp [ht]))
    have h4 := List.all_eq_true.1 h3 (s.tch, i) (List.mem_zipIdx_iff_getElem?.2 (by simp [hij, hs]))
    simp only [Bool.or_eq_true, Bool.not_eq_true'] at h4
    rcases h4 with h4 | h4
    · exact .inl (masks_sound T bef hT bef [] (fun i => by simp) (fun j i _ h => by simp at h) j i hTj h4)
    · exact .inr (conf_spec h4)
end
end Go.Shade
