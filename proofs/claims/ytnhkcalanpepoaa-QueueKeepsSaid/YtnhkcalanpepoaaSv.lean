/- Evaluation of code; calls and ends by lists of names. Own work. -/
import Derived.Test.YtnhkcalanpepoaaSu
namespace Go.Shade
open Go

/-! ### Comparing -/
def LeP : PV → PV → Prop
  | .s (.slice none 0 0), .sl _ xs => xs = []
  | x, y => x = y
mutual
def LeA : AV → AV → Prop
  | _, .junk => True
  | .own _ sz xs, .p (.sl sz' ys) => sz = sz' ∧ xs = ys
  | .agg cs, .agg ds => LeAs cs ds
  | .tup cs, .tup ds => LeAs cs ds
  | .p x, .p y => LeP x y
  | a, b => a = b
def LeAs : List AV → List AV → Prop
  | [], [] => True
  | a :: as, b :: bs => LeA a b ∧ LeAs as bs
  | _, _ => False
end

theorem leP_sound {U : Nat → Option Nat} {h : Array Obj} {x y : PV} (hl : LeP x y) {v : Value} (hr : PR U h x v) : PR U h y v := by
  unfold LeP at hl
  split at hl
  · rename_i sz xs
    subst hl
    cases hr with
    | s =>
      refine .sl (fun _ => undef) rfl (Nat.le_refl _) (Nat.zero_le _) (Nat.zero_le _) (by simp) (fun h => absurd h (by simp)) (by simp)
  · subst hl; exact hr
mutual
theorem leA_sound : ∀ {a b : AV}, LeA a b → a.Le b
  | a, .junk, _ => le_junk a
  | .own t sz xs, .p (.sl sz' ys), h => by
    rw [LeA] at h
    obtain ⟨rfl, rfl⟩ := h
    intro g H v hv
    cases hv with
    | own hr _ => exact .p hr
  | .agg cs, .agg ds, h => by
    rw [LeA] at h
    obtain ⟨h1, h2⟩ := leAs_sound h
    intro g H v hv
    cases hv with
    | agg hl hr =>
      refine .agg (by rw [← h1]; exact hl) (fun i b v hb hv => ?_)
      have hlt : i < cs.length := by rw [h1]; exact (List.getElem?_eq_some_iff.1 hb).1
      exact h2 i _ b (List.getElem?_eq_getElem hlt) hb g H v (hr i _ v (List.getElem?_eq_getElem hlt) hv)
  | .tup cs, .tup ds, h => by
    rw [LeA] at h
    obtain ⟨h1, h2⟩ := leAs_sound h
    intro g H v hv
    cases hv with
    | tup hl hr =>
      refine .tup (by rw [← h1]; exact hl) (fun i b v hb hv => ?_)
      have hlt : i < cs.length := by rw [h1]; exact (List.getElem?_eq_some_iff.1 hb).1
      exact h2 i _ b (List.getElem?_eq_getElem hlt) hb g H v (hr i _ v (List.getElem?_eq_getElem hlt) hv)
  | .p x, .p y, h => by
    have h : LeP x y := by
      cases x <;> cases y <;> simpa only [LeA] using h
    intro g H v hv
    cases hv with
    | p hr => exact .p (leP_sound h hr)
  | .own t sz xs, .p (.s v), h => by rw [LeA] at h; cases h; all_goals simp
  | .own t sz xs, .own .., h => by rw [LeA] at h; rw [h]; exact .refl _; all_goals simp
  | .own t sz xs, .agg _, h => by rw [LeA] at h; cases h; all_goals simp
  | .own t sz xs, .tup _, h => by rw [LeA] at h; cases h; all_goals simp
  | .own t sz xs, .ptr .., h => by rw [LeA] at h; cases h; all_goals simp
  | .own t sz xs, .cptr _, h => by rw [LeA] at h; cases h; all_goals simp
  | .own t sz xs, .bsl .., h => by rw [LeA] at h; cases h; all_goals simp
  | .own t sz xs, .cmap .., h => by rw [LeA] at h; cases h; all_goals simp
  | .agg cs, .bsl .., h => by rw [LeA] at h; cases h; all_goals simp
  | .agg cs, .cmap .., h => by rw [LeA] at h; cases h; all_goals simp
  | .tup cs, .bsl .., h => by rw [LeA] at h; cases h; all_goals simp
  | .tup cs, .cmap .., h => by rw [LeA] at h; cases h; all_goals simp
  | .p x, .bsl .., h => by rw [LeA] at h; cases h; all_goals simp
  | .p x, .cmap .., h => by rw [LeA] at h; cases h; all_goals simp
  | .own t sz xs, .fn .., h => by rw [LeA] at h; cases h; all_goals simp
  | .agg cs, .p _, h => by rw [LeA] at h; cases h; all_goals simp
  | .agg cs, .own .., h => by rw [LeA] at h; cases h; all_goals simp
  | .agg cs, .tup _, h => by rw [LeA] at h; cases h; all_goals simp
  | .agg cs, .ptr .., h => by rw [LeA] at h; cases h; all_goals simp
  | .agg cs, .cptr _, h => by rw [LeA] at h; cases h; all_goals simp
  | .agg cs, .fn .., h => by rw [LeA] at h; cases h; all_goals simp
  | .tup cs, .p _, h => by rw [LeA] at h; cases h; all_goals simp
  | .tup cs, .own .., h => by rw [LeA] at h; cases h; all_goals simp
  | .tup cs, .agg _, h => by rw [LeA] at h; cases h; all_goals simp
  | .tup cs, .ptr .., h => by rw [LeA] at h; cases h; all_goals simp
  | .tup cs, .cptr _, h => by rw [LeA] at h; cases h; all_goals simp
  | .tup cs, .fn .., h => by rw [LeA] at h; cases h; all_goals simp
  | .p x, .own .., h => by rw [LeA] at h; cases h; all_goals simp
  | .p x, .agg _, h => by rw [LeA] at h; cases h; all_goals simp
  | .p x, .tup _, h => by rw [LeA] at h; cases h; all_goals simp
  | .p x, .ptr .., h => by rw [LeA] at h; cases h; all_goals simp
  | .p x, .cptr _, h => by rw [LeA] at h; cases h; all_goals simp
  | .p x, .fn .., h => by rw [LeA] at h; cases h; all_goals simp
  | .ptr .., b, h => by cases b <;> first | exact le_junk _ | (rw [LeA] at h; (first | (rw [h]; exact .refl _) | cases h); all_goals simp)
  | .cptr .., b, h => by cases b <;> first | exact le_junk _ | (rw [LeA] at h; (first | (rw [h]; exact .refl _) | cases h); all_goals simp)
  | .fn .., b, h => by cases b <;> first | exact le_junk _ | (rw [LeA] at h; (first | (rw [h]; exact .refl _) | cases h); all_goals simp)
  | .bsl .., b, h => by cases b <;> first | exact le_junk _ | (rw [LeA] at h; (first | (rw [h]; exact .refl _) | cases h); all_goals simp)
  | .cmap _, b, h => by cases b <;> first | exact le_junk _ | (rw [LeA] at h; (first | (rw [h]; exact .refl _) | cases h); all_goals simp)
  | .junk, b, h => by cases b <;> first | exact le_junk _ | (rw [LeA] at h; (first | (rw [h]; exact .refl _) | cases h); all_goals simp)
theorem leAs_sound : ∀ {as bs : List AV}, LeAs as bs → LeL as bs
  | [], [], _ => .refl _
  | a :: as, b :: bs, h => by
    rw [LeAs] at h
    obtain ⟨h1, h2⟩ := leAs_sound h.2
    refine ⟨by simp [h1], fun i x y hx hy => ?_⟩
    cases i with
    | zero => simp at hx hy; subst hx; subst hy; exact leA_sound h.1
    | succ i => exact h2 i x y (by simpa using hx) (by simpa using hy)
  | [], _ :: _, h => by rw [LeAs] at h; exact h.elim; all_goals simp
  | _ :: _, [], h => by rw [LeAs] at h; exact h.elim; all_goals simp
end
end Go.Shade
