/- Layer 15: talks, in plain Lean. Own work. -/
import Derived.Test.YtmkblhinpnodaaaDoorFa
namespace Go.Proofs.YtmkblhinpnodaaaDoor
open Go Go.Shade
structure Tk where
  s : Ed
  h : Bool
deriving DecidableEq
def Tk.zero : Tk := ⟨.zero, false⟩
/-- What is passed on when it is asked for. -/
def passV (t : Tbl) (k : Tk) : Tk × List UInt8 := if k.h = true then (⟨k.s, false⟩, renewV t k.s) else (k, [])
/-- Is the key held? -/
def holdsV (k : Tk) (edit : Bool) (l : List Ev) : Prop := edit = true ∧ (k.h = true ∨ k.s = .zero) ∧ l = []
instance (k : Tk) (edit : Bool) (l : List Ev) : Decidable (holdsV k edit l) := inferInstanceAs (Decidable (_ ∧ _))
/-- The signal that a key is. -/
def sigK (t : Tbl) (s : Ed) (c : UInt8) : Nat := if s.l = false ∧ meaning t c ≤ 9 then meaning t c else 0
/-- A key is typed: the talk, the keys that are passed on, the signal, the bell. -/
def typeK (t : Tbl) (room : Int) (k : Tk) (c : UInt8) (edit fwd : Bool) : Tk × List UInt8 × Nat × Bool :=
  if holdsV k edit (keyV t room k.s c).2.1 then
    if fwd = true ∧ (keyV t room k.s c).1 ≠ .zero then (⟨(keyV t room k.s c).1, false⟩, renewV t (keyV t room k.s c).1, 0, (keyV t room k.s c).2.2) else (⟨(keyV t room k.s c).1, true⟩, [], 0, (keyV t room k.s c).2.2)
  else (⟨(keyV t room k.s c).1, false⟩, (if k.h = true then renewV t k.s else []) ++ [c], sigK t k.s c, (keyV t room k.s c).2.2)
theorem typeK_s (t : Tbl) (room : Int) (k : Tk) (c : UInt8) (edit fwd : Bool) : (typeK t room k c edit fwd).1.s = (keyV t room k.s c).1 ∧ (typeK t room k c edit fwd).2.2.2 = (keyV t room k.s c).2.2 := by
  unfold typeK
  split
  · split <;> exact ⟨rfl, rfl⟩
  · exact ⟨rfl, rfl⟩
theorem passV_s (t : Tbl) (k : Tk) : (passV t k).1.s = k.s ∧ (passV t k).1.h = false := by
  unfold passV
  split
  · exact ⟨rfl, rfl⟩
  · next h => exact ⟨rfl, by simpa using h⟩
theorem renew_len_le {t : Tbl} {room : Int} {s : Ed} (h : Rch t room s) : (renewV t s).length ≤ 12290 := by
  have h1 := (renew_len t s h.ok.2).2
  have h2 := h.ok.1
  omega
/-- Where the far end is. -/
def farV (k : Tk) : Ed := if k.h = true then .zero else k.s
/-- What is passed on brings the far end there. -/
theorem pass_far {t : Tbl} {room : Int} {k : Tk} (hr : Rch t room k.s) : playV t room (farV k) (passV t k).2 = (farV (passV t k).1, [], 0) := by
  unfold passV farV
  by_cases h : k.h = true
  · rw [if_pos h, if_pos h]
    exact renew_play hr
  · rw [if_neg h, if_neg h]
    simp only [if_neg h]
    rfl
theorem type_far {t : Tbl} {room : Int} {k : Tk} (hr : Rch t room k.s) (c : UInt8) (edit fwd : Bool) :
    (playV t room (farV k) (typeK t room k c edit fwd).2.1).1 = farV (typeK t room k c edit fwd).1 ∧ (playV t room (farV k) (typeK t room k c edit fwd).2.1).2.1 = (keyV t room k.s c).2.1 := by
  have hn := rch_key (k := c) hr
  unfold typeK
  by_cases hh : holdsV k edit (keyV t room k.s c).2.1
  · rw [if_pos hh]
    obtain ⟨_, h2, h3⟩ := hh
    have hf : farV k = .zero := by
      unfold farV
      by_cases h : k.h = true
      · rw [if_pos h]
      · rw [if_neg h]; exact h2.resolve_left h
    rw [hf, h3]
    by_cases hw : fwd = true ∧ (keyV t room k.s c).1 ≠ .zero
    · rw [if_pos hw]
      simp only
      rw [renew_play hn]
      exact ⟨rfl, rfl⟩
    · rw [if_neg hw]
      exact ⟨rfl, rfl⟩
  · rw [if_neg hh]
    simp only
    have hp : playV t room (farV k) (if k.h = true then renewV t k.s else []) = (k.s, [], 0) := by
      unfold farV
      by_cases h : k.h = true
      · rw [if_pos h, if_pos h]; exact renew_play hr
      · rw [if_neg h, if_neg h]; rfl
    rw [play_append, hp]
    simp [playV, farV]
theorem rch_passV {t : Tbl} {room : Int} {k : Tk} (hr : Rch t room k.s) : Rch t room (passV t k).1.s := by rw [(passV_s t k).1]; exact hr
theorem rch_typeK {t : Tbl} {room : Int} {k : Tk} (hr : Rch t room k.s) (c : UInt8) (edit fwd : Bool) : Rch t room (typeK t room k c edit fwd).1.s := by rw [(typeK_s t room k c edit fwd).1]; exact rch_key hr
/-- Both: passed on first, if so, and typed then. -/
theorem both_far {t : Tbl} {room : Int} {k : Tk} (hr : Rch t room k.s) (c : UInt8) (edit fwd : Bool) :
    (playV t room (farV k) ((passV t k).2 ++ (typeK t room (passV t k).1 c edit fwd).2.1)).1 = farV (typeK t room (passV t k).1 c edit fwd).1 ∧
    (playV t room (farV k) ((passV t k).2 ++ (typeK t room (passV t k).1 c edit fwd).2.1)).2.1 = (keyV t room k.s c).2.1 := by
  have h := type_far (rch_passV hr) c edit fwd
  rw [(passV_s t k).1] at h
  rw [play_append, pass_far hr]
  simp only [List.nil_append]
  exact h
/-- Keys that are passed on with a signal. -/
theorem sig_type {t : Tbl} {room : Int} {k : Tk} (hr : Rch t room k.s) (c : UInt8) (edit fwd : Bool) (h : (typeK t room k c edit fwd).2.2.1 ≠ 0) :
    ∃ f : Nat, (typeK t room k c edit fwd).2.2.1 = f ∧ 1 ≤ f ∧ f ≤ 9 ∧ ∃ a, (typeK t room k c edit fwd).2.1 = a ++ [c] ∧ playV t room (farV k) a = (k.s, [], 0) ∧ keyV t room k.s c = ((sigV k.s f).1, [(sigV k.s f).2], false) := by
  unfold typeK at h ⊢
  by_cases hh : holdsV k edit (keyV t room k.s c).2.1
  · rw [if_pos hh] at h
    split at h <;> exact absurd rfl h
  · rw [if_neg hh] at h ⊢
    simp only at h ⊢
    unfold sigK at h ⊢
    by_cases hs : k.s.l = false ∧ meaning t c ≤ 9
    · rw [if_pos hs] at h ⊢
      refine ⟨meaning t c, rfl, by omega, hs.2, _, rfl, ?_, ?_⟩
      · unfold farV
        by_cases h : k.h = true
        · rw [if_pos h, if_pos h]; exact renew_play hr
        · rw [if_neg h, if_neg h]; rfl
      · unfold keyV meanV
        rw [if_neg (by rw [hs.1]; simp), if_neg (by omega), if_neg (by omega), if_pos hs.2]
    · rw [if_neg hs] at h
      exact absurd rfl h
end Go.Proofs.YtmkblhinpnodaaaDoor
