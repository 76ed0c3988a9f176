/- Layer 22: the document's way to read a step: how long it is, and what it says. Plain law. Own work. -/
import Derived.Test.YtlijecknkpcgfaaDoorVp
namespace Go.Proofs.YtlijecknkpcgfaaDoor
open Go Go.Shade
def tabL : List Nat := [2, 3, 3, 2, 0, 5, 0, 42]
def longV : List UInt8 → Nat
  | [] => 0
  | c :: r => if 7 < c.toNat then 0 else if c.toNat = 4 ∧ 0 < r.length ∧ (r.getD 0 0).toNat = 0 then 2 else if c.toNat = 4 ∧ 1 < r.length ∧ (r.getD 0 0).toNat = 1 then 3 + (r.getD 1 0).toNat
    else if c.toNat = 6 ∧ 0 < r.length then 2 + (r.getD 0 0).toNat else tabL.getD c.toNat 0
def ofR (c : UInt8) (r : List UInt8) : Stp :=
  if c.toNat = 0 then { zS 0 with k := r.getD 0 0 } else if c.toNat = 1 then { zS 1 with who := (r.getD 0 0).toNat, n := (r.getD 1 0).toNat }
  else if c.toNat = 2 then { zS 2 with who := ((r.getD 0 0).toNat % 2 : Nat), n := (r.getD 1 0).toNat, him := decide ((r.getD 0 0).toNat / 2 % 2 = 1), on := decide ((r.getD 0 0).toNat / 4 % 2 = 1) }
  else if c.toNat = 3 then { zS 3 with n := (r.getD 0 0).toNat }
  else if c.toNat = 4 then (if (r.getD 0 0).toNat = 1 then { zS 4 with on := true, m := if (r.drop 2).length ≤ 32 then padM (r.drop 2) else .zero } else zS 4)
  else if c.toNat = 5 then { zS 5 with who := (r.getD 0 0).toNat, t := match getT (r.drop 1) with | some (t :: _) => t | _ => .zero }
  else if c.toNat = 6 then { zS 6 with b := r.drop 1 }
  else if c.toNat = 7 then { zS 7 with n := (r.getD 0 0).toNat, w0 := wAt (r.drop 1) 0, w1 := wAt (r.drop 1) 8, w2 := wAt (r.drop 1) 16, w3 := wAt (r.drop 1) 24, draw := wAt (r.drop 1) 32 }
  else zS c.toNat
def ofV : List UInt8 → Stp
  | [] => zS 0
  | c :: r => ofR c r
/-- A step that may be is as long as its octets say. -/
theorem long_lay {s : Stp} (h : mayV s) (r : List UInt8) : longV (layS s ++ r) = (layS s).length := by
  obtain ⟨_, hf⟩ := h
  have key : ∀ k : Nat, s.kind = k → k < 256 → (u8 s.kind).toNat = k := fun k e hk => by rw [e]; have := u8_int (n := k) (by omega) (by omega); omega
  unfold layS
  rw [List.cons_append, longV]
  rcases hf with (hk | hk) | ⟨hk, _⟩ | ⟨hk, _⟩ | ⟨hk, _⟩ | ⟨hk, _⟩ | ⟨hk, h3⟩ | ⟨hk, _⟩
  · rw [key 0 hk (by omega), show layR s = [s.k] by rw [layR, if_pos hk]]; simp [tabL]
  · rw [key 4 hk (by omega), show layR s = lay4 s by rw [layR, if_neg (by omega), if_neg (by omega), if_neg (by omega), if_neg (by omega), if_pos hk], lay4]
    cases ho : s.on
    · simp
    · have hl := trm_len s.m
      have e : (UInt8.ofNat (trm s.m).length).toNat = (trm s.m).length := u8_natv (by omega)
      simp [e]
      omega
  · rw [key 1 hk (by omega), show layR s = [u8 s.who, u8 s.n] by rw [layR, if_neg (by omega), if_pos hk]]; simp [tabL]
  · rw [key 2 hk (by omega), show layR s = [u8 (s.who + (if s.him = true then 2 else 0) + (if s.on = true then 4 else 0)), u8 s.n] by rw [layR, if_neg (by omega), if_neg (by omega), if_pos hk]]; simp [tabL]
  · rw [key 3 hk (by omega), show layR s = [u8 s.n] by rw [layR, if_neg (by omega), if_neg (by omega), if_neg (by omega), if_pos hk]]; simp [tabL]
  · rw [key 5 hk (by omega), show layR s = u8 s.who :: putT [s.t] by rw [layR, if_neg (by omega), if_neg (by omega), if_neg (by omega), if_neg (by omega), if_neg (by omega), if_pos hk]]; simp [tabL, putT]
  · rw [key 6 hk (by omega), show layR s = UInt8.ofNat s.b.length :: s.b by rw [layR, if_neg (by omega), if_neg (by omega), if_neg (by omega), if_neg (by omega), if_neg (by omega), if_neg (by omega), if_pos hk]]
    have e : (UInt8.ofNat s.b.length).toNat = s.b.length := u8_natv (by omega)
    simp [e]
    omega
  · rw [key 7 hk (by omega), show layR s = u8 s.n :: (wl s ++ o8 s.draw) by rw [layR, if_neg (by omega), if_neg (by omega), if_neg (by omega), if_neg (by omega), if_neg (by omega), if_neg (by omega), if_neg (by omega)]]
    simp [tabL, wl_len, o8_len]
/-- What may be, laid, says what it was. -/
theorem of_lay {s : Stp} (h : mayV s) (hi : inS s) : ofV (layS s) = s := by
  obtain ⟨hp, hf⟩ := h
  have key : ∀ k : Nat, s.kind = k → k < 256 → (u8 s.kind).toNat = k := fun k e hk => by rw [e]; have := u8_int (n := k) (by omega) (by omega); omega
  unfold partS at hp
  rcases hf with (hk | hk) | ⟨hk, ⟨h1, h2⟩, h3, h4⟩ | ⟨hk, ⟨h1, h2⟩, h3, h4⟩ | ⟨hk, h3, h4⟩ | ⟨hk, ⟨h1, h2⟩, h3⟩ | ⟨hk, h3⟩ | ⟨hk, ⟨h1, h2⟩, c0, c1, c2, c3⟩
  · rw [layS, show layR s = [s.k] by rw [layR, if_pos hk], ofV, ofR, key 0 hk (by omega), if_pos rfl]
    rw [if_pos hk] at hp
    exact hp.symm
  · rw [layS, show layR s = lay4 s by rw [layR, if_neg (by omega), if_neg (by omega), if_neg (by omega), if_neg (by omega), if_pos hk], ofV, ofR, key 4 hk (by omega), if_neg (by omega), if_neg (by omega), if_neg (by omega), if_neg (by omega), if_pos rfl]
    rw [if_neg (by omega), if_neg (by omega), if_neg (by omega), if_neg (by omega), if_pos hk] at hp
    cases ho : s.on
    · rw [ho] at hp
      rw [lay4, ho, if_neg (by simp)]
      exact hp.symm
    · rw [ho] at hp
      have hl := trm_len s.m
      rw [lay4, ho, if_pos rfl, if_pos (by rfl)]
      simp only [List.drop_succ_cons, List.drop_zero]
      rw [if_pos hl, show padM (trm s.m) = s.m from pad_trim s.m]
      exact hp.symm
  · rw [layS, show layR s = [u8 s.who, u8 s.n] by rw [layR, if_neg (by omega), if_pos hk], ofV, ofR, key 1 hk (by omega), if_neg (by omega), if_pos rfl]
    rw [if_neg (by omega), if_pos hk] at hp
    have e1 := u8_int h1 (by omega)
    have e2 := u8_int h3 h4
    simp only [List.getD_cons_zero, List.getD_cons_succ, e1, e2]
    exact hp.symm
  · rw [layS, show layR s = [u8 (s.who + (if s.him = true then 2 else 0) + (if s.on = true then 4 else 0)), u8 s.n] by rw [layR, if_neg (by omega), if_neg (by omega), if_pos hk], ofV, ofR, key 2 hk (by omega), if_neg (by omega), if_neg (by omega), if_pos rfl]
    rw [if_neg (by omega), if_neg (by omega), if_pos hk] at hp
    obtain ⟨t1, t2, t3, t4⟩ := two_bits s.who h1 h2 s.him s.on
    have e2 := u8_int h3 (by omega)
    simp only [List.getD_cons_zero, List.getD_cons_succ, t2, t3, t4, e2]
    exact hp.symm
  · rw [layS, show layR s = [u8 s.n] by rw [layR, if_neg (by omega), if_neg (by omega), if_neg (by omega), if_pos hk], ofV, ofR, key 3 hk (by omega), if_neg (by omega), if_neg (by omega), if_neg (by omega), if_pos rfl]
    rw [if_neg (by omega), if_neg (by omega), if_neg (by omega), if_pos hk] at hp
    have e2 := u8_int h3 h4
    simp only [List.getD_cons_zero, e2]
    exact hp.symm
  · rw [layS, show layR s = u8 s.who :: putT [s.t] by rw [layR, if_neg (by omega), if_neg (by omega), if_neg (by omega), if_neg (by omega), if_neg (by omega), if_pos hk], ofV, ofR, key 5 hk (by omega), if_neg (by omega), if_neg (by omega), if_neg (by omega), if_neg (by omega), if_neg (by omega), if_pos rfl]
    rw [if_neg (by omega), if_neg (by omega), if_neg (by omega), if_neg (by omega), if_neg (by omega), if_pos hk] at hp
    have e1 := u8_int h1 (by omega)
    have eg : getT (putT [s.t]) = some [s.t] := by
      show getT [u8 s.t.f, mk s.t, s.t.v] = _
      rw [getT_one, if_pos (mk_back s.t h3).1, trip_mk s.t h3]
    simp only [List.getD_cons_zero, e1, List.drop_succ_cons, List.drop_zero, eg]
    exact hp.symm
  · rw [layS, show layR s = UInt8.ofNat s.b.length :: s.b by rw [layR, if_neg (by omega), if_neg (by omega), if_neg (by omega), if_neg (by omega), if_neg (by omega), if_neg (by omega), if_pos hk], ofV, ofR, key 6 hk (by omega), if_neg (by omega), if_neg (by omega), if_neg (by omega), if_neg (by omega), if_neg (by omega), if_neg (by omega), if_pos rfl]
    rw [if_neg (by omega), if_neg (by omega), if_neg (by omega), if_neg (by omega), if_neg (by omega), if_neg (by omega), if_pos hk] at hp
    simp only [List.drop_succ_cons, List.drop_zero]
    exact hp.symm
  · rw [layS, show layR s = u8 s.n :: (wl s ++ o8 s.draw) by rw [layR, if_neg (by omega), if_neg (by omega), if_neg (by omega), if_neg (by omega), if_neg (by omega), if_neg (by omega), if_neg (by omega)], ofV, ofR, key 7 hk (by omega), if_neg (by omega), if_neg (by omega), if_neg (by omega), if_neg (by omega), if_neg (by omega), if_neg (by omega), if_neg (by omega), if_pos rfl]
    rw [if_neg (by omega), if_neg (by omega), if_neg (by omega), if_neg (by omega), if_neg (by omega), if_neg (by omega), if_neg (by omega), if_pos hk] at hp
    have e2 := u8_int h1 h2
    obtain ⟨i0, i1, i2, i3, i4⟩ := hi
    simp only [List.getD_cons_zero, e2, List.drop_succ_cons, List.drop_zero]
    unfold wl
    rw [c0, c1, c2, c3]
    have a0 := wAt_o8 (i := 0) i0 [] (o8 s.w1 ++ (o8 s.w2 ++ (o8 s.w3 ++ (o8 s.draw ++ [])))) rfl
    have a1 := wAt_o8 (i := 8) i1 (o8 s.w0) (o8 s.w2 ++ (o8 s.w3 ++ (o8 s.draw ++ []))) rfl
    have a2 := wAt_o8 (i := 16) i2 (o8 s.w0 ++ o8 s.w1) (o8 s.w3 ++ (o8 s.draw ++ [])) rfl
    have a3 := wAt_o8 (i := 24) i3 (o8 s.w0 ++ (o8 s.w1 ++ o8 s.w2)) (o8 s.draw ++ []) rfl
    have a4 := wAt_o8 (i := 32) i4 (o8 s.w0 ++ (o8 s.w1 ++ (o8 s.w2 ++ o8 s.w3))) [] rfl
    simp only [List.append_assoc, List.nil_append, List.append_nil] at a0 a1 a2 a3 a4
    simp only [List.append_assoc, a0, a1, a2, a3, a4]
    exact hp.symm
instance (s : Stp) : Decidable (inS s) := inferInstanceAs (Decidable (_ ∧ _))
/-- The program's way to read a step is the document's. -/
theorem rd_of {b : List UInt8} : rdS b = (if longV b ≠ 0 ∧ longV b ≤ b.length ∧ mayV (ofV (b.take (longV b))) ∧ layS (ofV (b.take (longV b))) = b.take (longV b) ∧ inS (ofV (b.take (longV b))) then some (ofV (b.take (longV b)), b.drop (longV b)) else none) := by
  cases hq : rdS b with
  | some q =>
    obtain ⟨s, r⟩ := q
    obtain ⟨h1, h2, rfl⟩ := lay_rd hq
    have hl := long_lay h1 r
    have hn : 2 ≤ (layS s).length := layS_two
    rw [hl, List.take_left, List.drop_left, of_lay h1 h2, if_pos ⟨by omega, by rw [List.length_append]; omega, h1, rfl, h2⟩]
  | none =>
    rw [if_neg]
    rintro ⟨_, _, h1, h2, h3⟩
    have := rd_lay h1 h3 (b.drop (longV b))
    rw [h2, List.take_append_drop, hq] at this
    cases this
end Go.Proofs.YtlijecknkpcgfaaDoor
