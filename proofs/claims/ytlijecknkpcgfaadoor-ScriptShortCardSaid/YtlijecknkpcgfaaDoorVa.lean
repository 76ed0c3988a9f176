/- Layer 22: scripts: the plain law of what is read and written. Own work. -/
import Derived.Test.YtlijecknkpcgfaaDoorVm
import Derived.Test.YtlijecknkpcgfaaDoorKl
namespace Go.Proofs.YtlijecknkpcgfaaDoor
open Go Go.Shade
/-! ### Numbers of 64 bits, octet by octet -/
def o8 (n : Nat) : List UInt8 := [UInt8.ofNat n, UInt8.ofNat (n / 256), UInt8.ofNat (n / 65536), UInt8.ofNat (n / 16777216), UInt8.ofNat (n / 4294967296), UInt8.ofNat (n / 1099511627776), UInt8.ofNat (n / 281474976710656), UInt8.ofNat (n / 72057594037927936)]
def num8 : List UInt8 → Nat
  | [] => 0
  | c :: r => c.toNat + 256 * num8 r
theorem o8_len (n : Nat) : (o8 n).length = 8 := rfl
theorem num8_o8 {n : Nat} (h : n < 18446744073709551616) : num8 (o8 n) = n := by
  simp only [o8, num8, UInt8.toNat_ofNat']
  omega
theorem num8_lt : ∀ l : List UInt8, num8 l < 256 ^ l.length
  | [] => by simp [num8]
  | c :: r => by
    have h1 := num8_lt r
    have h2 := c.toNat_lt
    rw [num8, List.length_cons, Nat.pow_succ]
    omega
theorem ofNat_mod (c : UInt8) (k : Nat) : UInt8.ofNat (c.toNat + 256 * k) = c := by
  apply UInt8.toNat_inj.1
  rw [UInt8.toNat_ofNat']
  have := c.toNat_lt
  omega
theorem o8_num8 {l : List UInt8} (h : l.length = 8) : o8 (num8 l) = l := by
  match l, h with
  | [a, b, c, d, e, f, g, i], _ =>
    have ha := a.toNat_lt
    have hb := b.toNat_lt
    have hc := c.toNat_lt
    have hd := d.toNat_lt
    have he := e.toNat_lt
    have hf := f.toNat_lt
    have hg := g.toNat_lt
    have hi := i.toNat_lt
    simp only [o8, num8, Nat.mul_zero, Nat.add_zero]
    congr 1
    · exact ofNat_mod a _
    congr 1
    · rw [show (a.toNat + 256 * (b.toNat + 256 * (c.toNat + 256 * (d.toNat + 256 * (e.toNat + 256 * (f.toNat + 256 * (g.toNat + 256 * i.toNat))))))) / 256 = b.toNat + 256 * (c.toNat + 256 * (d.toNat + 256 * (e.toNat + 256 * (f.toNat + 256 * (g.toNat + 256 * i.toNat))))) by omega]
      exact ofNat_mod b _
    congr 1
    · rw [show (a.toNat + 256 * (b.toNat + 256 * (c.toNat + 256 * (d.toNat + 256 * (e.toNat + 256 * (f.toNat + 256 * (g.toNat + 256 * i.toNat))))))) / 65536 = c.toNat + 256 * (d.toNat + 256 * (e.toNat + 256 * (f.toNat + 256 * (g.toNat + 256 * i.toNat)))) by omega]
      exact ofNat_mod c _
    congr 1
    · rw [show (a.toNat + 256 * (b.toNat + 256 * (c.toNat + 256 * (d.toNat + 256 * (e.toNat + 256 * (f.toNat + 256 * (g.toNat + 256 * i.toNat))))))) / 16777216 = d.toNat + 256 * (e.toNat + 256 * (f.toNat + 256 * (g.toNat + 256 * i.toNat))) by omega]
      exact ofNat_mod d _
    congr 1
    · rw [show (a.toNat + 256 * (b.toNat + 256 * (c.toNat + 256 * (d.toNat + 256 * (e.toNat + 256 * (f.toNat + 256 * (g.toNat + 256 * i.toNat))))))) / 4294967296 = e.toNat + 256 * (f.toNat + 256 * (g.toNat + 256 * i.toNat)) by omega]
      exact ofNat_mod e _
    congr 1
    · rw [show (a.toNat + 256 * (b.toNat + 256 * (c.toNat + 256 * (d.toNat + 256 * (e.toNat + 256 * (f.toNat + 256 * (g.toNat + 256 * i.toNat))))))) / 1099511627776 = f.toNat + 256 * (g.toNat + 256 * i.toNat) by omega]
      exact ofNat_mod f _
    congr 1
    · rw [show (a.toNat + 256 * (b.toNat + 256 * (c.toNat + 256 * (d.toNat + 256 * (e.toNat + 256 * (f.toNat + 256 * (g.toNat + 256 * i.toNat))))))) / 281474976710656 = g.toNat + 256 * i.toNat by omega]
      exact ofNat_mod g _
    congr 1
    · rw [show (a.toNat + 256 * (b.toNat + 256 * (c.toNat + 256 * (d.toNat + 256 * (e.toNat + 256 * (f.toNat + 256 * (g.toNat + 256 * i.toNat))))))) / 72057594037927936 = i.toNat by omega]
      rw [UInt8.ofNat_toNat]
/-- Is it no number? (of a float's 64 bits) -/
def nanB (n : Nat) : Bool := !(Op.floatEq .f64 n n)
def cn (n : Nat) : Nat := if nanB n = true then 9221120237041090561 else n
theorem nan_none : nanB 9221120237041090561 = true := by decide +kernel
theorem cn_cn (n : Nat) : cn (cn n) = cn n := by
  unfold cn
  by_cases h : nanB n = true
  · rw [if_pos h, if_pos nan_none]
  · rw [if_neg h, if_neg h]
theorem cn_lt {n : Nat} (h : n < 18446744073709551616) : cn n < 18446744073709551616 := by
  unfold cn
  split
  · omega
  · exact h
structure Stp where
  kind : Int
  who : Int
  n : Int
  k : UInt8
  him : Bool
  on : Bool
  m : Mask
  t : T3
  b : List UInt8
  w0 : Nat
  w1 : Nat
  w2 : Nat
  w3 : Nat
  draw : Nat
theorem stp_eq {a b : Stp} : a = b ↔ a.kind = b.kind ∧ a.who = b.who ∧ a.n = b.n ∧ a.k = b.k ∧ a.him = b.him ∧ a.on = b.on ∧ a.m = b.m ∧ a.t = b.t ∧ a.b = b.b ∧ a.w0 = b.w0 ∧ a.w1 = b.w1 ∧ a.w2 = b.w2 ∧ a.w3 = b.w3 ∧ a.draw = b.draw := by
  constructor
  · rintro rfl; exact ⟨rfl, rfl, rfl, rfl, rfl, rfl, rfl, rfl, rfl, rfl, rfl, rfl, rfl, rfl⟩
  · cases a; cases b; rintro ⟨h1, h2, h3, h4, h5, h6, h7, h8, h9, h10, h11, h12, h13, h14⟩; simp_all
instance : DecidableEq Stp := fun a b => decidable_of_iff _ stp_eq.symm
def zS (k : Int) : Stp := ⟨k, 0, 0, 0, false, false, .zero, .zero, [], 0, 0, 0, 0, 0⟩
/-- What the type holds. -/
def inS (s : Stp) : Prop := s.w0 < 18446744073709551616 ∧ s.w1 < 18446744073709551616 ∧ s.w2 < 18446744073709551616 ∧ s.w3 < 18446744073709551616 ∧ s.draw < 18446744073709551616
def trm (m : Mask) : List UInt8 := trimR (· == 0) m.l
theorem trm_len (m : Mask) : (trm m).length ≤ 32 := by
  unfold trm
  rw [trimR_len, ← m.h]
  exact trimTo_le _ m.l _
def wl (s : Stp) : List UInt8 := o8 (cn s.w0) ++ (o8 (cn s.w1) ++ (o8 (cn s.w2) ++ o8 (cn s.w3)))
def lay4 (s : Stp) : List UInt8 := if s.on = true then 1 :: UInt8.ofNat (trm s.m).length :: trm s.m else [0]
/-- The octets of a step that may be, but for the first. -/
def layR (s : Stp) : List UInt8 :=
  if s.kind = 0 then [s.k] else if s.kind = 1 then [u8 s.who, u8 s.n]
  else if s.kind = 2 then [u8 (s.who + (if s.him = true then 2 else 0) + (if s.on = true then 4 else 0)), u8 s.n]
  else if s.kind = 3 then [u8 s.n] else if s.kind = 4 then lay4 s
  else if s.kind = 5 then u8 s.who :: putT [s.t] else if s.kind = 6 then UInt8.ofNat s.b.length :: s.b
  else u8 s.n :: (wl s ++ o8 s.draw)
def layS (s : Stp) : List UInt8 := u8 s.kind :: layR s
/-- The parts that a kind has. -/
def partS (s : Stp) : Stp :=
  if s.kind = 0 then { zS 0 with k := s.k } else if s.kind = 1 then { zS 1 with who := s.who, n := s.n }
  else if s.kind = 2 then { zS 2 with who := s.who, n := s.n, him := s.him, on := s.on }
  else if s.kind = 3 then { zS 3 with n := s.n } else if s.kind = 4 then { zS 4 with on := s.on, m := if s.on = true then s.m else .zero }
  else if s.kind = 5 then { zS 5 with who := s.who, t := s.t } else if s.kind = 6 then { zS 6 with b := s.b }
  else if s.kind = 7 then { zS 7 with n := s.n, w0 := s.w0, w1 := s.w1, w2 := s.w2, w3 := s.w3, draw := s.draw } else zS s.kind
def fitS (s : Stp) : Prop :=
  (s.kind = 0 ∨ s.kind = 4) ∨ (s.kind = 1 ∧ (0 ≤ s.who ∧ s.who ≤ 3) ∧ 0 ≤ s.n ∧ s.n ≤ 255) ∨ (s.kind = 2 ∧ (0 ≤ s.who ∧ s.who ≤ 1) ∧ 0 ≤ s.n ∧ s.n ≤ 3) ∨ (s.kind = 3 ∧ 0 ≤ s.n ∧ s.n ≤ 255) ∨
    (s.kind = 5 ∧ (0 ≤ s.who ∧ s.who ≤ 1) ∧ mayT s.t) ∨ (s.kind = 6 ∧ s.b.length ≤ 255) ∨ (s.kind = 7 ∧ (0 ≤ s.n ∧ s.n ≤ 255) ∧ cn s.w0 = s.w0 ∧ cn s.w1 = s.w1 ∧ cn s.w2 = s.w2 ∧ cn s.w3 = s.w3)
/-- Which steps may be. -/
def mayV (s : Stp) : Prop := s = partS s ∧ fitS s
instance (s : Stp) : Decidable (fitS s) := inferInstanceAs (Decidable (_ ∨ _))
instance (s : Stp) : Decidable (mayV s) := inferInstanceAs (Decidable (_ ∧ _))
/-! ### Reading -/
def rd0 : List UInt8 → Option (Stp × List UInt8)
  | x :: r => some ({ zS 0 with k := x }, r)
  | _ => none
def rd1 : List UInt8 → Option (Stp × List UInt8)
  | x :: y :: r => if x.toNat < 4 then some ({ zS 1 with who := x.toNat, n := y.toNat }, r) else none
  | _ => none
def rd2 : List UInt8 → Option (Stp × List UInt8)
  | x :: y :: r => if x.toNat < 8 ∧ y.toNat < 4 then some ({ zS 2 with who := (x.toNat % 2 : Nat), n := y.toNat, him := decide (x.toNat / 2 % 2 = 1), on := decide (x.toNat / 4 % 2 = 1) }, r) else none
  | _ => none
def rd3 : List UInt8 → Option (Stp × List UInt8)
  | y :: r => some ({ zS 3 with n := y.toNat }, r)
  | _ => none
def rd4b : List UInt8 → Option (Stp × List UInt8)
  | [] => none
  | l :: r' => if l.toNat ≤ r'.length ∧ l.toNat ≤ 32 ∧ trimR (· == 0) (r'.take l.toNat) = r'.take l.toNat then some ({ zS 4 with on := true, m := padM (r'.take l.toNat) }, r'.drop l.toNat) else none
def rd4 : List UInt8 → Option (Stp × List UInt8)
  | [] => none
  | x :: r => if x.toNat = 0 then some (zS 4, r) else if x.toNat = 1 then rd4b r else none
def rd5 : List UInt8 → Option (Stp × List UInt8)
  | w :: a :: m :: v :: r => if w.toNat < 2 ∧ m &&& 28 = 0 then some ({ zS 5 with who := w.toNat, t := trip a m v }, r) else none
  | _ => none
def rd6 : List UInt8 → Option (Stp × List UInt8)
  | l :: r => if l.toNat ≤ r.length then some ({ zS 6 with b := r.take l.toNat }, r.drop l.toNat) else none
  | _ => none
def wAt (r : List UInt8) (i : Nat) : Nat := num8 ((r.drop i).take 8)
def rd7 : List UInt8 → Option (Stp × List UInt8)
  | y :: r => if 40 ≤ r.length ∧ cn (wAt r 0) = wAt r 0 ∧ cn (wAt r 8) = wAt r 8 ∧ cn (wAt r 16) = wAt r 16 ∧ cn (wAt r 24) = wAt r 24 then
      some ({ zS 7 with n := y.toNat, w0 := wAt r 0, w1 := wAt r 8, w2 := wAt r 16, w3 := wAt r 24, draw := wAt r 32 }, r.drop 40) else none
  | _ => none
def rdS : List UInt8 → Option (Stp × List UInt8)
  | [] => none
  | c :: r => if c.toNat = 0 then rd0 r else if c.toNat = 1 then rd1 r else if c.toNat = 2 then rd2 r else if c.toNat = 3 then rd3 r else if c.toNat = 4 then rd4 r else if c.toNat = 5 then rd5 r else if c.toNat = 6 then rd6 r
    else if c.toNat = 7 then rd7 r else none
theorem u8_natv {n : Nat} (h : n < 256) : (UInt8.ofNat n).toNat = n := by rw [UInt8.toNat_ofNat']; exact Nat.mod_eq_of_lt h
theorem u8_int {n : Int} (h0 : 0 ≤ n) (h1 : n ≤ 255) : ((u8 n).toNat : Int) = n := u8_in h0 h1
theorem two_bits (w : Int) (h0 : 0 ≤ w) (h1 : w ≤ 1) (p q : Bool) : (u8 (w + (if p = true then 2 else 0) + (if q = true then 4 else 0))).toNat < 8 ∧
    ((u8 (w + (if p = true then 2 else 0) + (if q = true then 4 else 0))).toNat % 2 : Nat) = w ∧ decide ((u8 (w + (if p = true then 2 else 0) + (if q = true then 4 else 0))).toNat / 2 % 2 = 1) = p ∧
    decide ((u8 (w + (if p = true then 2 else 0) + (if q = true then 4 else 0))).toNat / 4 % 2 = 1) = q := by
  have : w = 0 ∨ w = 1 := by omega
  rcases this with rfl | rfl <;> cases p <;> cases q <;> decide
theorem wAt_o8 {n : Nat} (h : n < 18446744073709551616) (a r : List UInt8) {i : Nat} (ha : a.length = i) : wAt (a ++ (o8 n ++ r)) i = n := by
  unfold wAt
  rw [← ha, List.drop_left, List.take_append_of_le_length (by rw [o8_len]; omega), List.take_of_length_le (by rw [o8_len]; omega), num8_o8 h]
/-- What may be is read as it was. -/
theorem rd_lay {s : Stp} (h : mayV s) (hi : inS s) (r : List UInt8) : rdS (layS s ++ r) = some (s, r) := by
  obtain ⟨hp, hf⟩ := h
  have key : ∀ k : Nat, s.kind = k → k < 256 → (u8 s.kind).toNat = k := fun k e hk => by rw [e]; have := u8_int (n := k) (by omega) (by omega); omega
  unfold layS
  rw [List.cons_append, rdS]
  unfold partS at hp
  rcases hf with (hk | hk) | ⟨hk, ⟨h1, h2⟩, h3, h4⟩ | ⟨hk, ⟨h1, h2⟩, h3, h4⟩ | ⟨hk, h3, h4⟩ | ⟨hk, ⟨h1, h2⟩, h3⟩ | ⟨hk, h3⟩ | ⟨hk, ⟨h1, h2⟩, c0, c1, c2, c3⟩
  · rw [key 0 hk (by omega), if_pos rfl, layR, if_pos hk]
    rw [if_pos hk] at hp
    rw [List.cons_append, List.nil_append, rd0, ← hp]
  · rw [key 4 hk (by omega), if_neg (by omega), if_neg (by omega), if_neg (by omega), if_neg (by omega), if_pos rfl, layR, if_neg (by omega), if_neg (by omega), if_neg (by omega), if_neg (by omega), if_pos hk, lay4]
    rw [if_neg (by omega), if_neg (by omega), if_neg (by omega), if_neg (by omega), if_pos hk] at hp
    cases ho : s.on
    · rw [ho] at hp
      rw [if_neg (by simp), List.cons_append, List.nil_append, rd4, if_pos (show UInt8.toNat 0 = 0 from rfl), hp]
      rfl
    · rw [ho] at hp
      have hl := trm_len s.m
      rw [if_pos rfl, List.cons_append, List.cons_append, rd4, if_neg (by decide), if_pos (by decide), rd4b]
      have e : (UInt8.ofNat (trm s.m).length).toNat = (trm s.m).length := u8_natv (by omega)
      simp only [e, List.length_append, List.take_left, List.drop_left]
      have e2 : padM (trm s.m) = s.m := pad_trim s.m
      have e3 : trimR (· == 0) (trm s.m) = trm s.m := by
        have := trim_pad (b := trm s.m) (by omega)
        rw [e2] at this
        exact this.symm
      rw [if_pos ⟨by omega, by omega, e3⟩, e2]
      rw [if_pos rfl] at hp
      rw [← hp]
  · rw [key 1 hk (by omega), if_neg (by omega), if_pos rfl, layR, if_neg (by omega), if_pos hk]
    rw [if_neg (by omega), if_pos hk] at hp
    have e1 := u8_int h1 (by omega)
    have e2 := u8_int h3 h4
    rw [List.cons_append, List.cons_append, List.nil_append, rd1, if_pos (by omega), e1, e2, ← hp]
  · rw [key 2 hk (by omega), if_neg (by omega), if_neg (by omega), if_pos rfl, layR, if_neg (by omega), if_neg (by omega), if_pos hk]
    rw [if_neg (by omega), if_neg (by omega), if_pos hk] at hp
    obtain ⟨t1, t2, t3, t4⟩ := two_bits s.who h1 h2 s.him s.on
    have e2 := u8_int h3 (by omega)
    rw [List.cons_append, List.cons_append, List.nil_append, rd2, if_pos ⟨t1, by omega⟩, t2, t3, t4, e2, ← hp]
  · rw [key 3 hk (by omega), if_neg (by omega), if_neg (by omega), if_neg (by omega), if_pos rfl, layR, if_neg (by omega), if_neg (by omega), if_neg (by omega), if_pos hk]
    rw [if_neg (by omega), if_neg (by omega), if_neg (by omega), if_pos hk] at hp
    have e2 := u8_int h3 h4
    rw [List.cons_append, List.nil_append, rd3, e2, ← hp]
  · rw [key 5 hk (by omega), if_neg (by omega), if_neg (by omega), if_neg (by omega), if_neg (by omega), if_neg (by omega), if_pos rfl, layR, if_neg (by omega), if_neg (by omega), if_neg (by omega), if_neg (by omega), if_neg (by omega), if_pos hk]
    rw [if_neg (by omega), if_neg (by omega), if_neg (by omega), if_neg (by omega), if_neg (by omega), if_pos hk] at hp
    have e1 := u8_int h1 (by omega)
    show rd5 (u8 s.who :: u8 s.t.f :: mk s.t :: s.t.v :: r) = _
    rw [rd5, if_pos ⟨by omega, (mk_back s.t h3).1⟩, trip_mk s.t h3, e1, ← hp]
  · rw [key 6 hk (by omega), if_neg (by omega), if_neg (by omega), if_neg (by omega), if_neg (by omega), if_neg (by omega), if_neg (by omega), if_pos rfl, layR, if_neg (by omega), if_neg (by omega), if_neg (by omega), if_neg (by omega), if_neg (by omega), if_neg (by omega), if_pos hk]
    rw [if_neg (by omega), if_neg (by omega), if_neg (by omega), if_neg (by omega), if_neg (by omega), if_neg (by omega), if_pos hk] at hp
    have e : (UInt8.ofNat s.b.length).toNat = s.b.length := u8_natv (by omega)
    rw [List.cons_append, rd6, e, if_pos (by rw [List.length_append]; omega), List.take_left, List.drop_left, ← hp]
  · rw [key 7 hk (by omega), if_neg (by omega), if_neg (by omega), if_neg (by omega), if_neg (by omega), if_neg (by omega), if_neg (by omega), if_neg (by omega), if_pos rfl, layR, if_neg (by omega), if_neg (by omega), if_neg (by omega), if_neg (by omega), if_neg (by omega), if_neg (by omega), if_neg (by omega)]
    rw [if_neg (by omega), if_neg (by omega), if_neg (by omega), if_neg (by omega), if_neg (by omega), if_neg (by omega), if_neg (by omega), if_pos hk] at hp
    have e2 := u8_int h1 h2
    obtain ⟨i0, i1, i2, i3, i4⟩ := hi
    unfold wl
    rw [c0, c1, c2, c3, List.cons_append, rd7]
    have eA : (o8 s.w0 ++ (o8 s.w1 ++ (o8 s.w2 ++ o8 s.w3)) ++ o8 s.draw ++ r) = o8 s.w0 ++ (o8 s.w1 ++ (o8 s.w2 ++ (o8 s.w3 ++ (o8 s.draw ++ r)))) := by simp only [List.append_assoc]
    rw [eA]
    have a0 := wAt_o8 (i := 0) i0 [] (o8 s.w1 ++ (o8 s.w2 ++ (o8 s.w3 ++ (o8 s.draw ++ r)))) rfl
    have a1 := wAt_o8 (i := 8) i1 (o8 s.w0) (o8 s.w2 ++ (o8 s.w3 ++ (o8 s.draw ++ r))) rfl
    have a2 := wAt_o8 (i := 16) i2 (o8 s.w0 ++ o8 s.w1) (o8 s.w3 ++ (o8 s.draw ++ r)) rfl
    have a3 := wAt_o8 (i := 24) i3 (o8 s.w0 ++ (o8 s.w1 ++ o8 s.w2)) (o8 s.draw ++ r) rfl
    have a4 := wAt_o8 (i := 32) i4 (o8 s.w0 ++ (o8 s.w1 ++ (o8 s.w2 ++ o8 s.w3))) r rfl
    simp only [List.append_assoc, List.nil_append] at a0 a1 a2 a3 a4
    rw [a0, a1, a2, a3, a4, if_pos ⟨by simp only [List.length_append, o8_len]; omega, c0, c1, c2, c3⟩, e2]
    have ed : (o8 s.w0 ++ (o8 s.w1 ++ (o8 s.w2 ++ (o8 s.w3 ++ (o8 s.draw ++ r))))).drop 40 = r := by
      rw [← eA]
      exact List.drop_left' (by simp only [List.length_append, o8_len])
    rw [ed, ← hp]
theorem u8_k {c : UInt8} {k : Nat} (h : c.toNat = k) : u8 (k : Int) = c := by rw [← h]; exact u8_to c
theorem bits_two (x : UInt8) (h : x.toNat < 8) : u8 (((x.toNat % 2 : Nat) : Int) + (if decide (x.toNat / 2 % 2 = 1) = true then 2 else 0) + (if decide (x.toNat / 4 % 2 = 1) = true then 4 else 0)) = x := by
  have : ∀ n : Nat, n < 8 → u8 (((n % 2 : Nat) : Int) + (if decide (n / 2 % 2 = 1) = true then 2 else 0) + (if decide (n / 4 % 2 = 1) = true then 4 else 0)) = UInt8.ofNat n := by decide
  rw [this _ h, UInt8.ofNat_toNat]
theorem wAt_lt (r : List UInt8) (i : Nat) : wAt r i < 18446744073709551616 := by
  unfold wAt
  have h1 := num8_lt ((r.drop i).take 8)
  have h2 : ((r.drop i).take 8).length ≤ 8 := by rw [List.length_take]; omega
  have h3 : 256 ^ ((r.drop i).take 8).length ≤ 256 ^ 8 := Nat.pow_le_pow_right (by omega) h2
  have : (256 : Nat) ^ 8 = 18446744073709551616 := by decide
  omega
theorem o8_wAt {r : List UInt8} {i : Nat} (h : i + 8 ≤ r.length) : o8 (wAt r i) = (r.drop i).take 8 := o8_num8 (by rw [List.length_take, List.length_drop]; omega)
theorem cut40 {r : List UInt8} (h : 40 ≤ r.length) : (r.drop 0).take 8 ++ ((r.drop 8).take 8 ++ ((r.drop 16).take 8 ++ ((r.drop 24).take 8))) ++ (r.drop 32).take 8 ++ r.drop 40 = r := by
  have c : ∀ i : Nat, (r.drop i).take 8 ++ r.drop (i + 8) = r.drop i := fun i => by rw [← List.drop_drop]; exact List.take_append_drop 8 _
  simp only [List.append_assoc]
  rw [c 32, c 24, c 16, c 8, c 0]
  rfl
/-- What is read may be, and is what is left of it taken away. -/
theorem lay_rd {b r : List UInt8} {s : Stp} (h : rdS b = some (s, r)) : mayV s ∧ inS s ∧ b = layS s ++ r := by
  match b, h with
  | c :: q, h =>
    rw [rdS] at h
    have z64 : (0 : Nat) < 18446744073709551616 := by omega
    split at h
    · rename_i hc
      match q, h with
      | x :: r', h =>
        cases h
        exact ⟨⟨rfl, .inl (.inl rfl)⟩, ⟨z64, z64, z64, z64, z64⟩, by
          show _ = u8 (0 : Nat) :: x :: r
          rw [u8_k hc]⟩
    split at h
    · rename_i hc
      match q, h with
      | x :: y :: r', h =>
        rw [rd1] at h
        split at h
        · rename_i hx
          cases h
          have := y.toNat_lt
          exact ⟨⟨rfl, .inr (.inl ⟨rfl, ⟨by simp only; omega, by simp only; omega⟩, by simp only; omega, by simp only; omega⟩)⟩, ⟨z64, z64, z64, z64, z64⟩, by
            show _ = u8 (1 : Nat) :: u8 (x.toNat : Int) :: u8 (y.toNat : Int) :: r
            rw [u8_k hc, u8_to, u8_to]⟩
        · cases h
    split at h
    · rename_i hc
      match q, h with
      | x :: y :: r', h =>
        rw [rd2] at h
        split at h
        · rename_i hx
          cases h
          exact ⟨⟨rfl, .inr (.inr (.inl ⟨rfl, ⟨by simp only; omega, by simp only; omega⟩, by simp only; omega, by simp only; omega⟩))⟩, ⟨z64, z64, z64, z64, z64⟩, by
            show _ = u8 (2 : Nat) :: u8 (((x.toNat % 2 : Nat) : Int) + (if decide (x.toNat / 2 % 2 = 1) = true then 2 else 0) + (if decide (x.toNat / 4 % 2 = 1) = true then 4 else 0)) :: u8 (y.toNat : Int) :: r
            rw [u8_k hc, u8_to, bits_two x hx.1]⟩
        · cases h
    split at h
    · rename_i hc
      match q, h with
      | y :: r', h =>
        cases h
        have := y.toNat_lt
        exact ⟨⟨rfl, .inr (.inr (.inr (.inl ⟨rfl, by simp only; omega, by simp only; omega⟩)))⟩, ⟨z64, z64, z64, z64, z64⟩, by
          show _ = u8 (3 : Nat) :: u8 (y.toNat : Int) :: r
          rw [u8_k hc, u8_to]⟩
    split at h
    · rename_i hc
      match q, h with
      | x :: q', h =>
        rw [rd4] at h
        split at h
        · rename_i hx
          cases h
          exact ⟨⟨rfl, .inl (.inr rfl)⟩, ⟨z64, z64, z64, z64, z64⟩, by
            show _ = u8 (4 : Nat) :: 0 :: r
            rw [u8_k hc]
            congr 2
            exact UInt8.toNat_inj.1 hx⟩
        · split at h
          · rename_i hx
            match q', h with
            | l :: r', h =>
              rw [rd4b] at h
              split at h
              · rename_i hl
                cases h
                obtain ⟨l1, l2, l3⟩ := hl
                have hlt : (r'.take l.toNat).length = l.toNat := by rw [List.length_take]; omega
                have e : trm (padM (r'.take l.toNat)) = r'.take l.toNat := by
                  unfold trm
                  rw [trim_pad (by omega), l3]
                refine ⟨⟨rfl, .inl (.inr rfl)⟩, ⟨z64, z64, z64, z64, z64⟩, ?_⟩
                show _ = u8 (4 : Nat) :: 1 :: UInt8.ofNat (trm (padM (r'.take l.toNat))).length :: (trm (padM (r'.take l.toNat)) ++ r'.drop l.toNat)
                rw [u8_k hc, e, hlt, UInt8.ofNat_toNat, List.take_append_drop]
                congr 2
                exact UInt8.toNat_inj.1 hx
              · cases h
          · cases h
    split at h
    · rename_i hc
      match q, h with
      | w :: a :: m :: v :: r', h =>
        rw [rd5] at h
        split at h
        · rename_i hx
          cases h
          obtain ⟨m1, m2⟩ := mk_trip a m v hx.2
          refine ⟨⟨rfl, .inr (.inr (.inr (.inr (.inl ⟨rfl, ⟨by simp only; omega, by simp only; omega⟩, m1⟩))))⟩, ⟨z64, z64, z64, z64, z64⟩, ?_⟩
          show _ = u8 (5 : Nat) :: u8 (w.toNat : Int) :: u8 (a.toNat : Int) :: mk (trip a m v) :: v :: r
          rw [u8_k hc, u8_to, u8_to, m2]
        · cases h
    split at h
    · rename_i hc
      match q, h with
      | l :: r', h =>
        rw [rd6] at h
        split at h
        · rename_i hx
          cases h
          have := l.toNat_lt
          have hlt : (r'.take l.toNat).length = l.toNat := by rw [List.length_take]; omega
          refine ⟨⟨rfl, .inr (.inr (.inr (.inr (.inr (.inl ⟨rfl, by simp only; omega⟩)))))⟩, ⟨z64, z64, z64, z64, z64⟩, ?_⟩
          show _ = u8 (6 : Nat) :: UInt8.ofNat (r'.take l.toNat).length :: (r'.take l.toNat ++ r'.drop l.toNat)
          rw [u8_k hc, hlt, UInt8.ofNat_toNat, List.take_append_drop]
        · cases h
    split at h
    · rename_i hc
      match q, h with
      | y :: r', h =>
        rw [rd7] at h
        split at h
        · rename_i hx
          cases h
          obtain ⟨h40, c0, c1, c2, c3⟩ := hx
          have := y.toNat_lt
          refine ⟨⟨rfl, .inr (.inr (.inr (.inr (.inr (.inr ⟨rfl, ⟨by simp only; omega, by simp only; omega⟩, c0, c1, c2, c3⟩)))))⟩, ⟨wAt_lt _ _, wAt_lt _ _, wAt_lt _ _, wAt_lt _ _, wAt_lt _ _⟩, ?_⟩
          show _ = u8 (7 : Nat) :: u8 (y.toNat : Int) :: (o8 (cn (wAt r' 0)) ++ (o8 (cn (wAt r' 8)) ++ (o8 (cn (wAt r' 16)) ++ o8 (cn (wAt r' 24)))) ++ o8 (wAt r' 32) ++ r'.drop 40)
          rw [u8_k hc, u8_to, c0, c1, c2, c3, o8_wAt (by omega), o8_wAt (by omega), o8_wAt (by omega), o8_wAt (by omega), o8_wAt (by omega), cut40 h40]
        · cases h
    cases h
end Go.Proofs.YtlijecknkpcgfaaDoor
