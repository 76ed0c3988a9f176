/- Layer 13: a state that is being changed. Own work. -/
import Derived.Test.YtmkblhinpnodaaaDoorEc
import Derived.Test.YtmkblhinpnodaaaDoorZ3
import Derived.Test.YtmkblhinpnodaaaDoorLn
namespace Go.Proofs.YtmkblhinpnodaaaDoor
open Go Go.Shade
variable {Γ : Globs}
structure Ev where
  kind : Int
  f : Int
  b : List UInt8
deriving DecidableEq
def evP (e : Ev) : List PV := [.s (.int .i64 e.kind), .s (.int .i64 e.f), .sl 1 (bys e.b)]
abbrev evA (e : Ev) : AV := .agg [.int .i64 e.kind, .int .i64 e.f, .sl 1 (bys e.b)]
structure Ed where
  b : List UInt8
  n : Nat
  o : Bool
  l : Bool
deriving DecidableEq
def Ed.zero : Ed := ⟨[], 0, false, false⟩
def Ed.ok (s : Ed) : Prop := s.b.length ≤ 4096 ∧ s.n ≤ s.b.length
instance (s : Ed) : Decidable s.ok := inferInstanceAs (Decidable (_ ∧ _))
abbrev edI (b : List UInt8) (n : Int) (o l : Bool) : AV := .agg [.sl 1 (bys b), .int .i64 n, .bool o, .bool l]
abbrev edA (s : Ed) : AV := edI s.b s.n s.o s.l
abbrev wA (s : Ed) (room : Int) (out : AV) (bell : Bool) : List AV := [.sl 1 (bys s.b), .int .i64 s.n, .bool s.o, .bool s.l, .int .i64 room, out, .bool bell]
abbrev outA (l : List Ev) : AV := .sl 3 (l.map evP)
/-- What typing makes of a line. -/
def typeW (b : List UInt8) (n : Nat) (room : Int) (o : Bool) (k : UInt8) : List UInt8 × Nat × Bool := match typeV b n room o k with
  | some (d, m) => (d, m, true)
  | none => (b, n, false)
theorem typeR_W {b : List UInt8} {n : Nat} {room : Int} {o : Bool} {k : UInt8} {d : List UInt8} {m : Nat} {ok : Bool} (h : typeW b n room o k = (d, m, ok)) : typeR b n room o k = .tup [lA d m, .bool ok] := by
  unfold typeW at h
  unfold typeR
  cases hv : typeV b n room o k with
  | none => rw [hv] at h; cases h; rfl
  | some x => rw [hv] at h; cases h; rfl
theorem gWTyped (s : Ed) (room : Int) (k : UInt8) (hs : s.ok) {d : List UInt8} {m : Nat} {ok : Bool} (h : typeW s.b s.n room s.o k = (d, m, ok)) :
    Good Tryd.prog Γ 28 [.ptr 0 0, .int .u8 k.toNat] [(0, .box (wA s room nilP false) false)] (.ret (.tup [])) [(0, .box (wA { s with b := d, n := m } room nilP (!ok)) false)] := by
  have ht := gType (Γ := Γ) s.b s.n room s.o k hs.1 hs.2
  rw [typeR_W h] at ht
  refine sh_start mixed F28 rfl ⟨(by first | exact rfl | (simp only [go_sem, seval]; done) | (simp only [go_sem, seval]; exact rfl)), (by first | exact rfl | (simp only [go_sem, seval]; done) | (simp only [go_sem, seval]; exact rfl)), (by first | exact rfl | (simp only [go_sem, seval]; done) | (simp only [go_sem, seval]; exact rfl)), (by first | exact rfl | (simp only [go_sem, seval]; done) | (simp only [go_sem, seval]; exact rfl)), (by first | exact rfl | (simp only [go_sem, seval]; done) | (simp only [go_sem, seval]; exact rfl))⟩ ?_
  repeat' (first | (with_reducible exact trivial) | simp (maxSteps := 2000000) (disch := omega) only [go_sem, seval] | ((with_reducible refine isS ?_); first | refine cS (ht) ?_ | fail) | ((with_reducible refine isT ?_); first | refine cT (ht) ?_ | fail) | ((with_reducible refine isE ?_); refine eA ?_; (repeat' (first | exact le_tq0 rfl | exact le_tq0r rfl | refine le_tqr rfl ?_ | refine le_tq rfl ?_ | exact trivial | refine le_int ?_ | refine le_bool ?_ | refine le_str ?_ | refine le_sl ?_ | refine le_own ?_ | refine le_osl ?_ | refine le_nsl ?_ | exact rfl | refine ⟨?_, ?_⟩ | fail))) | ((with_reducible refine isI ?_ ?_); (kernel_rfl)) | fail)
theorem gWTell (s : Ed) (room : Int) (e : Ev) (bell : Bool) : Good Tryd.prog Γ 48 [.ptr 0 0, evA e] [(0, .box (wA s room nilP bell) false)] (.ret (.tup [])) [(0, .box (wA .zero room (outA [e]) bell) false)] := by
  refine sh_start mixed F48 rfl ⟨(by first | exact rfl | (simp only [go_sem, seval]; done) | (simp only [go_sem, seval]; exact rfl)), (by first | exact rfl | (simp only [go_sem, seval]; done) | (simp only [go_sem, seval]; exact rfl)), (by first | exact rfl | (simp only [go_sem, seval]; done) | (simp only [go_sem, seval]; exact rfl)), (by first | exact rfl | (simp only [go_sem, seval]; done) | (simp only [go_sem, seval]; exact rfl)), (by first | exact rfl | (simp only [go_sem, seval]; done) | (simp only [go_sem, seval]; exact rfl))⟩ ?_
  repeat' (first | (with_reducible exact trivial) | simp (maxSteps := 2000000) (disch := omega) only [go_sem, seval] | ((with_reducible refine isE ?_); refine eA ?_; (repeat' (first | exact le_tq0 rfl | exact le_tq0r rfl | refine le_tqr rfl ?_ | refine le_tq rfl ?_ | exact trivial | refine le_int ?_ | refine le_bool ?_ | refine le_str ?_ | refine le_sl ?_ | refine le_own ?_ | refine le_osl ?_ | refine le_nsl ?_ | exact rfl | refine ⟨?_, ?_⟩ | fail))) | ((with_reducible refine isI ?_ ?_); (kernel_rfl)) | fail)
theorem gWKeep (s : Ed) (room : Int) (e : Ev) (bell : Bool) : Good Tryd.prog Γ 58 [.ptr 0 0, evA e] [(0, .box (wA s room nilP bell) false)] (.ret (.tup [])) [(0, .box (wA { s with l := false } room (outA [e]) bell) false)] := by
  refine sh_start mixed F58 rfl ⟨(by first | exact rfl | (simp only [go_sem, seval]; done) | (simp only [go_sem, seval]; exact rfl)), (by first | exact rfl | (simp only [go_sem, seval]; done) | (simp only [go_sem, seval]; exact rfl)), (by first | exact rfl | (simp only [go_sem, seval]; done) | (simp only [go_sem, seval]; exact rfl)), (by first | exact rfl | (simp only [go_sem, seval]; done) | (simp only [go_sem, seval]; exact rfl)), (by first | exact rfl | (simp only [go_sem, seval]; done) | (simp only [go_sem, seval]; exact rfl))⟩ ?_
  repeat' (first | (with_reducible exact trivial) | simp (maxSteps := 2000000) (disch := omega) only [go_sem, seval] | ((with_reducible refine isE ?_); refine eA ?_; (repeat' (first | exact le_tq0 rfl | exact le_tq0r rfl | refine le_tqr rfl ?_ | refine le_tq rfl ?_ | exact trivial | refine le_int ?_ | refine le_bool ?_ | refine le_str ?_ | refine le_sl ?_ | refine le_own ?_ | refine le_osl ?_ | refine le_nsl ?_ | exact rfl | refine ⟨?_, ?_⟩ | fail))) | ((with_reducible refine isI ?_ ?_); (kernel_rfl)) | fail)
/-- What a signal does. -/
def sigV (s : Ed) (f : Int) : Ed × Ev := if f = 4 ∨ f = 5 ∨ f = 6 then ({ s with l := false }, ⟨3, f, []⟩) else if f = 8 ∧ 0 < s.b.length then (.zero, ⟨2, 0, s.b⟩) else (.zero, ⟨3, f, []⟩)
theorem gWSignal (s : Ed) (room : Int) (f : Int) (hb : s.b.length ≤ 4096) : Good Tryd.prog Γ 45 [.ptr 0 0, .int .i64 f] [(0, .box (wA s room nilP false) false)] (.ret (.tup [])) [(0, .box (wA (sigV s f).1 room (outA [(sigV s f).2]) false) false)] := by
  by_cases h4 : f = 4
  · rw [show sigV s f = ({ s with l := false }, ⟨3, f, []⟩) by unfold sigV; rw [if_pos (by omega)]]
    subst h4
    refine sh_start mixed F45 rfl ⟨(by first | exact rfl | (simp only [go_sem, seval]; done) | (simp only [go_sem, seval]; exact rfl)), (by first | exact rfl | (simp only [go_sem, seval]; done) | (simp only [go_sem, seval]; exact rfl)), (by first | exact rfl | (simp only [go_sem, seval]; done) | (simp only [go_sem, seval]; exact rfl)), (by first | exact rfl | (simp only [go_sem, seval]; done) | (simp only [go_sem, seval]; exact rfl)), (by first | exact rfl | (simp only [go_sem, seval]; done) | (simp only [go_sem, seval]; exact rfl))⟩ ?_
    repeat' (first | (with_reducible exact trivial) | simp (maxSteps := 2000000) (disch := omega) only [go_sem, seval] | ((with_reducible refine isS ?_); first | refine cSA (gWKeep s room ⟨3, 4, []⟩ false) ?_ | fail) | ((with_reducible refine isE ?_); refine eA ?_; (repeat' (first | exact le_tq0 rfl | exact le_tq0r rfl | refine le_tqr rfl ?_ | refine le_tq rfl ?_ | exact trivial | refine le_int ?_ | refine le_bool ?_ | refine le_str ?_ | refine le_sl ?_ | refine le_own ?_ | refine le_osl ?_ | refine le_nsl ?_ | exact rfl | refine ⟨?_, ?_⟩ | fail))) | ((with_reducible refine isI ?_ ?_); (kernel_rfl)) | fail)
  by_cases h5 : f = 5
  · rw [show sigV s f = ({ s with l := false }, ⟨3, f, []⟩) by unfold sigV; rw [if_pos (by omega)]]
    subst h5
    refine sh_start mixed F45 rfl ⟨(by first | exact rfl | (simp only [go_sem, seval]; done) | (simp only [go_sem, seval]; exact rfl)), (by first | exact rfl | (simp only [go_sem, seval]; done) | (simp only [go_sem, seval]; exact rfl)), (by first | exact rfl | (simp only [go_sem, seval]; done) | (simp only [go_sem, seval]; exact rfl)), (by first | exact rfl | (simp only [go_sem, seval]; done) | (simp only [go_sem, seval]; exact rfl)), (by first | exact rfl | (simp only [go_sem, seval]; done) | (simp only [go_sem, seval]; exact rfl))⟩ ?_
    repeat' (first | (with_reducible exact trivial) | simp (maxSteps := 2000000) (disch := omega) only [go_sem, seval] | ((with_reducible refine isS ?_); first | refine cSA (gWKeep s room ⟨3, 5, []⟩ false) ?_ | fail) | ((with_reducible refine isE ?_); refine eA ?_; (repeat' (first | exact le_tq0 rfl | exact le_tq0r rfl | refine le_tqr rfl ?_ | refine le_tq rfl ?_ | exact trivial | refine le_int ?_ | refine le_bool ?_ | refine le_str ?_ | refine le_sl ?_ | refine le_own ?_ | refine le_osl ?_ | refine le_nsl ?_ | exact rfl | refine ⟨?_, ?_⟩ | fail))) | ((with_reducible refine isI ?_ ?_); (kernel_rfl)) | fail)
  by_cases h6 : f = 6
  · rw [show sigV s f = ({ s with l := false }, ⟨3, f, []⟩) by unfold sigV; rw [if_pos (by omega)]]
    subst h6
    refine sh_start mixed F45 rfl ⟨(by first | exact rfl | (simp only [go_sem, seval]; done) | (simp only [go_sem, seval]; exact rfl)), (by first | exact rfl | (simp only [go_sem, seval]; done) | (simp only [go_sem, seval]; exact rfl)), (by first | exact rfl | (simp only [go_sem, seval]; done) | (simp only [go_sem, seval]; exact rfl)), (by first | exact rfl | (simp only [go_sem, seval]; done) | (simp only [go_sem, seval]; exact rfl)), (by first | exact rfl | (simp only [go_sem, seval]; done) | (simp only [go_sem, seval]; exact rfl))⟩ ?_
    repeat' (first | (with_reducible exact trivial) | simp (maxSteps := 2000000) (disch := omega) only [go_sem, seval] | ((with_reducible refine isS ?_); first | refine cSA (gWKeep s room ⟨3, 6, []⟩ false) ?_ | fail) | ((with_reducible refine isE ?_); refine eA ?_; (repeat' (first | exact le_tq0 rfl | exact le_tq0r rfl | refine le_tqr rfl ?_ | refine le_tq rfl ?_ | exact trivial | refine le_int ?_ | refine le_bool ?_ | refine le_str ?_ | refine le_sl ?_ | refine le_own ?_ | refine le_osl ?_ | refine le_nsl ?_ | exact rfl | refine ⟨?_, ?_⟩ | fail))) | ((with_reducible refine isI ?_ ?_); (kernel_rfl)) | fail)
  by_cases h8 : f = 8
  · by_cases hl : 0 < s.b.length
    · rw [show sigV s f = (.zero, ⟨2, 0, s.b⟩) by unfold sigV; rw [if_neg (by omega), if_pos ⟨h8, hl⟩]]
      subst h8
      refine sh_start mixed F45 rfl ⟨(by first | exact rfl | (simp only [go_sem, seval]; done) | (simp only [go_sem, seval]; exact rfl)), (by first | exact rfl | (simp only [go_sem, seval]; done) | (simp only [go_sem, seval]; exact rfl)), (by first | exact rfl | (simp only [go_sem, seval]; done) | (simp only [go_sem, seval]; exact rfl)), (by first | exact rfl | (simp only [go_sem, seval]; done) | (simp only [go_sem, seval]; exact rfl)), (by first | exact rfl | (simp only [go_sem, seval]; done) | (simp only [go_sem, seval]; exact rfl))⟩ ?_
      repeat' (first | (with_reducible exact trivial) | simp (maxSteps := 2000000) (disch := omega) only [bys_length, go_sem, seval] | ((with_reducible refine isS ?_); first | refine cSA (gWTell s room ⟨2, 0, s.b⟩ false) ?_ | fail) | ((with_reducible refine isE ?_); refine eA ?_; (repeat' (first | exact le_tq0 rfl | exact le_tq0r rfl | refine le_tqr rfl ?_ | refine le_tq rfl ?_ | exact trivial | refine le_int ?_ | refine le_bool ?_ | refine le_str ?_ | refine le_sl ?_ | refine le_own ?_ | refine le_osl ?_ | refine le_nsl ?_ | exact rfl | refine ⟨?_, ?_⟩ | fail))) | ((with_reducible refine isI ?_ ?_); (kernel_rfl)) | fail)
    · rw [show sigV s f = (.zero, ⟨3, f, []⟩) by unfold sigV; rw [if_neg (by omega), if_neg (fun h => hl h.2)]]
      subst h8
      refine sh_start mixed F45 rfl ⟨(by first | exact rfl | (simp only [go_sem, seval]; done) | (simp only [go_sem, seval]; exact rfl)), (by first | exact rfl | (simp only [go_sem, seval]; done) | (simp only [go_sem, seval]; exact rfl)), (by first | exact rfl | (simp only [go_sem, seval]; done) | (simp only [go_sem, seval]; exact rfl)), (by first | exact rfl | (simp only [go_sem, seval]; done) | (simp only [go_sem, seval]; exact rfl)), (by first | exact rfl | (simp only [go_sem, seval]; done) | (simp only [go_sem, seval]; exact rfl))⟩ ?_
      repeat' (first | (with_reducible exact trivial) | simp (maxSteps := 2000000) (disch := omega) only [bys_length, go_sem, seval] | ((with_reducible refine isS ?_); first | refine cSA (gWTell s room ⟨3, 8, []⟩ false) ?_ | fail) | ((with_reducible refine isE ?_); refine eA ?_; (repeat' (first | exact le_tq0 rfl | exact le_tq0r rfl | refine le_tqr rfl ?_ | refine le_tq rfl ?_ | exact trivial | refine le_int ?_ | refine le_bool ?_ | refine le_str ?_ | refine le_sl ?_ | refine le_own ?_ | refine le_osl ?_ | refine le_nsl ?_ | exact rfl | refine ⟨?_, ?_⟩ | fail))) | ((with_reducible refine isI ?_ ?_); (kernel_rfl)) | fail)
  · rw [show sigV s f = (.zero, ⟨3, f, []⟩) by unfold sigV; rw [if_neg (by omega), if_neg (fun h => h8 h.1)]]
    refine sh_start mixed F45 rfl ⟨(by first | exact rfl | (simp only [go_sem, seval]; done) | (simp only [go_sem, seval]; exact rfl)), (by first | exact rfl | (simp only [go_sem, seval]; done) | (simp only [go_sem, seval]; exact rfl)), (by first | exact rfl | (simp only [go_sem, seval]; done) | (simp only [go_sem, seval]; exact rfl)), (by first | exact rfl | (simp only [go_sem, seval]; done) | (simp only [go_sem, seval]; exact rfl)), (by first | exact rfl | (simp only [go_sem, seval]; done) | (simp only [go_sem, seval]; exact rfl))⟩ ?_
    repeat' (first | (with_reducible exact trivial) | simp (maxSteps := 2000000) (disch := omega) only [h4, h5, h6, h8, go_sem, seval] | ((with_reducible refine isS ?_); first | refine cSA (gWTell s room ⟨3, f, []⟩ false) ?_ | fail) | ((with_reducible refine isE ?_); refine eA ?_; (repeat' (first | exact le_tq0 rfl | exact le_tq0r rfl | refine le_tqr rfl ?_ | refine le_tq rfl ?_ | exact trivial | refine le_int ?_ | refine le_bool ?_ | refine le_str ?_ | refine le_sl ?_ | refine le_own ?_ | refine le_osl ?_ | refine le_nsl ?_ | exact rfl | refine ⟨?_, ?_⟩ | fail))) | ((with_reducible refine isI ?_ ?_); (kernel_rfl)) | fail)
end Go.Proofs.YtmkblhinpnodaaaDoor
