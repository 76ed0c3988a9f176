/- Layer 13: a key, a signal. Own work. -/
import Derived.Test.YtmkblhinpnodaaaDoorEd
import Derived.Test.YtmkblhinpnodaaaDoorZ3
namespace Go.Proofs.YtmkblhinpnodaaaDoor
open Go Go.Shade
variable {Γ : Globs}
def doW (b : List UInt8) (n : Nat) (f : Int) : List UInt8 × Nat × Bool := match doV b n f with
  | some (d, m) => (d, m, true)
  | none => (b, n, false)
theorem doR_W {b : List UInt8} {n : Nat} {f : Int} {d : List UInt8} {m : Nat} {ok : Bool} (h : doW b n f = (d, m, ok)) : doR b n f = .tup [lA d m, .bool ok] := by
  unfold doW at h
  unfold doR
  cases hv : doV b n f with
  | none => rw [hv] at h; cases h; rfl
  | some x => rw [hv] at h; cases h; rfl
/-- Typing a key. -/
def typedV (s : Ed) (room : Int) (k : UInt8) : Ed × List Ev × Bool := ({ s with b := (typeW s.b s.n room s.o k).1, n := (typeW s.b s.n room s.o k).2.1 }, [], !(typeW s.b s.n room s.o k).2.2)
/-- What a key does by its meaning. -/
def meanV (s : Ed) (room : Int) (f : Nat) (k : UInt8) : Ed × List Ev × Bool :=
  if f = 0 ∨ f = 17 ∨ f = 18 then typedV s room k else if f = 31 then (.zero, [⟨1, 0, s.b⟩], false) else if f ≤ 9 then ((sigV s f).1, [(sigV s f).2], false) else if f = 14 then ({ s with l := true }, [], false) else
  if f = 25 ∨ f = 26 then ({ s with o := decide (f = 26) }, [], false) else ({ s with b := (doW s.b s.n f).1, n := (doW s.b s.n f).2.1 }, [], false)
/-- A key. -/
def keyV (t : Tbl) (room : Int) (s : Ed) (k : UInt8) : Ed × List Ev × Bool := if s.l = true then typedV { s with l := false } room k else meanV s room (meaning t k) k
theorem gWMeans (s : Ed) (room : Int) (f : Nat) (k : UInt8) (hs : s.ok) {s' : Ed} {l : List Ev} {bell : Bool} (h : meanV s room f k = (s', l, bell)) :
    Good Tryd.prog Γ 29 [.ptr 0 0, .int .i64 f, .int .u8 k.toNat] [(0, .box (wA s room nilP false) false)] (.ret (.tup [])) [(0, .box (wA s' room (outA l) bell) false)] := by
  unfold meanV at h
  by_cases h0 : f = 0 ∨ f = 17 ∨ f = 18
  · rw [if_pos h0] at h
    unfold typedV at h
    obtain ⟨d, m, ok, ht⟩ : ∃ d m ok, typeW s.b s.n room s.o k = (d, m, ok) := ⟨_, _, _, rfl⟩
    rw [ht] at h
    cases h
    rcases h0 with rfl | rfl | rfl
    all_goals
      refine sh_start mixed F29 rfl ⟨(by first | exact rfl | (simp only [go_sem, seval]; done) | (simp only [go_sem, seval]; exact rfl)), (by first | exact rfl | (simp only [go_sem, seval]; done) | (simp only [go_sem, seval]; exact rfl)), (by first | exact rfl | (simp only [go_sem, seval]; done) | (simp only [go_sem, seval]; exact rfl)), (by first | exact rfl | (simp only [go_sem, seval]; done) | (simp only [go_sem, seval]; exact rfl)), (by first | exact rfl | (simp only [go_sem, seval]; done) | (simp only [go_sem, seval]; exact rfl))⟩ ?_
      repeat' (first | (with_reducible exact trivial) | simp (maxSteps := 2000000) (disch := omega) only [go_sem, seval] | ((with_reducible refine isS ?_); first | refine cSA (gWTyped s room k hs ht) ?_ | fail) | ((with_reducible refine isE ?_); refine eA ?_; (repeat' (first | exact le_tq0 rfl | exact le_tq0r rfl | refine le_tqr rfl ?_ | refine le_tq rfl ?_ | exact trivial | refine le_int ?_ | refine le_bool ?_ | refine le_str ?_ | refine le_sl ?_ | refine le_own ?_ | refine le_osl ?_ | refine le_nsl ?_ | exact rfl | refine ⟨?_, ?_⟩ | fail))) | ((with_reducible refine isI ?_ ?_); (kernel_rfl)) | fail)
  rw [if_neg h0] at h
  have k0 : ¬ f = 0 := fun e => h0 (.inl e)
  have k17 : ¬ f = 17 := fun e => h0 (.inr (.inl e))
  have k18 : ¬ f = 18 := fun e => h0 (.inr (.inr e))
  have k17' : ¬ (f : Int) = 17 := by omega
  have k18' : ¬ (f : Int) = 18 := by omega
  have k0' : ¬ (f : Int) = 0 := by omega
  by_cases h31 : f = 31
  · rw [if_pos h31] at h
    cases h
    subst h31
    refine sh_start mixed F29 rfl ⟨(by first | exact rfl | (simp only [go_sem, seval]; done) | (simp only [go_sem, seval]; exact rfl)), (by first | exact rfl | (simp only [go_sem, seval]; done) | (simp only [go_sem, seval]; exact rfl)), (by first | exact rfl | (simp only [go_sem, seval]; done) | (simp only [go_sem, seval]; exact rfl)), (by first | exact rfl | (simp only [go_sem, seval]; done) | (simp only [go_sem, seval]; exact rfl)), (by first | exact rfl | (simp only [go_sem, seval]; done) | (simp only [go_sem, seval]; exact rfl))⟩ ?_
    repeat' (first | (with_reducible exact trivial) | simp (maxSteps := 2000000) (disch := omega) only [go_sem, seval] | ((with_reducible refine isS ?_); first | refine cSA (gWTell s room ⟨1, 0, s.b⟩ false) ?_ | fail) | ((with_reducible refine isE ?_); refine eA ?_; (repeat' (first | exact le_tq0 rfl | exact le_tq0r rfl | refine le_tqr rfl ?_ | refine le_tq rfl ?_ | exact trivial | refine le_int ?_ | refine le_bool ?_ | refine le_str ?_ | refine le_sl ?_ | refine le_own ?_ | refine le_osl ?_ | refine le_nsl ?_ | exact rfl | refine ⟨?_, ?_⟩ | fail))) | ((with_reducible refine isI ?_ ?_); (kernel_rfl)) | fail)
  rw [if_neg h31] at h
  have k31 : ¬ (f : Int) = 31 := by omega
  by_cases h9 : f ≤ 9
  · rw [if_pos h9] at h
    cases h
    refine sh_start mixed F29 rfl ⟨(by first | exact rfl | (simp only [go_sem, seval]; done) | (simp only [go_sem, seval]; exact rfl)), (by first | exact rfl | (simp only [go_sem, seval]; done) | (simp only [go_sem, seval]; exact rfl)), (by first | exact rfl | (simp only [go_sem, seval]; done) | (simp only [go_sem, seval]; exact rfl)), (by first | exact rfl | (simp only [go_sem, seval]; done) | (simp only [go_sem, seval]; exact rfl)), (by first | exact rfl | (simp only [go_sem, seval]; done) | (simp only [go_sem, seval]; exact rfl))⟩ ?_
    repeat' (first | (with_reducible exact trivial) | simp (maxSteps := 2000000) (disch := omega) only [k0', k17', k18', k31, go_sem, seval] | ((with_reducible refine isS ?_); first | refine cSA (gWSignal s room f hs.1) ?_ | fail) | ((with_reducible refine isE ?_); refine eA ?_; (repeat' (first | exact le_tq0 rfl | exact le_tq0r rfl | refine le_tqr rfl ?_ | refine le_tq rfl ?_ | exact trivial | refine le_int ?_ | refine le_bool ?_ | refine le_str ?_ | refine le_sl ?_ | refine le_own ?_ | refine le_osl ?_ | refine le_nsl ?_ | exact rfl | refine ⟨?_, ?_⟩ | fail))) | ((with_reducible refine isI ?_ ?_); (kernel_rfl)) | fail)
  rw [if_neg h9] at h
  by_cases h14 : f = 14
  · rw [if_pos h14] at h
    cases h
    subst h14
    refine sh_start mixed F29 rfl ⟨(by first | exact rfl | (simp only [go_sem, seval]; done) | (simp only [go_sem, seval]; exact rfl)), (by first | exact rfl | (simp only [go_sem, seval]; done) | (simp only [go_sem, seval]; exact rfl)), (by first | exact rfl | (simp only [go_sem, seval]; done) | (simp only [go_sem, seval]; exact rfl)), (by first | exact rfl | (simp only [go_sem, seval]; done) | (simp only [go_sem, seval]; exact rfl)), (by first | exact rfl | (simp only [go_sem, seval]; done) | (simp only [go_sem, seval]; exact rfl))⟩ ?_
    repeat' (first | (with_reducible exact trivial) | simp (maxSteps := 2000000) (disch := omega) only [go_sem, seval] | ((with_reducible refine isE ?_); refine eA ?_; (repeat' (first | exact le_tq0 rfl | exact le_tq0r rfl | refine le_tqr rfl ?_ | refine le_tq rfl ?_ | exact trivial | refine le_int ?_ | refine le_bool ?_ | refine le_str ?_ | refine le_sl ?_ | refine le_own ?_ | refine le_osl ?_ | refine le_nsl ?_ | exact rfl | refine ⟨?_, ?_⟩ | fail))) | ((with_reducible refine isI ?_ ?_); (kernel_rfl)) | fail)
  rw [if_neg h14] at h
  have k14 : ¬ (f : Int) = 14 := by omega
  by_cases h25 : f = 25 ∨ f = 26
  · rw [if_pos h25] at h
    cases h
    rcases h25 with rfl | rfl
    all_goals
      refine sh_start mixed F29 rfl ⟨(by first | exact rfl | (simp only [go_sem, seval]; done) | (simp only [go_sem, seval]; exact rfl)), (by first | exact rfl | (simp only [go_sem, seval]; done) | (simp only [go_sem, seval]; exact rfl)), (by first | exact rfl | (simp only [go_sem, seval]; done) | (simp only [go_sem, seval]; exact rfl)), (by first | exact rfl | (simp only [go_sem, seval]; done) | (simp only [go_sem, seval]; exact rfl)), (by first | exact rfl | (simp only [go_sem, seval]; done) | (simp only [go_sem, seval]; exact rfl))⟩ ?_
      repeat' (first | (with_reducible exact trivial) | simp (maxSteps := 2000000) (disch := omega) only [go_sem, seval] | ((with_reducible refine isE ?_); refine eA ?_; (repeat' (first | exact le_tq0 rfl | exact le_tq0r rfl | refine le_tqr rfl ?_ | refine le_tq rfl ?_ | exact trivial | refine le_int ?_ | refine le_bool ?_ | refine le_str ?_ | refine le_sl ?_ | refine le_own ?_ | refine le_osl ?_ | refine le_nsl ?_ | exact rfl | refine ⟨?_, ?_⟩ | fail))) | ((with_reducible refine isI ?_ ?_); (kernel_rfl)) | fail)
  rw [if_neg h25] at h
  have k25 : ¬ (f : Int) = 25 := by omega
  have k26 : ¬ (f : Int) = 26 := by omega
  obtain ⟨d, m, ok, hd⟩ : ∃ d m ok, doW s.b s.n f = (d, m, ok) := ⟨_, _, _, rfl⟩
  rw [hd] at h
  cases h
  have hdo := gDo (Γ := Γ) s.b s.n f hs.1 hs.2
  rw [doR_W hd] at hdo
  refine sh_start mixed F29 rfl ⟨(by first | exact rfl | (simp only [go_sem, seval]; done) | (simp only [go_sem, seval]; exact rfl)), (by first | exact rfl | (simp only [go_sem, seval]; done) | (simp only [go_sem, seval]; exact rfl)), (by first | exact rfl | (simp only [go_sem, seval]; done) | (simp only [go_sem, seval]; exact rfl)), (by first | exact rfl | (simp only [go_sem, seval]; done) | (simp only [go_sem, seval]; exact rfl)), (by first | exact rfl | (simp only [go_sem, seval]; done) | (simp only [go_sem, seval]; exact rfl))⟩ ?_
  repeat' (first | (with_reducible exact trivial) | simp (maxSteps := 2000000) (disch := omega) only [k0', k17', k18', k31, k14, k25, k26, go_sem, seval] | ((with_reducible refine isS ?_); first | refine cS (hdo) ?_ | fail) | ((with_reducible refine isE ?_); refine eA ?_; (repeat' (first | exact le_tq0 rfl | exact le_tq0r rfl | refine le_tqr rfl ?_ | refine le_tq rfl ?_ | exact trivial | refine le_int ?_ | refine le_bool ?_ | refine le_str ?_ | refine le_sl ?_ | refine le_own ?_ | refine le_osl ?_ | refine le_nsl ?_ | exact rfl | refine ⟨?_, ?_⟩ | fail))) | ((with_reducible refine isI ?_ ?_); (kernel_rfl)) | fail)
theorem gECheckI (b : List UInt8) (n : Int) (o l : Bool) : Good Tryd.prog Γ 27 [edI b n o l] [] (.ret (.int .i64 (if mayL b n then 0 else 1))) [] := by
  refine sh_start mixed F27 rfl ⟨(by first | exact rfl | (simp only [go_sem, seval]; done) | (simp only [go_sem, seval]; exact rfl)), (by first | exact rfl | (simp only [go_sem, seval]; done) | (simp only [go_sem, seval]; exact rfl)), (by first | exact rfl | (simp only [go_sem, seval]; done) | (simp only [go_sem, seval]; exact rfl)), (by first | exact rfl | (simp only [go_sem, seval]; done) | (simp only [go_sem, seval]; exact rfl)), (by first | exact rfl | (simp only [go_sem, seval]; done) | (simp only [go_sem, seval]; exact rfl))⟩ ?_
  repeat' (first | (with_reducible exact trivial) | simp (maxSteps := 2000000) (disch := omega) only [go_sem, seval] | ((with_reducible refine isS ?_); first | refine cS (gLCheck b n) ?_ | fail) | ((with_reducible refine isE ?_); refine eA ?_; (repeat' (first | exact le_tq0 rfl | exact le_tq0r rfl | refine le_tqr rfl ?_ | refine le_tq rfl ?_ | exact trivial | refine le_int ?_ | refine le_bool ?_ | refine le_str ?_ | refine le_sl ?_ | refine le_own ?_ | refine le_osl ?_ | refine le_nsl ?_ | exact rfl | refine ⟨?_, ?_⟩ | fail))) | ((with_reducible refine isI ?_ ?_); (kernel_rfl)) | fail)
theorem gECheck (s : Ed) (hs : s.ok) : Good Tryd.prog Γ 27 [edA s] [] (.ret (.int .i64 0)) [] := by
  have h := gECheckI (Γ := Γ) s.b s.n s.o s.l
  rwa [if_pos ⟨hs.1, by omega, by have := hs.2; omega⟩] at h
theorem gERMayI (b : List UInt8) (n : Int) (o l : Bool) : Good Tryd.prog Γ 19 [edI b n o l] [] (.ret (.bool (decide (mayL b n)))) [] := by
  refine sh_start mixed F19 rfl ⟨(by first | exact rfl | (simp only [go_sem, seval]; done) | (simp only [go_sem, seval]; exact rfl)), (by first | exact rfl | (simp only [go_sem, seval]; done) | (simp only [go_sem, seval]; exact rfl)), (by first | exact rfl | (simp only [go_sem, seval]; done) | (simp only [go_sem, seval]; exact rfl)), (by first | exact rfl | (simp only [go_sem, seval]; done) | (simp only [go_sem, seval]; exact rfl)), (by first | exact rfl | (simp only [go_sem, seval]; done) | (simp only [go_sem, seval]; exact rfl))⟩ ?_
  repeat' (first | (with_reducible exact trivial) | simp (maxSteps := 2000000) (disch := omega) only [go_sem, seval] | ((with_reducible refine isS ?_); first | refine cS (gLMay b n) ?_ | fail) | ((with_reducible refine isE ?_); refine eA ?_; (repeat' (first | exact le_tq0 rfl | exact le_tq0r rfl | refine le_tqr rfl ?_ | refine le_tq rfl ?_ | exact trivial | refine le_int ?_ | refine le_bool ?_ | refine le_str ?_ | refine le_sl ?_ | refine le_own ?_ | refine le_osl ?_ | refine le_nsl ?_ | exact rfl | refine ⟨?_, ?_⟩ | fail))) | ((with_reducible refine isI ?_ ?_); (kernel_rfl)) | fail)
theorem gEKey (t : Tbl) (room : Int) (s : Ed) (k : UInt8) (hs : s.ok) {s' : Ed} {l : List Ev} {bell : Bool} (h : keyV t room s k = (s', l, bell)) :
    Good Tryd.prog Γ 10 [.agg (tq t), .int .i64 room, edA s, .int .u8 k.toNat] [] (.ret (.tup [edA s', outA l, .bool bell])) [] := by
  obtain ⟨b, n, o, lt⟩ := s
  have hc := gECheck (Γ := Γ) _ hs
  unfold keyV at h
  simp only at h hc
  cases lt
  · rw [if_neg (by decide)] at h
    have hm := gMeaning (Γ := Γ) t k
    generalize meaning t k = f at h hm
    refine sh_start mixed F10 rfl ⟨(by first | exact rfl | (simp only [go_sem, seval]; done) | (simp only [go_sem, seval]; exact rfl)), (by first | exact rfl | (simp only [go_sem, seval]; done) | (simp only [go_sem, seval]; exact rfl)), (by first | exact rfl | (simp only [go_sem, seval]; done) | (simp only [go_sem, seval]; exact rfl)), (by first | exact rfl | (simp only [go_sem, seval]; done) | (simp only [go_sem, seval]; exact rfl)), (by first | exact rfl | (simp only [go_sem, seval]; done) | (simp only [go_sem, seval]; exact rfl))⟩ ?_
    repeat' (first | (with_reducible exact trivial) | simp (maxSteps := 2000000) (disch := omega) only [go_sem, seval] | ((with_reducible refine isS ?_); first | refine cS (hc) ?_ | refine cS (hm) ?_ | refine cSA (gWMeans ⟨b, n, o, false⟩ room f k hs h) ?_ | fail) | ((with_reducible refine isT ?_); first | refine cT (hc) ?_ | refine cT (hm) ?_ | refine cTA (gWMeans ⟨b, n, o, false⟩ room f k hs h) ?_ | fail) | ((with_reducible refine isE ?_); refine eA ?_; (repeat' (first | exact le_tq0 rfl | exact le_tq0r rfl | refine le_tqr rfl ?_ | refine le_tq rfl ?_ | exact trivial | refine le_int ?_ | refine le_bool ?_ | refine le_str ?_ | refine le_sl ?_ | refine le_own ?_ | refine le_osl ?_ | refine le_nsl ?_ | exact rfl | refine ⟨?_, ?_⟩ | fail))) | ((with_reducible refine isI ?_ ?_); (kernel_rfl)) | fail)
  · rw [if_pos rfl] at h
    unfold typedV at h
    obtain ⟨d, m, ok, ht⟩ : ∃ d m ok, typeW b n room o k = (d, m, ok) := ⟨_, _, _, rfl⟩
    simp only at h
    rw [ht] at h
    cases h
    refine sh_start mixed F10 rfl ⟨(by first | exact rfl | (simp only [go_sem, seval]; done) | (simp only [go_sem, seval]; exact rfl)), (by first | exact rfl | (simp only [go_sem, seval]; done) | (simp only [go_sem, seval]; exact rfl)), (by first | exact rfl | (simp only [go_sem, seval]; done) | (simp only [go_sem, seval]; exact rfl)), (by first | exact rfl | (simp only [go_sem, seval]; done) | (simp only [go_sem, seval]; exact rfl)), (by first | exact rfl | (simp only [go_sem, seval]; done) | (simp only [go_sem, seval]; exact rfl))⟩ ?_
    repeat' (first | (with_reducible exact trivial) | simp (maxSteps := 2000000) (disch := omega) only [go_sem, seval] | ((with_reducible refine isS ?_); first | refine cS (hc) ?_ | refine cSA (gWTyped ⟨b, n, o, false⟩ room k hs ht) ?_ | fail) | ((with_reducible refine isT ?_); first | refine cT (hc) ?_ | refine cTA (gWTyped ⟨b, n, o, false⟩ room k hs ht) ?_ | fail) | ((with_reducible refine isE ?_); refine eA ?_; (repeat' (first | exact le_tq0 rfl | exact le_tq0r rfl | refine le_tqr rfl ?_ | refine le_tq rfl ?_ | exact trivial | refine le_int ?_ | refine le_bool ?_ | refine le_str ?_ | refine le_sl ?_ | refine le_own ?_ | refine le_osl ?_ | refine le_nsl ?_ | exact rfl | refine ⟨?_, ?_⟩ | fail))) | ((with_reducible refine isI ?_ ?_); (kernel_rfl)) | fail)
theorem gEKeyNo (t : Tbl) (room : Int) (b : List UInt8) (n : Int) (o l : Bool) (k : UInt8) (hs : ¬ mayL b n) :
    Good Tryd.prog Γ 10 [.agg (tq t), .int .i64 room, edI b n o l, .int .u8 k.toNat] [] (.ret (.tup [edI b n o l, outA [], .bool false])) [] := by
  have hc := gECheckI (Γ := Γ) b n o l
  rw [if_neg hs] at hc
  refine sh_start mixed F10 rfl ⟨(by first | exact rfl | (simp only [go_sem, seval]; done) | (simp only [go_sem, seval]; exact rfl)), (by first | exact rfl | (simp only [go_sem, seval]; done) | (simp only [go_sem, seval]; exact rfl)), (by first | exact rfl | (simp only [go_sem, seval]; done) | (simp only [go_sem, seval]; exact rfl)), (by first | exact rfl | (simp only [go_sem, seval]; done) | (simp only [go_sem, seval]; exact rfl)), (by first | exact rfl | (simp only [go_sem, seval]; done) | (simp only [go_sem, seval]; exact rfl))⟩ ?_
  repeat' (first | (with_reducible exact trivial) | simp (maxSteps := 2000000) (disch := omega) only [go_sem, seval] | ((with_reducible refine isS ?_); first | refine cS (hc) ?_ | fail) | ((with_reducible refine isT ?_); first | refine cT (hc) ?_ | fail) | ((with_reducible refine isE ?_); refine eA ?_; (repeat' (first | exact le_tq0 rfl | exact le_tq0r rfl | refine le_tqr rfl ?_ | refine le_tq rfl ?_ | exact trivial | refine le_int ?_ | refine le_bool ?_ | refine le_str ?_ | refine le_sl ?_ | refine le_own ?_ | refine le_osl ?_ | refine le_nsl ?_ | exact rfl | refine ⟨?_, ?_⟩ | fail))) | ((with_reducible refine isI ?_ ?_); (kernel_rfl)) | fail)
theorem gESignal (s : Ed) (f : Int) (hs : s.ok) (h1 : 1 ≤ f) (h9 : f ≤ 9) : Good Tryd.prog Γ 25 [edA s, .int .i64 f] [] (.ret (.tup [edA (sigV s f).1, outA [(sigV s f).2], .int .i64 0])) [] := by
  have hc := gECheck (Γ := Γ) s hs
  refine sh_start mixed F25 rfl ⟨(by first | exact rfl | (simp only [go_sem, seval]; done) | (simp only [go_sem, seval]; exact rfl)), (by first | exact rfl | (simp only [go_sem, seval]; done) | (simp only [go_sem, seval]; exact rfl)), (by first | exact rfl | (simp only [go_sem, seval]; done) | (simp only [go_sem, seval]; exact rfl)), (by first | exact rfl | (simp only [go_sem, seval]; done) | (simp only [go_sem, seval]; exact rfl)), (by first | exact rfl | (simp only [go_sem, seval]; done) | (simp only [go_sem, seval]; exact rfl))⟩ ?_
  repeat' (first | (with_reducible exact trivial) | simp (maxSteps := 2000000) (disch := omega) only [go_sem, seval] | ((with_reducible refine isS ?_); first | refine cS (hc) ?_ | refine cSA (gWSignal s 0 f hs.1) ?_ | fail) | ((with_reducible refine isT ?_); first | refine cT (hc) ?_ | refine cTA (gWSignal s 0 f hs.1) ?_ | fail) | ((with_reducible refine isE ?_); refine eA ?_; (repeat' (first | exact le_tq0 rfl | exact le_tq0r rfl | refine le_tqr rfl ?_ | refine le_tq rfl ?_ | exact trivial | refine le_int ?_ | refine le_bool ?_ | refine le_str ?_ | refine le_sl ?_ | refine le_own ?_ | refine le_osl ?_ | refine le_nsl ?_ | exact rfl | refine ⟨?_, ?_⟩ | fail))) | ((with_reducible refine isI ?_ ?_); (kernel_rfl)) | fail)
theorem gESignalNo (b : List UInt8) (n : Int) (o l : Bool) (f : Int) (h : ¬ (mayL b n ∧ 1 ≤ f ∧ f ≤ 9)) : Good Tryd.prog Γ 25 [edI b n o l, .int .i64 f] [] (.ret (.tup [edI b n o l, outA [], .int .i64 1])) [] := by
  have hc := gECheckI (Γ := Γ) b n o l
  by_cases hm : mayL b n
  · rw [if_pos hm] at hc
    by_cases h1 : 1 ≤ f
    · have h9 : ¬ f ≤ 9 := fun e => h ⟨hm, h1, e⟩
      refine sh_start mixed F25 rfl ⟨(by first | exact rfl | (simp only [go_sem, seval]; done) | (simp only [go_sem, seval]; exact rfl)), (by first | exact rfl | (simp only [go_sem, seval]; done) | (simp only [go_sem, seval]; exact rfl)), (by first | exact rfl | (simp only [go_sem, seval]; done) | (simp only [go_sem, seval]; exact rfl)), (by first | exact rfl | (simp only [go_sem, seval]; done) | (simp only [go_sem, seval]; exact rfl)), (by first | exact rfl | (simp only [go_sem, seval]; done) | (simp only [go_sem, seval]; exact rfl))⟩ ?_
      repeat' (first | (with_reducible exact trivial) | simp (maxSteps := 2000000) (disch := omega) only [go_sem, seval] | ((with_reducible refine isS ?_); first | refine cS (hc) ?_ | fail) | ((with_reducible refine isT ?_); first | refine cT (hc) ?_ | fail) | ((with_reducible refine isE ?_); refine eA ?_; (repeat' (first | exact le_tq0 rfl | exact le_tq0r rfl | refine le_tqr rfl ?_ | refine le_tq rfl ?_ | exact trivial | refine le_int ?_ | refine le_bool ?_ | refine le_str ?_ | refine le_sl ?_ | refine le_own ?_ | refine le_osl ?_ | refine le_nsl ?_ | exact rfl | refine ⟨?_, ?_⟩ | fail))) | ((with_reducible refine isI ?_ ?_); (kernel_rfl)) | fail)
    · refine sh_start mixed F25 rfl ⟨(by first | exact rfl | (simp only [go_sem, seval]; done) | (simp only [go_sem, seval]; exact rfl)), (by first | exact rfl | (simp only [go_sem, seval]; done) | (simp only [go_sem, seval]; exact rfl)), (by first | exact rfl | (simp only [go_sem, seval]; done) | (simp only [go_sem, seval]; exact rfl)), (by first | exact rfl | (simp only [go_sem, seval]; done) | (simp only [go_sem, seval]; exact rfl)), (by first | exact rfl | (simp only [go_sem, seval]; done) | (simp only [go_sem, seval]; exact rfl))⟩ ?_
      repeat' (first | (with_reducible exact trivial) | simp (maxSteps := 2000000) (disch := omega) only [go_sem, seval] | ((with_reducible refine isS ?_); first | refine cS (hc) ?_ | fail) | ((with_reducible refine isT ?_); first | refine cT (hc) ?_ | fail) | ((with_reducible refine isE ?_); refine eA ?_; (repeat' (first | exact le_tq0 rfl | exact le_tq0r rfl | refine le_tqr rfl ?_ | refine le_tq rfl ?_ | exact trivial | refine le_int ?_ | refine le_bool ?_ | refine le_str ?_ | refine le_sl ?_ | refine le_own ?_ | refine le_osl ?_ | refine le_nsl ?_ | exact rfl | refine ⟨?_, ?_⟩ | fail))) | ((with_reducible refine isI ?_ ?_); (kernel_rfl)) | fail)
  · rw [if_neg hm] at hc
    refine sh_start mixed F25 rfl ⟨(by first | exact rfl | (simp only [go_sem, seval]; done) | (simp only [go_sem, seval]; exact rfl)), (by first | exact rfl | (simp only [go_sem, seval]; done) | (simp only [go_sem, seval]; exact rfl)), (by first | exact rfl | (simp only [go_sem, seval]; done) | (simp only [go_sem, seval]; exact rfl)), (by first | exact rfl | (simp only [go_sem, seval]; done) | (simp only [go_sem, seval]; exact rfl)), (by first | exact rfl | (simp only [go_sem, seval]; done) | (simp only [go_sem, seval]; exact rfl))⟩ ?_
    repeat' (first | (with_reducible exact trivial) | simp (maxSteps := 2000000) (disch := omega) only [go_sem, seval] | ((with_reducible refine isS ?_); first | refine cS (hc) ?_ | fail) | ((with_reducible refine isT ?_); first | refine cT (hc) ?_ | fail) | ((with_reducible refine isE ?_); refine eA ?_; (repeat' (first | exact le_tq0 rfl | exact le_tq0r rfl | refine le_tqr rfl ?_ | refine le_tq rfl ?_ | exact trivial | refine le_int ?_ | refine le_bool ?_ | refine le_str ?_ | refine le_sl ?_ | refine le_own ?_ | refine le_osl ?_ | refine le_nsl ?_ | exact rfl | refine ⟨?_, ?_⟩ | fail))) | ((with_reducible refine isI ?_ ?_); (kernel_rfl)) | fail)
end Go.Proofs.YtmkblhinpnodaaaDoor
