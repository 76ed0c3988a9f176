/- Layer 16: what both have at rest: the plain law. Own work. -/
import Derived.Test.YtccdnkekmpndiaaMo
namespace Go.Proofs.Ytccdnkekmpndiaa
open Go Go.Shade
/-- What is asked for, as it is told. -/
def askS (s : Sub) : Prop := (s.l = [] ∧ mayS s) ∧ ((s.kind = 1 ∧ s.mode / 4 % 2 = 0) ∨ (s.kind = 2 ∧ (s.verb = 253 ∨ s.verb = 254)))
/-- An answer. -/
def ansS (s : Sub) : Prop := (s.l = [] ∧ mayS s) ∧ ((s.kind = 1 ∧ ¬ s.mode / 4 % 2 = 0) ∨ (s.kind = 2 ∧ (s.verb = 251 ∨ s.verb = 252)))
def nx (r : Rules) (s : Sub) : Rules := (takeF r s).1
def an (r : Rules) (s : Sub) : Sub := (takeF r s).2.1.headD s
theorem mayMode {s : Sub} (h : mayS s) (hk : s.kind = 1) : 0 ≤ s.mode ∧ s.mode < 32 := by
  rcases mayS_kind h with ⟨_, h1, h2⟩ | h1 | h1
  · exact ⟨h1, h2⟩
  · omega
  · omega
theorem take_ask {r : Rules} {s : Sub} (h : askS s) : takeF r s = (nx r s, [an r s], 0) ∧ ansS (an r s) ∧ (an r s).kind = s.kind ∧ (mayR r → mayR (nx r s)) ∧ (nx r s).may = r.may ∧
    (s.kind = 1 → an r s = modeS (s.mode + 4) ∧ nx r s = { r with mode := s.mode }) ∧
    (s.kind = 2 → an r s = fwdS (if s.verb = 253 ∧ r.may = true then 251 else 252) .zero ∧ nx r s = { r with on := decide (s.verb = 253 ∧ r.may = true), m := if s.verb = 253 ∧ r.may = true then s.m else .zero }) := by
  obtain ⟨⟨hl, hm⟩, ⟨hk, hb⟩ | ⟨hk, hv⟩⟩ := h
  · obtain ⟨h1, h2⟩ := mayMode hm hk
    have e : takeF r s = ({ r with mode := s.mode }, [modeS (s.mode + 4)], 0) := by unfold takeF; rw [if_pos ⟨hk, hb⟩]
    unfold nx an
    rw [e]
    refine ⟨rfl, ⟨⟨rfl, mayM _ (by omega) (by omega)⟩, .inl ⟨rfl, ?_⟩⟩, hk.symm, fun hr => ⟨⟨h1, h2, hb⟩, hr.2⟩, rfl, fun _ => ⟨rfl, rfl⟩, fun h => by omega⟩
    show ¬ (s.mode + 4) / 4 % 2 = 0
    omega
  · by_cases hc : s.verb = 253 ∧ r.may = true
    · have e : takeF r s = ({ r with on := true, m := s.m }, [fwdS 251 .zero], 0) := by
        unfold takeF
        rw [if_neg (fun k => by have := k.1; omega), if_pos ⟨hk, hc⟩]
      unfold nx an
      rw [e, if_pos hc, if_pos hc, decide_eq_true hc]
      exact ⟨rfl, ⟨⟨rfl, mayW _ (by omega) (by omega)⟩, .inr ⟨rfl, .inl rfl⟩⟩, hk.symm, fun hr => ⟨hr.1, by simp⟩, rfl, fun h => by omega, fun _ => ⟨rfl, rfl⟩⟩
    · have e : takeF r s = ({ r with on := false, m := .zero }, [fwdS 252 .zero], 0) := by
        unfold takeF
        rw [if_neg (fun k => by have := k.1; omega), if_neg (fun k => hc k.2), if_pos ⟨hk, hv⟩]
      unfold nx an
      rw [e, if_neg hc, if_neg hc, decide_eq_false hc]
      exact ⟨rfl, ⟨⟨rfl, mayW _ (by omega) (by omega)⟩, .inr ⟨rfl, .inr rfl⟩⟩, hk.symm, fun hr => ⟨hr.1, by simp⟩, rfl, fun h => by omega, fun _ => ⟨rfl, rfl⟩⟩
def rn (r : Rules) : List Sub → Rules
  | [] => r
  | s :: t => rn (nx r s) t
def ars (r : Rules) : List Sub → List Sub
  | [] => []
  | s :: t => an r s :: ars (nx r s) t
theorem rn_app : ∀ (l : List Sub) (r : Rules) (s : Sub), rn r (l ++ [s]) = nx (rn r l) s
  | [], _, _ => rfl
  | x :: l, r, s => rn_app l (nx r x) s
theorem ars_app : ∀ (l : List Sub) (r : Rules) (s : Sub), ars r (l ++ [s]) = ars r l ++ [an (rn r l) s]
  | [], _, _ => rfl
  | x :: l, r, s => by rw [List.cons_append, ars, ars_app l, ars, rn, List.cons_append]
def hasL (d : Int) : List Sub → Int
  | [] => d
  | s :: t => hasL (if s.kind = 1 then s.mode - 4 else d) t
theorem hasL_app : ∀ (l : List Sub) (d : Int) (s : Sub), hasL d (l ++ [s]) = if s.kind = 1 then s.mode - 4 else hasL d l
  | [], _, _ => rfl
  | x :: l, d, s => hasL_app l _ s
def lastV : List Sub → Option Int
  | [] => none
  | s :: t => match lastV t with
    | some v => some v
    | none => if s.kind = 2 then some s.verb else none
theorem lastV_app (s : Sub) : ∀ l : List Sub, lastV (l ++ [s]) = if s.kind = 2 then some s.verb else lastV l
  | [] => rfl
  | x :: l => by
    rw [List.cons_append, lastV, lastV_app s l, lastV]
    split
    · rename_i h
      split at h
      · rename_i h2; rw [if_pos h2, ← h]
      · rename_i h2; rw [if_neg h2, h]
    · rename_i h
      split at h
      · cases h
      · rename_i h2; rw [if_neg h2, h]
def cnt (k : Int) : List Sub → Nat
  | [] => 0
  | s :: t => (if s.kind = k then 1 else 0) + cnt k t
theorem cnt_app (k : Int) (s : Sub) : ∀ l : List Sub, cnt k (l ++ [s]) = cnt k l + if s.kind = k then 1 else 0
  | [] => by simp [cnt]
  | x :: l => by rw [List.cons_append, cnt, cnt_app k s l, cnt]; omega
theorem lastV_none : ∀ {l : List Sub}, lastV l = none ↔ cnt 2 l = 0
  | [] => by simp [lastV, cnt]
  | x :: l => by
    have ih := lastV_none (l := l)
    rw [lastV, cnt]
    cases h : lastV l with
    | none =>
      have h0 := ih.1 h
      by_cases hk : x.kind = 2
      · simp [hk]
      · simp [hk, h0]
    | some v =>
      have h0 : ¬ cnt 2 l = 0 := fun k => by rw [ih.2 k] at h; cases h
      simp only [reduceCtorEq, false_iff]
      omega
/-- What is kept. -/
structure Inv (may : Bool) (a : Asks) (r : Rules) (to fr : List Sub) (had : List Int) (asked said : Nat) : Prop where
  ma : mayA a
  mr : mayR r
  rm : r.may = may
  ht : ∀ s ∈ to, askS s
  hf : ∀ s ∈ fr, ansS s
  w : a.waits = (cnt 1 (fr ++ ars r to) : Int)
  m : a.masks = (cnt 2 (fr ++ ars r to) : Int)
  R : rn r to = ⟨a.asked, if may = true then a.fwd else .zero, a.on && may, may⟩
  H : hasL a.has (fr ++ ars r to) = a.asked
  G0 : lastV (fr ++ ars r to) = none → a.gotOn = (a.on && may) ∧ a.got = if (a.on && may) = true then a.fwd else .zero
  G1 : ∀ v, lastV (fr ++ ars r to) = some v → decide (v = 251) = (a.on && may)
  hd : ∀ s ∈ fr, s.kind = 1 → s.mode - 4 ∈ had
  hh : a.has ∈ had
  c1 : said + to.length ≤ 2 * asked
  c2 : had.length + to.length ≤ 1 + asked
def asksZ : Asks := ⟨0, 0, 0, .zero, .zero, false, false, 0⟩
def rulesZ (may : Bool) : Rules := ⟨0, .zero, false, may⟩
theorem inv0 (may : Bool) : Inv may asksZ (rulesZ may) [] [] [0] 0 0 where
  ma := ⟨by decide, by decide, by decide, by decide, by simp [asksZ], by simp [asksZ]⟩
  mr := ⟨by show isBits 0; decide, by simp [rulesZ]⟩
  rm := rfl
  ht := fun _ h => by cases h
  hf := fun _ h => by cases h
  w := rfl
  m := rfl
  R := by cases may <;> rfl
  H := rfl
  G0 := fun _ => by cases may <;> exact ⟨rfl, rfl⟩
  G1 := fun _ h => by cases h
  hd := fun _ h => by cases h
  hh := by simp [asksZ]
  c1 := by simp
  c2 := by simp
variable {may : Bool} {a b : Asks} {r : Rules} {to fr : List Sub} {had : List Int} {asked said : Nat}
theorem inv_take {s : Sub} (h : Inv may a r (s :: to) fr had asked said) : takeF r s = (nx r s, [an r s], 0) ∧ mayS s ∧ s.l = [] ∧ Inv may a (nx r s) to (fr ++ [an r s]) (had ++ [(nx r s).mode]) asked (said + 1) := by
  have hs := h.ht s (by simp)
  obtain ⟨h1, h2, h3, h4, h5, h6, h7⟩ := take_ask (r := r) hs
  have e : fr ++ [an r s] ++ ars (nx r s) to = fr ++ ars r (s :: to) := by rw [ars, List.append_assoc]; rfl
  have c1 := h.c1
  have c2 := h.c2
  rw [List.length_cons] at c1 c2
  refine ⟨h1, hs.1.2, hs.1.1, ⟨h.ma, h4 h.mr, h5.trans h.rm, fun x hx => h.ht x (by simp [hx]), fun x hx => ?_, by rw [e]; exact h.w, by rw [e]; exact h.m, h.R, by rw [e]; exact h.H, by rw [e]; exact h.G0, by rw [e]; exact h.G1, fun x hx hk => ?_, by simp [h.hh], by omega, by rw [List.length_append, List.length_cons, List.length_nil]; omega⟩⟩
  · rcases List.mem_append.1 hx with hx | hx
    · exact h.hf x hx
    · rw [List.mem_singleton] at hx; rw [hx]; exact h2
  · rcases List.mem_append.1 hx with hx | hx
    · exact List.mem_append.2 (.inl (h.hd x hx hk))
    · rw [List.mem_singleton] at hx
      subst hx
      rw [h3] at hk
      obtain ⟨k1, k2⟩ := h6 hk
      rw [k1, k2]
      refine List.mem_append.2 (.inr (List.mem_singleton.2 ?_))
      show s.mode + 4 - 4 = s.mode
      omega
theorem inv_answer {s : Sub} (h : Inv may a r to (s :: fr) had asked said) : ∃ b, answerF a s = (b, 0) ∧ mayS s ∧ s.l = [] ∧ b.asked = a.asked ∧ b.has ∈ had ∧ Inv may b r to fr had asked said := by
  have hs := h.hf s (by simp)
  have hma := h.ma
  have w := h.w
  have m := h.m
  have H := h.H
  have G0 := h.G0
  have G1 := h.G1
  rw [List.cons_append] at w m H G0 G1
  rw [cnt] at w m
  rw [hasL] at H
  rw [lastV] at G0 G1
  obtain ⟨b1, b2, b3, b4, b5, b6⟩ := id hma
  obtain ⟨⟨hl, hm⟩, ⟨hk, hb⟩ | ⟨hk, hv⟩⟩ := hs
  · obtain ⟨k1, k2⟩ := mayMode hm hk
    rw [if_pos hk] at w H
    rw [if_neg (by omega)] at m
    have hn : ¬ s.kind = 2 := by omega
    rw [if_neg hn] at G0 G1
    have hhad := h.hd s (by simp) hk
    refine ⟨{ a with waits := a.waits - 1, has := s.mode - 4 }, ?_, hm, hl, rfl, hhad, ?_⟩
    · unfold answerF
      rw [if_pos hma, if_pos ⟨hk, hb, by omega⟩]
    · refine ⟨⟨b1, bits_sub k1 k2 hb, by simp only; omega, b4, b5, b6⟩, h.mr, h.rm, h.ht, fun x hx => h.hf x (by simp [hx]), by simp only; omega, by simp only; omega, h.R, H, fun e => ?_, fun v e => ?_, fun x hx => h.hd x (by simp [hx]), hhad, h.c1, h.c2⟩
      · rw [e] at G0; exact G0 rfl
      · rw [e] at G1; exact G1 v rfl
  · have hn : ¬ s.kind = 1 := by omega
    rw [if_neg hn] at w H
    rw [if_pos hk] at m
    rw [if_pos hk] at G0 G1
    refine ⟨gotF a (decide (s.verb = 251)), ?_, hm, hl, ?_, ?_, ?_⟩
    · unfold answerF
      rw [if_pos hma, if_neg (fun k => hn k.1), if_pos ⟨hk, hv, by omega⟩]
    · unfold gotF; split <;> rfl
    · have := h.hh; unfold gotF; split <;> exact this
    by_cases h1 : a.masks = 1
    · have hz : cnt 2 (fr ++ ars r to) = 0 := by omega
      have hno := lastV_none.2 hz
      rw [hno] at G1
      have hg := G1 s.verb rfl
      unfold gotF
      rw [if_pos h1, hg]
      have e1 : (a.on && may && a.on) = (a.on && may) := by cases a.on <;> cases may <;> rfl
      rw [e1]
      refine ⟨⟨b1, b2, b3, by simp only; omega, b5, ?_⟩, h.mr, h.rm, h.ht, fun x hx => h.hf x (by simp [hx]), by simp only; omega, by simp only; omega, h.R, H, fun _ => ⟨rfl, rfl⟩, fun v e => ?_, fun x hx => h.hd x (by simp [hx]), h.hh, h.c1, h.c2⟩
      · cases h : (a.on && may) <;> simp
      · rw [hno] at e; cases e
    · unfold gotF
      rw [if_neg h1]
      have hz : ¬ cnt 2 (fr ++ ars r to) = 0 := by omega
      refine ⟨⟨b1, b2, b3, by simp only; omega, b5, b6⟩, h.mr, h.rm, h.ht, fun x hx => h.hf x (by simp [hx]), by simp only; omega, by simp only; omega, h.R, H, fun e => absurd (lastV_none.1 e) hz, fun v e => ?_, fun x hx => h.hd x (by simp [hx]), h.hh, h.c1, h.c2⟩
      rw [e] at G1; exact G1 v rfl
theorem modeS_ask {k : Int} (h : isBits k) : askS (modeS k) := by
  obtain ⟨h1, h2, h3⟩ := h
  exact ⟨⟨rfl, mayM _ h1 (by omega)⟩, .inl ⟨rfl, h3⟩⟩
theorem fwdS_ask (on : Bool) (m : Mask) : askS (fwdS (if on = true then 253 else 254) (fwdM on m)) := by
  refine ⟨⟨rfl, mayF on m⟩, .inr ⟨rfl, ?_⟩⟩
  cases on
  · exact .inr rfl
  · exact .inl rfl
theorem inv_ask {x : Ask} {l : List Sub} (h : Inv may a r to fr had asked said) (he : askF a x = (b, l, 0)) : Inv may b r (to ++ l) fr had (asked + 1) (said + l.length) ∧ l.length ≤ 1 := by
  obtain ⟨n, ms, on, m⟩ := x
  obtain ⟨b1, b2, b3, b4, b5, b6⟩ := id h.ma
  have same : Inv may a r (to ++ []) fr had (asked + 1) (said + ([] : List Sub).length) ∧ ([] : List Sub).length ≤ 1 := by
    rw [List.append_nil]
    have := h.c1
    have := h.c2
    exact ⟨⟨h.ma, h.mr, h.rm, h.ht, h.hf, h.w, h.m, h.R, h.H, h.G0, h.G1, h.hd, h.hh, by rw [List.length_nil]; omega, by omega⟩, by simp⟩
  unfold askF at he
  simp only at he
  have c1 := h.c1
  have c2 := h.c2
  cases ms
  · rw [if_neg (by simp)] at he
    unfold modeF at he
    split at he
    · rename_i hc
      obtain ⟨ha, k1, k2⟩ := hc
      split at he
      · cases he; exact same
      · split at he
        · cases he
        · rename_i hk hw
          cases he
          have hb := clr4_bits k1 k2
          generalize clr4 n = k at hb hk
          have hs := modeS_ask hb
          obtain ⟨t1, t2, t3, t4, t5, t6, t7⟩ := take_ask (r := rn r to) hs
          obtain ⟨t6, t8⟩ := t6 rfl
          have e : fr ++ ars r (to ++ [modeS k]) = (fr ++ ars r to) ++ [modeS (k + 4)] := by rw [ars_app, ← List.append_assoc, t6]; rfl
          refine ⟨⟨⟨hb, b2, by simp only; omega, b4, b5, b6⟩, h.mr, h.rm, fun y hy => ?_, h.hf, ?_, ?_, ?_, ?_, ?_, ?_, h.hd, h.hh, by rw [List.length_append, List.length_cons, List.length_nil]; omega, by rw [List.length_append, List.length_cons, List.length_nil]; omega⟩, by simp⟩
          · rcases List.mem_append.1 hy with hy | hy
            · exact h.ht y hy
            · rw [List.mem_singleton] at hy; rw [hy]; exact hs
          · rw [e, cnt_app]; show a.waits + 1 = ((cnt 1 (fr ++ ars r to) + (if (1 : Int) = 1 then 1 else 0) : Nat) : Int); rw [if_pos rfl]; have := h.w; omega
          · rw [e, cnt_app, if_neg (show ¬ (modeS (k + 4)).kind = 2 by show ¬ (1 : Int) = 2; decide)]; exact h.m
          · rw [rn_app, t8, h.R]; rfl
          · rw [e, hasL_app]; show (if (1 : Int) = 1 then k + 4 - 4 else _) = k; rw [if_pos rfl]; omega
          · rw [e, lastV_app, if_neg (show ¬ (modeS (k + 4)).kind = 2 by show ¬ (1 : Int) = 2; decide)]; exact h.G0
          · rw [e, lastV_app, if_neg (show ¬ (modeS (k + 4)).kind = 2 by show ¬ (1 : Int) = 2; decide)]; exact h.G1
    · cases he
  · rw [if_pos rfl] at he
    unfold fwdF at he
    split at he
    · rename_i ha
      split at he
      · cases he; exact same
      · split at he
        · cases he
        · rename_i hk hw
          cases he
          have hs := fwdS_ask on m
          obtain ⟨t1, t2, t3, t4, t5, t6, t7⟩ := take_ask (r := rn r to) hs
          obtain ⟨t6, t8⟩ := t7 rfl
          have hrm : (rn r to).may = may := by rw [h.R]
          have hv : (fwdS (if on = true then 253 else 254) (fwdM on m)).verb = if on = true then 253 else 254 := rfl
          have hc : ((fwdS (if on = true then 253 else 254) (fwdM on m)).verb = 253 ∧ (rn r to).may = true) ↔ (on && may) = true := by
            rw [hv, hrm]
            cases on <;> cases may <;> simp
          have e : fr ++ ars r (to ++ [fwdS (if on = true then 253 else 254) (fwdM on m)]) = (fr ++ ars r to) ++ [fwdS (if (on && may) = true then 251 else 252) .zero] := by
            rw [ars_app, ← List.append_assoc, t6]
            congr 3
            by_cases hx : (on && may) = true
            · rw [if_pos hx, if_pos (hc.2 hx)]
            · rw [if_neg hx, if_neg (fun k => hx (hc.1 k))]
          refine ⟨⟨⟨b1, b2, b3, by simp only; omega, ?_, b6⟩, h.mr, h.rm, fun y hy => ?_, h.hf, ?_, ?_, ?_, ?_, ?_, ?_, h.hd, h.hh, by rw [List.length_append, List.length_cons, List.length_nil]; omega, by rw [List.length_append, List.length_cons, List.length_nil]; omega⟩, by simp⟩
          · cases on <;> simp [fwdM]
          · rcases List.mem_append.1 hy with hy | hy
            · exact h.ht y hy
            · rw [List.mem_singleton] at hy; rw [hy]; exact hs
          · rw [e, cnt_app]; show a.waits = ((cnt 1 (fr ++ ars r to) + (if (2 : Int) = 1 then 1 else 0) : Nat) : Int); rw [if_neg (by decide)]; exact h.w
          · rw [e, cnt_app]; show a.masks + 1 = ((cnt 2 (fr ++ ars r to) + (if (2 : Int) = 2 then 1 else 0) : Nat) : Int); rw [if_pos rfl]; have := h.m; omega
          · rw [rn_app, t8, h.R]
            cases on <;> cases may <;> simp [fwdS, fwdM]
          · rw [e, hasL_app]; show (if (2 : Int) = 1 then _ else hasL a.has (fr ++ ars r to)) = a.asked; rw [if_neg (by decide)]; exact h.H
          · rw [e, lastV_app]; show (if (2 : Int) = 2 then some _ else _) = none → _; rw [if_pos rfl]; intro k; cases k
          · rw [e, lastV_app]
            show ∀ v, (if (2 : Int) = 2 then some (if (on && may) = true then (251 : Int) else 252) else _) = some v → _
            rw [if_pos rfl]
            intro v hv
            cases hv
            show decide ((if (on && may) = true then (251 : Int) else 252) = 251) = (on && may)
            cases (on && may) <;> rfl
    · cases he
theorem inv_end (h : Inv may a r [] [] had asked said) : a.waits = 0 ∧ a.masks = 0 ∧ a.has = a.asked ∧ r = ⟨a.asked, if may = true then a.fwd else .zero, a.on && may, may⟩ ∧ a.gotOn = (a.on && may) ∧ a.got = (if may = true then a.fwd else .zero) ∧ said ≤ 2 * asked := by
  have w := h.w
  have m := h.m
  have H := h.H
  have G0 := h.G0 rfl
  have c1 := h.c1
  refine ⟨w, m, H, h.R, G0.1, ?_, by simpa using c1⟩
  rw [G0.2]
  have b5 := h.ma.2.2.2.2.1
  cases ho : a.on <;> cases may <;> simp [ho] at b5 ⊢
  exact b5.symm
end Go.Proofs.Ytccdnkekmpndiaa
