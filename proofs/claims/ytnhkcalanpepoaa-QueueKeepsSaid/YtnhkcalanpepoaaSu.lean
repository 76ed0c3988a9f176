/- Evaluation of code over lists of slots and names, to be done by simp, one step at a time, values first. Own work. -/
import Derived.Test.YtnhkcalanpepoaaSs
namespace Go.Shade
open Go

def bindO {α : Type} (o : Option α) (k : α → Prop) : Prop := ∃ a, o = some a ∧ k a
def putL (L : EL) (dst : Option Nat) (r : AV) : EL := match dst with
  | some d => (d, r) :: L
  | none => L
theorem look_putL (L : EL) (dst : Option Nat) (r : AV) : look (putL L dst r) = putE (look L) dst r := by
  cases dst with
  | none => rfl
  | some d => funext i; rfl
theorem memL_cons (M : ML) (n : Nat) (r : Res) : memL ((n, r) :: M) = upd (memL M) n (some r) := by
  funext i
  simp [memL, upd]

abbrev QE := EX → EL → ML → Prop
def toQ (Q : QE) : QS := fun e env m => ∃ L M, env = look L ∧ m = memL M ∧ Q e L M
def toK (K : EL → ML → Prop) : (Nat → AV) → Mem → Prop := fun env m => ∃ L M, env = look L ∧ m = memL M ∧ K L M
def toP (pn : Value → EL → ML → Prop) : Value → (Nat → AV) → Mem → Prop := fun v env m => ∃ L M, env = look L ∧ m = memL M ∧ pn v L M

/-! ### Memory -/
def loadE (agg : Bool) (n : Nat) (M : ML) : AV → Option AV
  | .ptr b off => match memL M b with
    | some (.box cs _) => subA agg cs off n
    | _ => none
  | .cptr cs => subP agg cs n
  | _ => none
def storeE (n : Nat) (M : ML) (x : AV) : AV → Option ML
  | .ptr b off => match memL M b with
    | some (.box cs false) => if x.celled && x.cells.all AV.oneCell && x.cells.length == n && decide (off + n ≤ cs.length) then some ((b, .box (cs.take off ++ x.cells ++ cs.drop (off + n)) false) :: M) else none
    | _ => none
  | _ => none
def freshE (M : ML) : Bool := (memL M M.length).isNone
def boxE (M : ML) (x : AV) : Option (AV × ML) := if freshE M && x.celled then some (.ptr M.length 0, (M.length, .box x.cells false) :: M) else none
def bsliceE (M : ML) (sz len : Nat) (zero : List PV) (vs : List (Nat × AV)) : Option (AV × ML) :=
  (vs.mapM (fun (p : Nat × AV) => (toPVs p.2.cells).map fun l => (p.1, l))).bind fun ps =>
    if freshE M && (vs.all fun p => p.2.celled) && (ps.all fun p => p.2.length == sz && p.2.all PV.oneCell && decide (p.1 < len)) && zero.length == sz && zero.all PV.oneCell && decide (len ≤ 281474976710656) then
      some (.own M.length sz (setEls (List.replicate len zero) ps), (M.length, .tok) :: M) else none
def appE (M : ML) (sz bytes : Nat) (zero : List PV) (s x : AV) : Option (AV × ML) :=
  (x.asSrc sz).bind fun ys => (s.asSl sz).bind fun xs =>
    if freshE M ∧ zero.length = sz ∧ sz ≠ 0 ∧ bytes ≠ 0 ∧ zero.all PV.oneCell ∧ (xs.length + ys.length) * bytes ≤ 140737488355328 then
      match s with
      | .own t _ _ => match memL M t with
        | some .tok => some (.own M.length sz (xs ++ ys), (M.length, .tok) :: (t, .dead) :: M)
        | _ => none
      | .p (.s (.slice none 0 0)) => some (.own M.length sz ys, (M.length, .tok) :: M)
      | _ => none
    else none
def intO : Option AV → Option (Option Int)
  | none => some none
  | some x => x.asInt.map some
def asliceE (M : ML) (sz len : Nat) (lo hi : Option AV) : AV → Option (AV × ML)
  | .ptr b off => match memL M b with
    | some (.box cs _) => (intO lo).bind fun lo => (intO hi).bind fun hi => (bounds len lo hi).bind fun (l, h) => (toPVs ((cs.drop (off + l)).take (h - l))).bind fun ps =>
      if sz = 1 ∧ off + h ≤ cs.length ∧ ps.all PV.oneCell ∧ len ≤ 281474976710656 then some (.p (.sl 1 (ps.map fun p => [p])), (b, .box cs true) :: M) else none
    | _ => none
  | _ => none

/-- Operations that came later. -/
def extE (e : EOp) (vs : List AV) (M : ML) : Option (AV × ML) := match ePure e vs with
  | some r => some (r, M)
  | none => (eMem e vs (memL M) M.length).map fun p => (p.1, p.2 ++ M)
theorem memL_app : ∀ (us M : ML), memL (us ++ M) = updL (memL M) us
  | [], M => rfl
  | (k, r) :: us, M => by
    funext n
    have ih := congrFun (memL_app us M) n
    simp only [updL] at ih ⊢
    rw [List.cons_append, memL, memL]
    by_cases h : n = k
    · simp [h]
    · simp only [if_neg h]
      exact ih

/-! ### Operations -/
def callE (P : Program) (Γ : Globs) (pn : Value → EL → ML → Prop) (fv : AV) (args : List AV) (dst : Option Nat) (L : EL) (M : ML) (K : EL → ML → Prop) : Prop :=
  callO P Γ (toP pn) fv args dst (look L) (memL M) (toK K)
def panE (pn : Value → EL → ML → Prop) (x : AV) (L : EL) (M : ML) : Prop := ∃ t v, x = .p (.s (.iface t v)) ∧ pn (.iface t v) L M
def stepE (P : Program) (Γ : Globs) (pn : Value → EL → ML → Prop) (o : CO) (L : EL) (M : ML) (K : EL → ML → Prop) : Prop :=
  match o.op with
  | .call f args => callE P Γ pn (f.ev Γ (look L)) (args.map (X.ev Γ (look L))) o.dst L M K
  | .panic x => panE pn (x.ev Γ (look L)) L M
  | .isnil neg x => nilO neg (x.ev Γ (look L)) fun r => K (putL L o.dst r) M
  | .load agg n a => bindO (loadE agg n M (a.ev Γ (look L))) fun r => K (putL L o.dst r) M
  | .store n a x => bindO (storeE n M (x.ev Γ (look L)) (a.ev Γ (look L))) fun M' => K (putL L o.dst .junk) M'
  | .box x => bindO (boxE M (x.ev Γ (look L))) fun r => K (putL L o.dst r.1) r.2
  | .alloc zero => bindO (boxE M (.agg (zero.map AV.p))) fun r => K (putL L o.dst r.1) r.2
  | .bslice sz len zero parts => bindO (bsliceE M sz len zero (parts.map fun p => (p.1, p.2.ev Γ (look L)))) fun r => K (putL L o.dst r.1) r.2
  | .append sz bytes zero s x => bindO (appE M sz bytes zero (s.ev Γ (look L)) (x.ev Γ (look L))) fun r => K (putL L o.dst r.1) r.2
  | .aslice sz len x lo hi => bindO (asliceE M sz len (lo.map (X.ev Γ (look L))) (hi.map (X.ev Γ (look L))) (x.ev Γ (look L))) fun r => K (putL L o.dst r.1) r.2
  | .ext e xs => bindO (extE e (xs.map (X.ev Γ (look L))) M) fun r => K (putL L o.dst r.1) r.2
  | c => bindO (cpure Γ (look L) c) fun r => K (putL L o.dst r) M
def gateE (v : AV) (b : Bool) (A B : Prop) : Prop := (∃ t, v = .bool t ∧ (t = b → A) ∧ (t ≠ b → B)) ∨ (v = undA ∧ B)
def runE (P : Program) (Γ : Globs) (pn : Value → EL → ML → Prop) : List CO → EL → ML → (EL → ML → Prop) → Prop
  | [], L, M, K => K L M
  | ⟨dst, op, none⟩ :: l, L, M, K => stepE P Γ pn ⟨dst, op, none⟩ L M (fun L M => runE P Γ pn l L M K)
  | ⟨dst, op, some (s, b)⟩ :: l, L, M, K => gateE (look L s) b (stepE P Γ pn ⟨dst, op, some (s, b)⟩ L M (fun L M => runE P Γ pn l L M K)) (runE P Γ pn l (putL L dst undA) M K)

section
variable {P : Program} {Γ : Globs} {pn : Value → EL → ML → Prop} {L : EL} {M : ML} {K : EL → ML → Prop} {o : CO}

theorem toK_put {dst : Option Nat} {r : AV} (h : K (putL L dst r) M) : toK K (putE (look L) dst r) (memL M) := ⟨_, _, (look_putL _ _ _).symm, rfl, h⟩

theorem parts_eq : ∀ parts : List (Nat × X), (parts.mapM fun (p : Nat × X) => (toPVs (p.2.ev Γ (look L)).cells).map fun l => (p.1, l)) = (parts.map fun p => (p.1, p.2.ev Γ (look L))).mapM (fun (p : Nat × AV) => (toPVs p.2.cells).map fun l => (p.1, l))
  | [] => rfl
  | p :: parts => by rw [List.map_cons, List.mapM_cons, List.mapM_cons, parts_eq parts]

theorem cmem_box {x : X} {r : AV × ML} (h : boxE M (x.ev Γ (look L)) = some r) : cmem Γ (look L) (memL M) M.length (.box x) = some (r.1, memL r.2) := by
  unfold boxE at h
  split at h
  · rename_i hc
    cases h
    simp only [Bool.and_eq_true, freshE, Option.isNone_iff_eq_none] at hc
    simp only [cmem, hc.1, hc.2, if_true, memL_cons]
  · cases h

theorem stepE_sound (h : stepE P Γ pn o L M K) : stepO P Γ (toP pn) o (look L) (memL M) (toK K) := by
  obtain ⟨dst, op, gd⟩ := o
  have pure : (∃ r, cpure Γ (look L) op = some r ∧ K (putL L dst r) M) → (∀ f args, op ≠ .call f args) → (∀ x, op ≠ .panic x) → (∀ neg x, op ≠ .isnil neg x) → stepO P Γ (toP pn) ⟨dst, op, gd⟩ (look L) (memL M) (toK K) := by
    rintro ⟨r, hr, hk⟩ h1 h2 h3
    unfold stepO
    split
    · rename_i f args e; exact absurd e (h1 f args)
    · rename_i x e; exact absurd e (h2 x)
    · rename_i neg x e; exact absurd e (h3 neg x)
    · simp only [hr]
      exact toK_put hk
  have mem : (∃ nm r M', cpure Γ (look L) op = none ∧ cmem Γ (look L) (memL M) nm op = some (r, memL M') ∧ K (putL L dst r) M') → (∀ f args, op ≠ .call f args) → (∀ x, op ≠ .panic x) → (∀ neg x, op ≠ .isnil neg x) → stepO P Γ (toP pn) ⟨dst, op, gd⟩ (look L) (memL M) (toK K) := by
    rintro ⟨nm, r, M', hp, hr, hk⟩ h1 h2 h3
    unfold stepO
    split
    · rename_i f args e; exact absurd e (h1 f args)
    · rename_i x e; exact absurd e (h2 x)
    · rename_i neg x e; exact absurd e (h3 neg x)
    · simp only [hp]
      refine ⟨nm, ?_⟩
      simp only [hr]
      exact toK_put hk
  cases op <;> simp only [stepE] at h
  case ext e xs =>
    obtain ⟨⟨r, M'⟩, hr, hk⟩ := h
    unfold extE at hr
    split at hr
    · rename_i r' hp
      cases hr
      exact pure ⟨r, by simp only [cpure, hp], hk⟩ (by simp) (by simp) (by simp)
    · rename_i hp
      obtain ⟨⟨r', us⟩, he, hh⟩ := Option.map_eq_some_iff.1 hr
      simp only [Prod.mk.injEq] at hh
      obtain ⟨rfl, rfl⟩ := hh
      exact mem ⟨M.length, _, _, by simp only [cpure, hp], by simp only [cmem, he, Option.map_some, memL_app], hk⟩ (by simp) (by simp) (by simp)
  case call f args => exact h
  case panic x =>
    obtain ⟨t, v, hx, hp⟩ := h
    unfold stepO
    simp only [hx]
    exact ⟨_, _, rfl, rfl, hp⟩
  case isnil neg x =>
    unfold stepO
    simp only
    unfold nilO at *
    split at h
    · exact toK_put h
    · exact ⟨toK_put h.1, toK_put h.2⟩
    · exact h.elim
  case load agg n a =>
    obtain ⟨r, hr, hk⟩ := h
    unfold loadE at hr
    split at hr
    · rename_i b off hev
      refine mem ⟨0, r, M, by simp [cpure, hev], ?_, hk⟩ (by simp) (by simp) (by simp)
      split at hr
      · rename_i cs fz hm
        simp only [cmem, hev, hm, hr, Option.map_some]
      · cases hr
    · rename_i cs hev
      exact pure ⟨r, by simp [cpure, hev, hr], hk⟩ (by simp) (by simp) (by simp)
    · cases hr
  case store n a x =>
    obtain ⟨M', hr, hk⟩ := h
    unfold storeE at hr
    split at hr
    · rename_i b off hev
      split at hr
      · rename_i cs hm
        split at hr
        · rename_i hc
          cases hr
          refine mem ⟨0, .junk, _, by simp [cpure], ?_, hk⟩ (by simp) (by simp) (by simp)
          simp only [cmem, hev, hm, hc, if_true, memL_cons]
        · cases hr
      · cases hr
    · cases hr
  case box x =>
    obtain ⟨r, hr, hk⟩ := h
    exact mem ⟨M.length, r.1, r.2, by simp [cpure], cmem_box hr, hk⟩ (by simp) (by simp) (by simp)
  case alloc zero =>
    obtain ⟨r, hr, hk⟩ := h
    unfold boxE at hr
    split at hr
    · rename_i hc
      cases hr
      simp only [Bool.and_eq_true, freshE, Option.isNone_iff_eq_none] at hc
      refine mem ⟨M.length, _, _, by simp [cpure], ?_, hk⟩ (by simp) (by simp) (by simp)
      simp only [cmem, hc.1, memL_cons, AV.cells]
    · cases hr
  case bslice sz len zero parts =>
    obtain ⟨r, hr, hk⟩ := h
    unfold bsliceE at hr
    obtain ⟨ps, hps, hr⟩ := Option.bind_eq_some_iff.1 hr
    split at hr
    · rename_i hc
      cases hr
      have e1 := (parts_eq parts).trans hps
      have e2 : (parts.all fun p => (p.2.ev Γ (look L)).celled) = (parts.map fun p => (p.1, p.2.ev Γ (look L))).all fun p => p.2.celled := by
        rw [List.all_map]
        rfl
      refine mem ⟨M.length, _, _, by simp [cpure], ?_, hk⟩ (by simp) (by simp) (by simp)
      simp only [Bool.and_eq_true, freshE, Option.isNone_iff_eq_none] at hc
      simp only [cmem, e1, hc.1.1.1.1.1, memL_cons]
      rw [if_pos]
      simp only [Bool.and_eq_true]
      exact ⟨⟨⟨⟨by rw [e2]; exact hc.1.1.1.1.2, hc.1.1.1.2⟩, hc.1.1.2⟩, hc.1.2⟩, hc.2⟩
    · cases hr
  case append sz bytes zero s x =>
    obtain ⟨r, hr, hk⟩ := h
    unfold appE at hr
    obtain ⟨ys, hy, hr⟩ := Option.bind_eq_some_iff.1 hr
    obtain ⟨xs, hx, hr⟩ := Option.bind_eq_some_iff.1 hr
    split at hr
    · rename_i hc
      obtain ⟨hc0, hc⟩ := hc
      simp only [freshE, Option.isNone_iff_eq_none] at hc0
      refine mem ⟨M.length, r.1, r.2, by simp [cpure], ?_, hk⟩ (by simp) (by simp) (by simp)
      simp only [cmem, hy, hx, hc0]
      rw [if_pos hc]
      split at hr
      · rename_i t sz' xs' hev
        split at hr
        · rename_i ht
          cases hr
          simp only [hev, ht, memL_cons]
        · cases hr
      · rename_i hev
        cases hr
        simp only [hev, memL_cons]
      · cases hr
    · cases hr
  case aslice sz len x lo hi =>
    obtain ⟨r, hr, hk⟩ := h
    unfold asliceE at hr
    split at hr
    · rename_i b off hev
      split at hr
      · rename_i cs fz hm
        obtain ⟨l, hl, hr⟩ := Option.bind_eq_some_iff.1 hr
        obtain ⟨h', hh, hr⟩ := Option.bind_eq_some_iff.1 hr
        obtain ⟨⟨p, q⟩, hb, hr⟩ := Option.bind_eq_some_iff.1 hr
        simp only at hr
        obtain ⟨ps, hps, hr⟩ := Option.bind_eq_some_iff.1 hr
        split at hr
        · rename_i hc
          cases hr
          have e1 : evO Γ (look L) lo = some l := by rw [← hl]; cases lo <;> rfl
          have e2 : evO Γ (look L) hi = some h' := by rw [← hh]; cases hi <;> rfl
          refine mem ⟨0, _, _, by simp [cpure], ?_, hk⟩ (by simp) (by simp) (by simp)
          simp only [cmem, hev, hm, e1, e2, bind, Option.bind_some, hb, hps, memL_cons]
          rw [if_pos hc]
        · cases hr
      · cases hr
    · cases hr
  all_goals exact pure h (by simp) (by simp) (by simp)

theorem runE_sound : ∀ {l : List CO} {L : EL} {M : ML}, runE P Γ pn l L M K → runOps P Γ (toP pn) l (look L) (memL M) (toK K)
  | [], L, M, h => ⟨L, M, rfl, rfl, h⟩
  | ⟨dst, op, none⟩ :: l, L, M, h => by
    unfold runE at h
    unfold runOps
    have := stepE_sound h
    refine stepO_mono this ?_ (fun _ _ _ h => h)
    rintro env m ⟨L, M, rfl, rfl, h⟩
    exact runE_sound h
  | ⟨dst, op, some (s, b)⟩ :: l, L, M, h => by
    unfold runE at h
    unfold runOps
    rcases h with ⟨t, ht, h1, h2⟩ | ⟨ht, h2⟩
    rotate_left
    · simp only [ht]
      rw [← look_putL]
      exact runE_sound h2
    simp only [ht]
    split
    · rename_i htb
      refine stepO_mono (stepE_sound (h1 htb)) ?_ (fun _ _ _ h => h)
      rintro env m ⟨L, M, rfl, rfl, h⟩
      exact runE_sound h
    · rename_i htb
      rw [← look_putL]
      exact runE_sound (h2 htb)
end
end Go.Shade
