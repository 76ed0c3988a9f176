/- Rows of operations, code, functions. Own work. -/
import Derived.Test.YtnhkcalanpepoaaSn
import Derived.Laws.Cover3
namespace Go.Shade
open Go

def putE (env : Nat → AV) (dst : Option Nat) (r : AV) : Nat → AV := match dst with
  | some d => upd env d r
  | none => env
/-- Whatever reads as the one reads as the other. -/
def AV.Le (a b : AV) : Prop := ∀ g h v, VR g h a v → VR g h b v
def LeL (as bs : List AV) : Prop := as.length = bs.length ∧ ∀ (i : Nat) a b, as[i]? = some a → bs[i]? = some b → a.Le b

/-- What a function began with: names that stay, what is deferred. -/
structure RD where
  on : Nat → Prop
  D : List Deferred
abbrev rd (pre : ML) : RD := ⟨fun n => memL pre n ≠ none, []⟩

/-- What is known of the machine at a place: the environment, memory; and since when. -/
structure IS (Γ : Globs) (N : Nat) (R : RD) (g0 : Gh) (w0 : World) (m0 : Mem) (g : Gh) (w : World) (a : Act) (env : Nat → AV) (m : Mem) : Prop where
  rel : RelS Γ N g w a env m
  st : St g0 w0 m0 g w m
  nm : ∀ n, R.on n → m n ≠ none ∧ g.σ n = g0.σ n ∧ g.τ n = g0.τ n
  dfs : a.defers = R.D

inductive EX where
  | normal
  | exit (id : Nat)
  | ret
  | pan (v : Value)

abbrev QS := EX → (Nat → AV) → Mem → Prop

def Lift (Γ : Globs) (N : Nat) (R : RD) (g0 : Gh) (w0 : World) (m0 : Mem) (Q : QS) : Exit → Act → World → Prop
  | .normal, a, w => ∃ g env m, IS Γ N R g0 w0 m0 g w a env m ∧ Q .normal env m
  | .exit id, a, w => ∃ g env m, IS Γ N R g0 w0 m0 g w a env m ∧ Q (.exit id) env m
  | .ret, a, w => ∃ g env m, IS Γ N R g0 w0 m0 g w a env m ∧ Q .ret env m
  | .panic ch, a, w => ∃ v g env m, ch = [{ v := v, recovered := false }] ∧ IS Γ N R g0 w0 m0 g w a env m ∧ Q (.pan v) env m
  | _, _, _ => False

/-- A call, by a contract. -/
def callO (P : Program) (Γ : Globs) (pn : Value → (Nat → AV) → Mem → Prop) (fv : AV) (args : List AV) (dst : Option Nat) (env : Nat → AV) (m : Mem) (K : (Nat → AV) → Mem → Prop) : Prop :=
  (∃ f first cap args' pre e post ρ, fv = .fn (.func f) first cap ∧ LeL (first ++ args ++ cap) (renL ρ args') ∧ Good P Γ f args' pre e post ∧ Fits m pre post ρ ∧
    match e with
    | .ret r => K (putE env dst (r.ren ρ)) (applyM m ρ post)
    | .pan v => pn v env (applyM m ρ post)) ∨
  (∃ (f : FuncId) (first cap args' : List AV) (pre : ML) (ρ : Nat → Nat) (r : (Nat → Nat) → AV) (post : (Nat → Nat) → ML), fv = .fn (.func f) first cap ∧ LeL (first ++ args ++ cap) (renL ρ args') ∧ GoodI P Γ f args' pre r post ∧ (∀ i, Fits m pre (post i) ρ) ∧
    ∀ i, K (putE env dst ((r i).ren ρ)) (applyM m ρ (post i)))

/-- Is it nil? It may be open. -/
def nilV : AV → Option (Option Bool)
  | .p (.s (.slice none 0 0)) => some (some true)
  | .p (.sl _ xs) => some (if 0 < xs.flatten.length then some false else none)
  | .own _ _ xs => some (if 0 < xs.flatten.length then some false else none)
  | _ => none
def nilO (neg : Bool) (a : AV) (K : AV → Prop) : Prop := match nilV a with
  | some (some b) => K (.bool (b != neg))
  | some none => K (.bool true) ∧ K (.bool false)
  | none => False

def stepO (P : Program) (Γ : Globs) (pn : Value → (Nat → AV) → Mem → Prop) (o : CO) (env : Nat → AV) (m : Mem) (K : (Nat → AV) → Mem → Prop) : Prop :=
  match o.op with
  | .call f args => callO P Γ pn (f.ev Γ env) (args.map (X.ev Γ env)) o.dst env m K
  | .panic x => match x.ev Γ env with
    | .p (.s (.iface t v)) => pn (.iface t v) env m
    | _ => False
  | .isnil neg x => nilO neg (x.ev Γ env) fun r => K (putE env o.dst r) m
  | c => match cpure Γ env c with
    | some r => K (putE env o.dst r) m
    | none => ∃ nm, match cmem Γ env m nm c with
      | some (r, m') => K (putE env o.dst r) m'
      | none => False

/-- What an operation leaves that is not wanted. -/
abbrev undA : AV := .p (.s (.tuple #[]))
def runOps (P : Program) (Γ : Globs) (pn : Value → (Nat → AV) → Mem → Prop) : List CO → (Nat → AV) → Mem → ((Nat → AV) → Mem → Prop) → Prop
  | [], env, m, K => K env m
  | o :: l, env, m, K => match o.guard with
    | none => stepO P Γ pn o env m (fun env m => runOps P Γ pn l env m K)
    | some (s, b) => match env s with
      | .p (.s (.bool t)) => if t = b then stepO P Γ pn o env m (fun env m => runOps P Γ pn l env m K) else runOps P Γ pn l (putE env o.dst undA) m K
      | .p (.s (.tuple _)) => runOps P Γ pn l (putE env o.dst undA) m K
      | _ => False

theorem stepO_mono {P : Program} {Γ : Globs} {pn pn' : Value → (Nat → AV) → Mem → Prop} {o : CO} {env : Nat → AV} {m : Mem} {K K' : (Nat → AV) → Mem → Prop} (h : stepO P Γ pn o env m K) (hK : ∀ env m, K env m → K' env m) (hp : ∀ v env m, pn v env m → pn' v env m) :
    stepO P Γ pn' o env m K' := by
  unfold stepO at *
  split
  · rename_i f args ho
    simp only [ho] at h
    rcases h with ⟨g, first, cap, args', pre, e, post, ρ, h1, h2, h3, h4, h5⟩ | ⟨g, first, cap, args', pre, ρ, r, post, h1, h2, h3, h4, h5⟩
    · refine .inl ⟨g, first, cap, args', pre, e, post, ρ, h1, h2, h3, h4, ?_⟩
      cases e with
      | ret r => exact hK _ _ h5
      | pan v => exact hp _ _ _ h5
    · exact .inr ⟨g, first, cap, args', pre, ρ, r, post, h1, h2, h3, h4, fun i => hK _ _ (h5 i)⟩
  · rename_i x ho
    simp only [ho] at h
    split at h
    · exact hp _ _ _ h
    · exact h.elim
  · rename_i neg x ho
    simp only [ho] at h
    unfold nilO at *
    split at h
    · exact hK _ _ h
    · exact ⟨hK _ _ h.1, hK _ _ h.2⟩
    · exact h.elim
  · rename_i h1 h2 h3
    have h' : (match cpure Γ env o.op with
      | some r => K (putE env o.dst r) m
      | none => ∃ nm, match cmem Γ env m nm o.op with
        | some (r, m') => K (putE env o.dst r) m'
        | none => False) := by
      revert h
      split
      · rename_i f args ho; exact absurd ho (h1 f args)
      · rename_i x ho; exact absurd ho (h2 x)
      · rename_i neg x ho; exact absurd ho (h3 neg x)
      · exact id
    cases hc : cpure Γ env o.op with
    | some r => simp only [hc] at h' ⊢; exact hK _ _ h'
    | none =>
      simp only [hc] at h' ⊢
      obtain ⟨nm, h'⟩ := h'
      refine ⟨nm, ?_⟩
      cases hm : cmem Γ env m nm o.op with
      | some p => simp only [hm] at h' ⊢; exact hK _ _ h'
      | none => simp only [hm] at h'

def loudOp : Op → Bool
  | .call { callee := .value _, .. } | .panic _ => true
  | _ => false
def COp.loud : COp → Bool
  | .call _ _ | .panic _ | .ext .mkz _ => true
  | _ => false
def cDst (N : Nat) : Option Nat → Option (Option Nat)
  | none => some none
  | some d => if d < N then some (some d) else none
def cGuard (N : Nat) (ops : Array Oper) : Option (Nat × Bool) → Option (Option (Nat × Bool))
  | none => some none
  | some (j, b) => (ops[j]?).bind fun q => q.dst.bind fun d => if d < N then some (some (d, b)) else none
/-- A slice against nil. -/
def cnil (P : Program) (N : Nat) (o : Oper) : Option COp := match o.op with
  | .binOp .eql t x (.const (.slice none 0 0)) _ => match P.underlying t, cX N x with
    | some (.slice _), some x => some (.isnil false x)
    | _, _ => none
  | .binOp .neq t x (.const (.slice none 0 0)) _ => match P.underlying t, cX N x with
    | some (.slice _), some x => some (.isnil true x)
    | _, _ => none
  | _ => none
def COp.isNil : COp → Bool
  | .isnil _ _ => true
  | _ => false
def COp.isExt : COp → Bool
  | .ext _ _ => true
  | _ => false
def copN (P : Program) (N : Nat) (o : Oper) : Option COp := match cnil P N o with
  | some c => some c
  | none => match copX P N o with
    | some c => if c.isExt then some c else none
    | none => match cop P N o with
      | some c => if c.isNil || c.isExt then none else some c
      | none => none
theorem copN_cases {P : Program} {N : Nat} {o : Oper} {c : COp} (h : copN P N o = some c) : (cnil P N o = some c ∧ c.isNil = true) ∨ (copX P N o = some c ∧ c.isExt = true) ∨ (cop P N o = some c ∧ c.isNil = false ∧ c.isExt = false) := by
  unfold copN at h
  split at h
  · rename_i c' hc
    cases h
    refine .inl ⟨hc, ?_⟩
    unfold cnil at hc
    split at hc
    · split at hc
      · cases hc; rfl
      · cases hc
    · split at hc
      · cases hc; rfl
      · cases hc
    · cases hc
  · split at h
    · rename_i c' hc
      split at h
      · rename_i hx
        cases h
        exact .inr (.inl ⟨hc, hx⟩)
      · cases h
    · split at h
      · rename_i c' hc
        split at h
        · cases h
        · rename_i hn
          cases h
          simp only [Bool.or_eq_true, not_or, Bool.not_eq_true] at hn
          exact .inr (.inr ⟨hc, hn.1, hn.2⟩)
      · cases h
theorem cop_of {P : Program} {N : Nat} {o : Oper} {c : COp} (h : copN P N o = some c) (hn : c.isNil = false) (hx : c.isExt = false) : cop P N o = some c := by
  rcases copN_cases h with ⟨_, h'⟩ | ⟨_, h'⟩ | ⟨h', _⟩
  · rw [hn] at h'; cases h'
  · rw [hx] at h'; cases h'
  · exact h'
theorem er_ext {c : COp} (h : c.isExt = false) : c.er = c := by
  cases c <;> first | rfl | (simp [COp.isExt] at h)
theorem er_cases (c : COp) : c.er = c ∨ (∃ sz ln x lo hi, c = .ext (.mslice sz ln (Option.isSome lo) (Option.isSome hi)) (x :: (Option.toList lo ++ Option.toList hi)) ∧ c.er = .aslice sz ln x lo hi) ∨ ∃ sz b z xs, c = .ext (.mks sz b z true) xs ∧ c.er = .ext (.mks sz b z false) xs := by
  unfold COp.er
  split
  · rename_i sz ln x; exact .inr (.inl ⟨sz, ln, x, none, none, rfl, rfl⟩)
  · rename_i sz ln x a; exact .inr (.inl ⟨sz, ln, x, some a, none, rfl, rfl⟩)
  · rename_i sz ln x b; exact .inr (.inl ⟨sz, ln, x, none, some b, rfl, rfl⟩)
  · rename_i sz ln x a b; exact .inr (.inl ⟨sz, ln, x, some a, some b, rfl, rfl⟩)
  · rename_i sz b z xs; exact .inr (.inr ⟨sz, b, z, xs, rfl, rfl⟩)
  · exact .inl rfl
def cO (P : Program) (N : Nat) (ops : Array Oper) (o : Oper) : Option CO :=
  match copN P N o, cDst N o.dst, cGuard N ops o.guard with
  | some op, some dst, some guard => if op.loud = loudOp o.op then some { dst, op, guard } else none
  | _, _, _ => none

section
variable {P : Program} {N : Nat} {Γ : Globs} {R : RD} {g0 g g' : Gh} {w0 w w' : World} {m0 m m' : Mem} {a : Act} {env : Nat → AV} {o : Oper} {c : CO}

theorem RelS.put (hS : RelS Γ N g w a env m) (ho : Out Γ g w m g' w' m') {r : AV} {v : Value} (hv : VR g' w'.heap r v) (dst : Option Nat) : RelS Γ N g' w' (a.put dst v) (putE env dst r) m' := by
  cases dst with
  | none => exact ⟨ho.rel, hS.size, fun i v h => ho.vr (hS.env i v h)⟩
  | some d =>
    refine ⟨ho.rel, by simpa [Act.put] using hS.size, fun i u h => ?_⟩
    simp only [Act.put, putE] at h ⊢
    by_cases hi : i = d
    · subst hi
      rw [upd_same]
      rw [Array.getElem?_setIfInBounds] at h
      simp only [if_true] at h
      split at h
      · cases h; exact hv
      · cases h
    · rw [upd_ne _ _ hi]
      rw [Array.getElem?_setIfInBounds_ne (Ne.symm hi)] at h
      exact ho.vr (hS.env i u h)

theorem IS.put (hS : IS Γ N R g0 w0 m0 g w a env m) (ho : Out Γ g w m g' w' m') {r : AV} {v : Value} (hv : VR g' w'.heap r v) (dst : Option Nat) : IS Γ N R g0 w0 m0 g' w' (a.put dst v) (putE env dst r) m' :=
  ⟨hS.rel.put ho hv dst, hS.st.trans ho.st, fun n hn => by
    obtain ⟨h1, h2, h3⟩ := hS.nm n hn
    exact ⟨ho.dom n h1, (ho.names n h1).1.trans h2, (ho.names n h1).2.trans h3⟩, by cases dst <;> exact hS.dfs⟩

theorem IS.junk (hS : IS Γ N R g0 w0 m0 g w a env m) (dst : Option Nat) : IS Γ N R g0 w0 m0 g w (a.put dst undef) (putE env dst undA) m := hS.put (Out.refl hS.rel.rel) (.p (.s _)) dst

theorem upon_did {K : Act → World → Prop} {Q : Exit → Act → World → Prop} {v : Value} (hd : Did P a w o v w') (hk : K (a.put o.dst v) w') : o.wp P a w K Q := by
  unfold Oper.wp
  rcases hd with h | ⟨h, rfl⟩
  · rw [h]; exact hk
  · rw [h]; exact hk

theorem does_did {v : Value} (h : Does P a w o v) : Did P a w o v w := .inl h

theorem vl_renL {ρ : Nat → Nat} {pre : ML} {args' : List AV} {vl : List Value} (hn : ∀ n ∈ namesL args', memL pre n ≠ none) {as : List AV} (hle : LeL as (renL ρ args')) (hv : VL g w.heap as vl) : VL (under g ρ (memL pre)) w.heap args' vl := by
  rw [renL_map] at hle
  refine ⟨?_, fun i b v hb hvv => ?_⟩
  · have := hle.1
    rw [List.length_map] at this
    rw [← hv.1, this]
  · have hib : (args'.map (AV.ren ρ))[i]? = some (b.ren ρ) := by rw [List.getElem?_map, hb]; rfl
    have hlt : i < as.length := by rw [hle.1, List.length_map]; exact (List.getElem?_eq_some_iff.1 hb).1
    have h1 := hv.2 i _ v (List.getElem?_eq_getElem hlt) hvv
    exact vr_under (fun n hnn => hn n (mem_namesL.2 ⟨b, List.mem_of_getElem? hb, hnn⟩)) (hle.2 i _ _ (List.getElem?_eq_getElem hlt) hib g w.heap v h1)

theorem cXs_vl (hS : RelS Γ N g w a env m) {l : List Operand} {l' : List X} (h : cXs N l = some l') : VL g w.heap (l'.map (X.ev Γ env)) (l.map a.eval) := by
  obtain ⟨h1, h2⟩ := cXs_sound hS h
  exact ⟨by simp [h1], h2⟩

theorem call_step (hS : IS Γ N R g0 w0 m0 g w a env m) {f : Operand} {args : Array Operand} {ts : Array TypeId} {f' : X} {args' : List X} (ho : o.op = .call { callee := .value f, args, argTypes := ts }) (hf : cX N f = some f') (ha : cXs N args.toList = some args') {dst : Option Nat} (hd : o.dst = dst)
    {K : Act → World → Prop} {Q : Exit → Act → World → Prop} {K' : (Nat → AV) → Mem → Prop} {pn : Value → (Nat → AV) → Mem → Prop} (hc : callO P Γ pn (f'.ev Γ env) (args'.map (X.ev Γ env)) dst env m K')
    (hK : ∀ g w a env m, IS Γ N R g0 w0 m0 g w a env m → K' env m → K a w) (hP : ∀ v g w a env m, IS Γ N R g0 w0 m0 g w a env m → pn v env m → Q (.panic [{ v := v, recovered := false }]) a w) : o.wp P a w K Q := by
  subst hd
  rcases hc with ⟨fn, first, cap, bs, pre, e, post, ρ, hfv, hle, hG, hfit, hpost⟩ | ⟨fn, first, cap, bs, pre, ρ, rf, post, hfv, hle, hG, hfit, hpost⟩
  · have hfr := cX_sound hS.rel hf
    rw [hfv] at hfr
    generalize hq : a.eval f = q at hfr
    cases hfr with
    | fn l1 r1 l2 r2 =>
      rename_i vf vc
      obtain ⟨F, hF, hbody, hname⟩ := hG.call
      have hrun : (execOp a.eval o).run P w = .ok (.enter fn (vf ++ args.map a.eval ++ vc)) w := by
        unfold execOp
        simp only [ho, resolve, hq, Deferred.ofValue, Sem.run_bind, Sem.run_pure, Result.andThen_ok, invoke, callFunc]
        have hb : F.body.isNone = false := by cases hbb : F.body <;> simp_all
        have hpr : (program).run P w = .ok P w := rfl
        simp only [hpr, Result.andThen_ok, hF, hname, Bool.false_eq_true, if_false, hb, Sem.run_pure]
      unfold Oper.wp
      rw [hrun]
      have hvl : VL g w.heap (first ++ args'.map (X.ev Γ env) ++ cap) (vf.toList ++ args.toList.map a.eval ++ vc.toList) :=
        ((VRs.list ⟨l1, r1⟩).append (cXs_vl hS.rel ha)).append (VRs.list ⟨l2, r2⟩)
      have hcall := hG.run (under g ρ (memL pre)) w _ (rel_under hG.toF hS.rel.rel hfit) (vl_renL hG.an hle hvl)
      have hargs : (vf.toList ++ args.toList.map a.eval ++ vc.toList).toArray = vf ++ args.map a.eval ++ vc := by
        apply Array.ext'
        simp
      rw [hargs] at hcall
      refine hcall.mono (fun en w' hp => ?_)
      cases en with
      | returned v =>
        obtain ⟨r, gc', rfl, hfin, hv⟩ := hp
        have hout := call_out hG.toF hS.rel.rel hfit hfin
        exact hK _ _ _ _ _ (hS.put hout (vr_over hfit hG.rn hv) o.dst) hpost
      | panicked ch =>
        obtain ⟨v, gc', rfl, rfl, hfin⟩ := hp
        have hout := call_out hG.toF hS.rel.rel hfit hfin
        have hIS : IS Γ N R g0 w0 m0 (over g gc' ρ post) w' (a.put none undef) (putE env none .junk) (applyM m ρ post) := hS.put hout .junk none
        exact hP v _ _ _ _ _ hIS hpost
      | outgrown => exact hp.elim
  · have hfr := cX_sound hS.rel hf
    rw [hfv] at hfr
    generalize hq : a.eval f = q at hfr
    cases hfr with
    | fn l1 r1 l2 r2 =>
      rename_i vf vc
      obtain ⟨F, hF, hbody, hname⟩ := (hG.st id).call
      have hrun : (execOp a.eval o).run P w = .ok (.enter fn (vf ++ args.map a.eval ++ vc)) w := by
        unfold execOp
        simp only [ho, resolve, hq, Deferred.ofValue, Sem.run_bind, Sem.run_pure, Result.andThen_ok, invoke, callFunc]
        have hb : F.body.isNone = false := by cases hbb : F.body <;> simp_all
        have hpr : (program).run P w = .ok P w := rfl
        simp only [hpr, Result.andThen_ok, hF, hname, Bool.false_eq_true, if_false, hb, Sem.run_pure]
      unfold Oper.wp
      rw [hrun]
      have hvl : VL g w.heap (first ++ args'.map (X.ev Γ env) ++ cap) (vf.toList ++ args.toList.map a.eval ++ vc.toList) :=
        ((VRs.list ⟨l1, r1⟩).append (cXs_vl hS.rel ha)).append (VRs.list ⟨l2, r2⟩)
      have hcall := hG.run (under g ρ (memL pre)) w _ (rel_under (hG.st id) hS.rel.rel (hfit id)) (vl_renL (hG.st id).an hle hvl)
      have hargs : (vf.toList ++ args.toList.map a.eval ++ vc.toList).toArray = vf ++ args.map a.eval ++ vc := by
        apply Array.ext'
        simp
      rw [hargs] at hcall
      refine hcall.mono (fun en w' hp => ?_)
      obtain ⟨i, hp⟩ := hp
      cases en with
      | returned v =>
        obtain ⟨r, gc', he, hfin, hv⟩ := hp
        cases he
        have hout := call_out (hG.st i) hS.rel.rel (hfit i) hfin
        exact hK _ _ _ _ _ (hS.put hout (vr_over (hfit i) (hG.st i).rn hv) o.dst) (hpost i)
      | panicked ch =>
        obtain ⟨v, gc', he, _⟩ := hp
        cases he
      | outgrown => exact hp.elim

theorem cO_op {ops : Array Oper} (h : cO P N ops o = some c) : copN P N o = some c.op ∧ o.dst = c.dst ∧ c.op.loud = loudOp o.op ∧ ((o.guard = none ∧ c.guard = none) ∨ ∃ j b q d, o.guard = some (j, b) ∧ ops[j]? = some q ∧ q.dst = some d ∧ d < N ∧ c.guard = some (d, b)) := by
  unfold cO at h
  split at h
  · rename_i op dst gd hop hdst hg
    split at h
    · rename_i hl
      cases h
      refine ⟨hop, ?_, hl, ?_⟩
      · cases hd : o.dst with
        | none => rw [hd] at hdst; simp [cDst] at hdst; exact hdst
        | some d =>
          rw [hd] at hdst
          simp only [cDst] at hdst
          split at hdst
          · cases hdst; rfl
          · cases hdst
      · cases hgg : o.guard with
        | none => rw [hgg] at hg; simp [cGuard] at hg; exact .inl ⟨rfl, hg.symm⟩
        | some p =>
          obtain ⟨j, b⟩ := p
          rw [hgg] at hg
          simp only [cGuard] at hg
          obtain ⟨q, hq, hg⟩ := Option.bind_eq_some_iff.1 hg
          obtain ⟨d, hd, hg⟩ := Option.bind_eq_some_iff.1 hg
          split at hg
          · rename_i hdN
            cases hg
            exact .inr ⟨j, b, q, d, rfl, hq, hd, hdN, rfl⟩
          · cases hg
    · cases h
  · cases h

theorem loud_or {q : Op} (h : loudOp q = true) : (∃ f args ts, q = .call { callee := .value f, args, argTypes := ts }) ∨ ∃ x, q = .panic x := by
  unfold loudOp at h
  split at h
  · exact .inl ⟨_, _, _, rfl⟩
  · exact .inr ⟨_, rfl⟩
  · cases h

/-- What a quiet operation comes to, it does. -/
def Quiet (P : Program) (Γ : Globs) (N : Nat) (o : Oper) (c : COp) : Prop := ∀ g w a env m, RelS Γ N g w a env m → (∀ r, cpure Γ env c = some r → ∃ v, Does P a w o v ∧ VR g w.heap r v) ∧
  ∀ nm r m', cmem Γ env m nm c = some (r, m') → ∃ v g' w', Did P a w o v w' ∧ Out Γ g w m g' w' m' ∧ VR g' w'.heap r v
theorem quiet_cop (hc : cop P N o = some c.op) : Quiet P Γ N o c.op := fun _ _ _ _ _ hS => ⟨fun _ h => pure_sound hS hc h, fun _ _ _ h => mem_sound hS hc h⟩
theorem quiet_ext {e : EOp} {xs : List X} (hc : copX P N o = some (.ext e xs)) : Quiet P Γ N o (.ext e xs) := fun _ _ _ env m hS => by
  obtain ⟨h1, h2⟩ := ext_sound hS hc
  refine ⟨fun r h => h1 r h, fun nm r m' h => ?_⟩
  simp only [cmem] at h
  obtain ⟨⟨r', us⟩, he, hh⟩ := Option.map_eq_some_iff.1 h
  simp only [Prod.mk.injEq] at hh
  obtain ⟨rfl, rfl⟩ := hh
  exact h2 nm _ us he
theorem quiet_er {q : COp} (hc : copN P N o = some q.er) (h1 : ∀ neg x, q ≠ .isnil neg x) : Quiet P Γ N o q := by
  rcases er_cases q with he | ⟨sz, ln, x, lo, hi, rfl, he⟩ | ⟨sz, b, z, xs, rfl, he⟩
  · rw [he] at hc
    rcases copN_cases hc with ⟨_, h⟩ | ⟨h, hx⟩ | ⟨h, _⟩
    · cases q <;> simp [COp.isNil] at h
      exact absurd rfl (h1 _ _)
    · cases q <;> simp [COp.isExt] at hx
      exact quiet_ext h
    · exact fun _ _ _ _ _ hS => ⟨fun _ hv => pure_sound hS h hv, fun _ _ _ hv => mem_sound hS h hv⟩
  · rw [he] at hc
    have hc := cop_of hc rfl rfl
    refine fun g w a env m hS => ⟨fun r hv => ?_, fun nm r m' hv => by simp [cmem, eMem] at hv⟩
    simp only [cpure, List.map_cons] at hv
    exact mslice_sound hS hc hv
  · rw [he] at hc
    have hc : copX P N o = some (.ext (.mks sz b z false) xs) := by
      rcases copN_cases hc with ⟨_, h⟩ | ⟨h, _⟩ | ⟨_, _, h⟩
      · simp [COp.isNil] at h
      · exact h
      · simp [COp.isExt] at h
    refine fun g w a env m hS => ⟨fun r hv => by simp [cpure, ePure] at hv, fun nm r m' hv => ?_⟩
    simp only [cmem] at hv
    obtain ⟨⟨r', us⟩, he, hh⟩ := Option.map_eq_some_iff.1 hv
    simp only [Prod.mk.injEq] at hh
    obtain ⟨rfl, rfl⟩ := hh
    exact mks_sound hS hc he

theorem quiet_step (hS : IS Γ N R g0 w0 m0 g w a env m) (hq : Quiet P Γ N o c.op) (hd : o.dst = c.dst) {K : Act → World → Prop} {Q : Exit → Act → World → Prop} {K' : (Nat → AV) → Mem → Prop}
    (hs : match cpure Γ env c.op with
      | some r => K' (putE env c.dst r) m
      | none => ∃ nm, match cmem Γ env m nm c.op with
        | some (r, m') => K' (putE env c.dst r) m'
        | none => False)
    (hK : ∀ g w a env m, IS Γ N R g0 w0 m0 g w a env m → K' env m → K a w) : o.wp P a w K Q := by
  obtain ⟨hp, hm⟩ := hq _ _ _ _ _ hS.rel
  split at hs
  · rename_i r hr
    obtain ⟨v, hv, hvr⟩ := hp r hr
    exact upon_did (does_did hv) (hK _ _ _ _ _ (hS.put (Out.refl hS.rel.rel) hvr o.dst) (by rw [hd]; exact hs))
  · obtain ⟨nm, hs⟩ := hs
    split at hs
    · rename_i r m' hr
      obtain ⟨v, g', w', hv, hout, hvr⟩ := hm nm r m' hr
      exact upon_did hv (hK _ _ _ _ _ (hS.put hout hvr o.dst) (by rw [hd]; exact hs))
    · exact hs.elim

theorem nil_value {b : AV} {v : Value} (hV : VR g w.heap b v) {q : Option Bool} (hq : nilV b = some q) : ∃ A n k, v = .slice A n k ∧ ∀ t, q = some t → A.isNone = t := by
  unfold nilV at hq
  split at hq
  · cases hq
    cases hV with
    | p hr => cases hr with
      | s => exact ⟨none, 0, 0, rfl, fun t h => by cases h; rfl⟩
  · cases hq
    cases hV with
    | p hr => cases hr with
      | sl f hn hc hm hcm hsz hp hr =>
        refine ⟨_, _, _, rfl, fun t h => ?_⟩
        split at h
        · rename_i hl
          obtain ⟨ad, _, _, _, _, rfl, _⟩ := hp hl
          cases h
          rfl
        · cases h
  · cases hq
    cases hV with
    | own hr _ => cases hr with
      | sl f hn hc hm hcm hsz hp hr =>
        refine ⟨_, _, _, rfl, fun t h => ?_⟩
        split at h
        · rename_i hl
          obtain ⟨ad, _, _, _, _, rfl, _⟩ := hp hl
          cases h
          rfl
        · cases h
  · cases hq

theorem nil_step (hS : IS Γ N R g0 w0 m0 g w a env m) {neg : Bool} {x' : X} (hc : copN P N o = some (.isnil neg x')) (hd : o.dst = c.dst) {K : Act → World → Prop} {Q : Exit → Act → World → Prop} {K' : (Nat → AV) → Mem → Prop}
    (hs : nilO neg (x'.ev Γ env) fun r => K' (putE env c.dst r) m) (hK : ∀ g w a env m, IS Γ N R g0 w0 m0 g w a env m → K' env m → K a w) : o.wp P a w K Q := by
  have key : ∃ op t u x y e, o.op = .binOp op t x y u ∧ P.underlying t = some (.slice e) ∧ cX N x = some x' ∧ a.eval y = .slice none 0 0 ∧ ((op = .eql ∧ neg = false) ∨ (op = .neq ∧ neg = true)) := by
    have hc := ((copN_cases hc).resolve_right (fun h => by rcases h with ⟨_, h⟩ | ⟨_, h, _⟩ <;> simp [COp.isNil, COp.isExt] at h)).1
    unfold cnil at hc
    split at hc
    · rename_i ho
      split at hc
      · rename_i e x'' hu hx
        cases hc
        exact ⟨_, _, _, _, _, e, ho, hu, hx, rfl, .inl ⟨rfl, rfl⟩⟩
      · cases hc
    · rename_i ho
      split at hc
      · rename_i e x'' hu hx
        cases hc
        exact ⟨_, _, _, _, _, e, ho, hu, hx, rfl, .inr ⟨rfl, rfl⟩⟩
      · cases hc
    · cases hc
  obtain ⟨op, t, u, x, y, e, ho, hu, hx, hy, hop⟩ := key
  have hV := cX_sound hS.rel hx
  have done : ∀ q, nilV (x'.ev Γ env) = some q → ∃ b : Bool, Did P a w o (.bool (b != neg)) w ∧ ∀ t, q = some t → b = t := by
    intro q hq
    obtain ⟨A, n, k, hv, hA⟩ := nil_value hV hq
    refine ⟨A.isNone, .inl ?_, hA⟩
    unfold execOp
    simp only [ho, hv, hy]
    refine exec_val' ?_
    have hg : eqGuard op t x y (.slice A n k) (.slice none 0 0) = pure () := by
      unfold eqGuard
      rcases hop with ⟨rfl, _⟩ | ⟨rfl, _⟩ <;> rfl
    rw [hg]
    have he := run_equal_slice_nil w t e A n k hu
    rcases hop with ⟨rfl, rfl⟩ | ⟨rfl, rfl⟩
    · simp only [binOp]
      simp [he]
    · simp only [binOp]
      simp [he]
  unfold nilO at hs
  split at hs
  · rename_i b hq
    obtain ⟨b', h1, h2⟩ := done _ hq
    rw [h2 b rfl] at h1
    exact upon_did h1 (hK _ _ _ _ _ (hS.put (Out.refl hS.rel.rel) (.p (.s _)) o.dst) (by rw [hd]; exact hs))
  · rename_i hq
    obtain ⟨b', h1, _⟩ := done _ hq
    refine upon_did h1 (hK _ _ _ _ _ (hS.put (Out.refl hS.rel.rel) (.p (.s _)) o.dst) ?_)
    rw [hd]
    cases h : (b' != neg) with
    | true => exact hs.1
    | false => exact hs.2
  · exact hs.elim

theorem step_sound (hS : IS Γ N R g0 w0 m0 g w a env m) {ops : Array Oper} (hcO : cO P N ops o = some c.er) {K : Act → World → Prop} {Q : Exit → Act → World → Prop} {K' : (Nat → AV) → Mem → Prop} {pn : Value → (Nat → AV) → Mem → Prop} (hs : stepO P Γ pn c env m K')
    (hK : ∀ g w a env m, IS Γ N R g0 w0 m0 g w a env m → K' env m → K a w) (hP : ∀ v g w a env m, IS Γ N R g0 w0 m0 g w a env m → pn v env m → Q (.panic [{ v := v, recovered := false }]) a w) : o.wp P a w K Q := by
  obtain ⟨hc, hd, hl, _⟩ := cO_op hcO
  have hd : o.dst = c.dst := hd
  have hc : copN P N o = some c.op.er := hc
  have hl : c.op.er.loud = loudOp o.op := hl
  unfold stepO at hs
  split at hs
  · rename_i f' args' hop
    rw [hop] at hl hc
    have hc : cop P N o = some (.call f' args') := cop_of hc rfl rfl
    rcases loud_or hl.symm with ⟨f, args, ts, ho⟩ | ⟨x, ho⟩
    · simp only [cop, ho, bind, Option.bind_eq_some_iff, pure, Option.some.injEq, COp.call.injEq] at hc
      obtain ⟨x, hx, y, hy, rfl, rfl⟩ := hc
      exact call_step hS ho hx hy hd hs hK hP
    · simp only [cop, ho, bind, Option.bind_eq_some_iff, pure, Option.some.injEq, reduceCtorEq, and_false, exists_false] at hc
  · rename_i x' hop
    rw [hop] at hl hc
    have hc : cop P N o = some (.panic x') := cop_of hc rfl rfl
    rcases loud_or hl.symm with ⟨f, args, ts, ho⟩ | ⟨x, ho⟩
    · simp only [cop, ho, bind, Option.bind_eq_some_iff, pure, Option.some.injEq, reduceCtorEq, and_false, exists_false] at hc
    · simp only [cop, ho, bind, Option.bind_eq_some_iff, pure, Option.some.injEq, COp.panic.injEq] at hc
      obtain ⟨y, hy, rfl⟩ := hc
      split at hs
      · rename_i t v hev
        have hxv := cX_sound hS.rel hy
        rw [hev] at hxv
        have hxv := vr_s hxv
        unfold Oper.wp
        have hrun : (execOp a.eval o).run P w = .halt (.panic (.iface t v)) w := by
          unfold execOp
          simp only [ho, hxv, Instr.panic, goPanic]
          rfl
        rw [hrun]
        exact hP _ _ _ _ _ _ hS hs
      · exact hs.elim
  · rename_i neg x hop
    rw [hop] at hc
    exact nil_step hS hc hd hs hK
  · rename_i h3
    exact quiet_step hS (quiet_er hc (fun neg x e => h3 neg x e)) hd hs hK

theorem guard_wanted (hS : IS Γ N R g0 w0 m0 g w a env m) {ops : Array Oper} {j d : Nat} {b t : Bool} {q : Oper} (hg : o.guard = some (j, b)) (hq : ops[j]? = some q) (hd : q.dst = some d) (he : env d = .p (.s (.bool t))) (hdN : d < N) : Region.wanted o (yielded ops a.tmps) = (t == b) := by
  have hdt : d < a.tmps.size := by rw [hS.rel.size]; exact hdN
  have hv := hS.rel.env d _ (Array.getElem?_eq_getElem hdt)
  rw [he] at hv
  have hv := vr_s hv
  simp only [Region.wanted, hg, yielded, hq, Option.bind_some, hd, Array.getElem?_eq_getElem hdt, hv]
  cases t <;> cases b <;> rfl

theorem guard_not (hS : IS Γ N R g0 w0 m0 g w a env m) {ops : Array Oper} {j d : Nat} {b : Bool} {t : Array Value} {q : Oper} (hg : o.guard = some (j, b)) (hq : ops[j]? = some q) (hd : q.dst = some d) (he : env d = .p (.s (.tuple t))) (hdN : d < N) : Region.wanted o (yielded ops a.tmps) = false := by
  have hdt : d < a.tmps.size := by rw [hS.rel.size]; exact hdN
  have hv := hS.rel.env d _ (Array.getElem?_eq_getElem hdt)
  rw [he] at hv
  have hv := vr_s hv
  simp only [Region.wanted, hg, yielded, hq, Option.bind_some, hd, Array.getElem?_eq_getElem hdt, hv]
  cases b <;> rfl

theorem runOps_sound (ops : Array Oper) {K' : (Nat → AV) → Mem → Prop} {pn : Value → (Nat → AV) → Mem → Prop} {Q : Exit → Act → World → Prop}
    (hK : ∀ g w a env m, IS Γ N R g0 w0 m0 g w a env m → K' env m → Q .normal a w) (hP : ∀ v g w a env m, IS Γ N R g0 w0 m0 g w a env m → pn v env m → Q (.panic [{ v := v, recovered := false }]) a w) :
    ∀ (l : List Oper) (lc : List CO), l.mapM (cO P N ops) = some (lc.map CO.er) → ∀ g w a env m, IS Γ N R g0 w0 m0 g w a env m → runOps P Γ pn lc env m K' → wpList P ops Q l a w
  | [], lc, h, g, w, a, env, m, hS, hr => by
    simp only [List.mapM_nil, pure, Option.some.injEq] at h
    have h : lc = [] := List.map_eq_nil_iff.1 h.symm
    subst h
    exact hK _ _ _ _ _ hS hr
  | o :: l, lc, h, g, w, a, env, m, hS, hr => by
    simp only [List.mapM_cons, bind, Option.bind_eq_some_iff, pure, Option.some.injEq] at h
    obtain ⟨c', hc, lr', hl, hlc⟩ := h
    obtain ⟨c, lr, rfl, rfl, rfl⟩ := List.map_eq_cons_iff.1 hlc.symm
    have ih := runOps_sound ops hK hP l lr hl
    obtain ⟨_, hd, _, hg⟩ := cO_op hc
    have hd : o.dst = c.dst := hd
    simp only [CO.er] at hg
    have step : stepO P Γ pn c env m (fun env m => runOps P Γ pn lr env m K') → o.wp P a w (wpList P ops Q l) Q := fun hs => step_sound hS hc hs ih hP
    unfold wpList
    unfold runOps at hr
    rcases hg with ⟨h1, h2⟩ | ⟨j, b, q, d, h1, h2, h3, hdN, h4⟩
    · rw [h2] at hr
      rw [if_pos (by simp [Region.wanted, h1])]
      exact .inl (step hr)
    · rw [h4] at hr
      simp only at hr
      split at hr
      · rename_i t he
        have hw := guard_wanted hS h1 h2 h3 he hdN
        rw [hw]
        split at hr
        · rename_i htb
          rw [if_pos (by simp [htb])]
          exact .inl (step hr)
        · rename_i htb
          rw [if_neg (by simp [htb]), hd]
          exact ih _ _ _ _ _ (hS.junk c.dst) hr
      · rename_i t he
        rw [guard_not hS h1 h2 h3 he hdN, if_neg (by simp), hd]
        exact ih _ _ _ _ _ (hS.junk c.dst) hr
      · exact hr.elim
end

/-! ### Code -/
inductive CC where
  | skip
  | reg (ops : List CO)
  | regd (ops : List CO) (bef : List (List Nat))
  | seq (a b : CC)
  | cond (c : X) (a b : CC)
  | block (id : Nat) (c : CC)
  | loop (c : CC)
  | exit (id : Nat)
  | ret
  | rest (ls : List Nat) (c : CC)

/-- 'rest': these slots alone are kept from here on; it is no code. -/
def erase : CC → CC
  | .seq a b => .seq (erase a) (erase b)
  | .cond c a b => .cond c (erase a) (erase b)
  | .block id c => .block id (erase c)
  | .loop c => .loop (erase c)
  | .rest _ c => erase c
  | .reg l => .reg (l.map CO.er)
  | .regd l b => .regd (l.map CO.er) b
  | c => c

def befs (ops : Array Oper) : List (List Nat) := ops.toList.map fun o => (o.after.toList.filter fun e => Region.binds .any e).map (·.on)
def cC (P : Program) (N : Nat) : Code → Option CC
  | .skip => some .skip
  | .region _ ops draw => (ops.toList.mapM (cO P N ops)).map fun l => if draw then .regd l (befs ops) else .reg l
  | .seq a b => match cC P N a, cC P N b with
    | some a, some b => some (.seq a b)
    | _, _ => none
  | .cond c a b => match cX N c, cC P N a, cC P N b with
    | some c, some a, some b => some (.cond c a b)
    | _, _, _ => none
  | .block id c => (cC P N c).map (.block id)
  | .loop c => (cC P N c).map .loop
  | .exit id => some (.exit id)
  | .ret => some .ret
  | _ => none

/-- From this state on the code comes to Q. -/
def Vld (P : Program) (Γ : Globs) (N : Nat) (R : RD) (c : CC) (Q : QS) (env : Nat → AV) (m : Mem) : Prop :=
  ∀ c0, cC P N c0 = some (erase c) → ∀ g0 w0 m0 g w a, IS Γ N R g0 w0 m0 g w a env m → c0.wp P (Lift Γ N R g0 w0 m0 Q) a w

def thenQ (K : (Nat → AV) → Mem → Prop) (Q : QS) : QS
  | .normal, env, m => K env m
  | e, env, m => Q e env m
def blockQ (id : Nat) (Q : QS) : QS
  | .exit id', env, m => if id' = id then Q .normal env m else Q (.exit id') env m
  | e, env, m => Q e env m

section
variable {P : Program} {N : Nat} {Γ : Globs} {R : RD} {Q Q' : QS} {env : Nat → AV} {m : Mem} {c d : CC}

theorem vld_mono (h : Vld P Γ N R c Q env m) (hq : ∀ e env m, Q e env m → Q' e env m) : Vld P Γ N R c Q' env m := by
  intro c0 hc g0 w0 m0 g w a hS
  refine wp_mono (h c0 hc g0 w0 m0 g w a hS) (fun e a w h => ?_)
  cases e with
  | normal => obtain ⟨g, env, m, h1, h2⟩ := h; exact ⟨g, env, m, h1, hq _ _ _ h2⟩
  | exit id => obtain ⟨g, env, m, h1, h2⟩ := h; exact ⟨g, env, m, h1, hq _ _ _ h2⟩
  | goto l => exact h.elim
  | ret => obtain ⟨g, env, m, h1, h2⟩ := h; exact ⟨g, env, m, h1, hq _ _ _ h2⟩
  | panic ch => obtain ⟨v, g, env, m, h0, h1, h2⟩ := h; exact ⟨v, g, env, m, h0, h1, hq _ _ _ h2⟩
  | outgrown => exact h.elim

theorem vld_rest {ls : List Nat} (h : Vld P Γ N R c Q env m) : Vld P Γ N R (.rest ls c) Q env m := fun c0 hc => h c0 hc
theorem vld_skip (h : Q .normal env m) : Vld P Γ N R .skip Q env m := by
  intro c0 hc g0 w0 m0 g w a hS
  simp only [erase] at hc
  cases c0 with
  | skip => exact wp_skip ⟨g, env, m, hS, h⟩
  | region id ops dr =>
    simp only [cC] at hc
    obtain ⟨l, _, hl⟩ := Option.map_eq_some_iff.1 hc
    split at hl <;> cases hl
  | seq x y => simp only [cC] at hc; split at hc <;> cases hc
  | cond x y z => simp only [cC] at hc; split at hc <;> cases hc
  | block i x => simp only [cC] at hc; obtain ⟨_, _, hl⟩ := Option.map_eq_some_iff.1 hc; cases hl
  | loop x => simp only [cC] at hc; obtain ⟨_, _, hl⟩ := Option.map_eq_some_iff.1 hc; cases hl
  | _ => cases hc

theorem vld_exit {id : Nat} (h : Q (.exit id) env m) : Vld P Γ N R (.exit id) Q env m := by
  intro c0 hc g0 w0 m0 g w a hS
  simp only [erase] at hc
  cases c0 with
  | exit i => cases hc; exact wp_exit ⟨g, env, m, hS, h⟩
  | region id ops dr =>
    simp only [cC] at hc
    obtain ⟨l, _, hl⟩ := Option.map_eq_some_iff.1 hc
    split at hl <;> cases hl
  | seq x y => simp only [cC] at hc; split at hc <;> cases hc
  | cond x y z => simp only [cC] at hc; split at hc <;> cases hc
  | block i x => simp only [cC] at hc; obtain ⟨_, _, hl⟩ := Option.map_eq_some_iff.1 hc; cases hl
  | loop x => simp only [cC] at hc; obtain ⟨_, _, hl⟩ := Option.map_eq_some_iff.1 hc; cases hl
  | _ => cases hc

theorem vld_ret (h : Q .ret env m) : Vld P Γ N R .ret Q env m := by
  intro c0 hc g0 w0 m0 g w a hS
  simp only [erase] at hc
  cases c0 with
  | ret => exact wp_ret ⟨g, env, m, hS, h⟩
  | region id ops dr =>
    simp only [cC] at hc
    obtain ⟨l, _, hl⟩ := Option.map_eq_some_iff.1 hc
    split at hl <;> cases hl
  | seq x y => simp only [cC] at hc; split at hc <;> cases hc
  | cond x y z => simp only [cC] at hc; split at hc <;> cases hc
  | block i x => simp only [cC] at hc; obtain ⟨_, _, hl⟩ := Option.map_eq_some_iff.1 hc; cases hl
  | loop x => simp only [cC] at hc; obtain ⟨_, _, hl⟩ := Option.map_eq_some_iff.1 hc; cases hl
  | _ => cases hc

theorem vld_reg {l : List CO} (h : runOps P Γ (fun v env m => Q (.pan v) env m) l env m (fun env m => Q .normal env m)) : Vld P Γ N R (.reg l) Q env m := by
  intro c0 hc g0 w0 m0 g w a hS
  simp only [erase] at hc
  cases c0 with
  | region id ops dr =>
    simp only [cC] at hc
    obtain ⟨l', hl', hl⟩ := Option.map_eq_some_iff.1 hc
    split at hl
    · cases hl
    · rename_i hdr
      simp only [CC.reg.injEq] at hl
      subst hl
      have hd : dr = false := by simpa using hdr
      subst hd
      exact wp_region_list (runOps_sound ops (fun g w a env m hS h => ⟨g, env, m, hS, h⟩) (fun v g w a env m hS h => ⟨v, g, env, m, rfl, hS, h⟩) ops.toList l hl' _ _ _ _ _ hS h)
  | seq x y => simp only [cC] at hc; split at hc <;> cases hc
  | cond x y z => simp only [cC] at hc; split at hc <;> cases hc
  | block i x => simp only [cC] at hc; obtain ⟨_, _, hl⟩ := Option.map_eq_some_iff.1 hc; cases hl
  | loop x => simp only [cC] at hc; obtain ⟨_, _, hl⟩ := Option.map_eq_some_iff.1 hc; cases hl
  | _ => cases hc

theorem vld_seq (h : Vld P Γ N R c (thenQ (fun env m => Vld P Γ N R d Q env m) Q) env m) : Vld P Γ N R (.seq c d) Q env m := by
  intro c0 hc g0 w0 m0 g w a hS
  simp only [erase] at hc
  cases c0 with
  | seq x y =>
    simp only [cC] at hc
    split at hc
    · rename_i cx cy hx hy
      cases hc
      refine wp_seq (wp_mono (h x hx g0 w0 m0 g w a hS) (fun e a w h => ?_))
      cases e with
      | normal => obtain ⟨g, env, m, h1, h2⟩ := h; exact h2 y hy g0 w0 m0 g w a h1
      | exit id => exact h
      | goto l => exact h.elim
      | ret => exact h
      | panic ch => exact h
      | outgrown => exact h.elim
    · cases hc
  | region id ops dr =>
    simp only [cC] at hc
    obtain ⟨l, _, hl⟩ := Option.map_eq_some_iff.1 hc
    split at hl <;> cases hl
  | cond x y z => simp only [cC] at hc; split at hc <;> cases hc
  | block i x => simp only [cC] at hc; obtain ⟨_, _, hl⟩ := Option.map_eq_some_iff.1 hc; cases hl
  | loop x => simp only [cC] at hc; obtain ⟨_, _, hl⟩ := Option.map_eq_some_iff.1 hc; cases hl
  | _ => cases hc

theorem vld_cond {x : X} {t : Bool} (hx : x.ev Γ env = .p (.s (.bool t))) (h1 : t = true → Vld P Γ N R c Q env m) (h2 : t = false → Vld P Γ N R d Q env m) : Vld P Γ N R (.cond x c d) Q env m := by
  intro c0 hc g0 w0 m0 g w a hS
  simp only [erase] at hc
  cases c0 with
  | cond x' y z =>
    simp only [cC] at hc
    split at hc
    · rename_i cx cy cz hx' hy hz
      cases hc
      have hv := cX_sound hS.rel hx'
      rw [hx] at hv
      have hv := vr_s hv
      exact wp_cond_split hv (fun ht => h1 ht y hy g0 w0 m0 g w a hS) (fun ht => h2 ht z hz g0 w0 m0 g w a hS)
    · cases hc
  | region id ops dr =>
    simp only [cC] at hc
    obtain ⟨l, _, hl⟩ := Option.map_eq_some_iff.1 hc
    split at hl <;> cases hl
  | seq x y => simp only [cC] at hc; split at hc <;> cases hc
  | block i x => simp only [cC] at hc; obtain ⟨_, _, hl⟩ := Option.map_eq_some_iff.1 hc; cases hl
  | loop x => simp only [cC] at hc; obtain ⟨_, _, hl⟩ := Option.map_eq_some_iff.1 hc; cases hl
  | _ => cases hc

theorem vld_block {id : Nat} (h : Vld P Γ N R c (blockQ id Q) env m) : Vld P Γ N R (.block id c) Q env m := by
  intro c0 hc g0 w0 m0 g w a hS
  simp only [erase] at hc
  cases c0 with
  | block i x =>
    simp only [cC] at hc
    obtain ⟨cx, hx, hl⟩ := Option.map_eq_some_iff.1 hc
    cases hl
    refine wp_block (wp_mono (h x hx g0 w0 m0 g w a hS) (fun e a w h => ?_))
    cases e with
    | normal => exact h
    | exit i =>
      obtain ⟨g, env, m, h1, h2⟩ := h
      simp only [blockQ] at h2
      simp only [Exit.inBlock]
      split
      · rename_i hi
        rw [if_pos hi] at h2
        exact ⟨g, env, m, h1, h2⟩
      · rename_i hi
        rw [if_neg hi] at h2
        exact ⟨g, env, m, h1, h2⟩
    | goto l => exact h.elim
    | ret => exact h
    | panic ch => exact h
    | outgrown => exact h.elim
  | region id ops dr =>
    simp only [cC] at hc
    obtain ⟨l, _, hl⟩ := Option.map_eq_some_iff.1 hc
    split at hl <;> cases hl
  | seq x y => simp only [cC] at hc; split at hc <;> cases hc
  | cond x y z => simp only [cC] at hc; split at hc <;> cases hc
  | loop x => simp only [cC] at hc; obtain ⟨_, _, hl⟩ := Option.map_eq_some_iff.1 hc; cases hl
  | _ => cases hc

theorem wp_loop_n {P : Program} {c : Code} {Q : Exit → Act → World → Prop} (J : Nat → Act → World → Prop)
    (round : ∀ n a w, J n a w → c.wp P (Exit.then (fun a' w' => ∃ k, k < n ∧ J k a' w') Q) a w) {n : Nat} {a : Act} {w : World} (h0 : J n a w) : (Code.loop c).wp P Q a w := by
  intro b k cs
  have key : ∀ n a w, J n a w → ∃ e a' w', Q e a' w' ∧ Arrives P (lone (b.at a (.code c :: .inLoop c :: k)) cs w) b k cs e a' w' := by
    intro n
    induction n using Nat.strongRecOn with
    | _ n ih =>
      intro a w hJ
      obtain ⟨e, a1, w1, hq, harr⟩ := round n a w hJ b (.inLoop c :: k) cs
      cases e with
      | normal =>
        obtain ⟨i, hi, hJ1⟩ := hq
        obtain ⟨e2, a2, w2, hq2, harr2⟩ := ih i hi a1 w1 hJ1
        exact ⟨e2, a2, w2, hq2, .of_steps (Steps.trans harr (.one step_inLoop)) harr2⟩
      | exit id => exact ⟨_, a1, w1, hq, .pass (x := .inLoop c) rfl (fun _ _ => .inl (by simp)) harr⟩
      | goto l => exact ⟨_, a1, w1, hq, .pass (x := .inLoop c) rfl (fun _ _ => .inl (by simp)) harr⟩
      | ret => exact ⟨_, a1, w1, hq, .pass (x := .inLoop c) rfl (fun _ _ => .inl (by simp)) harr⟩
      | panic ch => exact ⟨_, a1, w1, hq, .pass (x := .inLoop c) rfl (fun _ _ => .inl (by simp)) harr⟩
      | outgrown => exact ⟨_, a1, w1, hq, .pass (x := .inLoop c) rfl (fun _ _ => .inl (by simp)) harr⟩
  obtain ⟨e, a', w', hq, harr⟩ := key n a w h0
  exact ⟨e, a', w', hq, .of_steps (.one step_loop) harr⟩

/-- A loop: what holds at each round's head, and what each round lowers. -/
theorem vld_loop (I : Nat → (Nat → AV) → Mem → Prop) (n : Nat) (h0 : I n env m) (round : ∀ n env m, I n env m → Vld P Γ N R c (thenQ (fun env m => ∃ k, k < n ∧ I k env m) Q) env m) : Vld P Γ N R (.loop c) Q env m := by
  intro c0 hc g0 w0 m0 g w a hS
  simp only [erase] at hc
  cases c0 with
  | loop x =>
    simp only [cC] at hc
    obtain ⟨cx, hx, hl⟩ := Option.map_eq_some_iff.1 hc
    cases hl
    refine wp_loop_n (fun k a w => ∃ g env m, IS Γ N R g0 w0 m0 g w a env m ∧ I k env m) (fun k a w hk => ?_) ⟨g, env, m, hS, h0⟩
    obtain ⟨g, env, m, hS', hI⟩ := hk
    refine wp_mono (round k env m hI x hx g0 w0 m0 g w a hS') (fun e a' w' h => ?_)
    cases e with
    | normal =>
      obtain ⟨g, env, m, h1, k', hlt, h2⟩ := h
      exact ⟨k', hlt, g, env, m, h1, h2⟩
    | exit i => exact h
    | goto l => exact h.elim
    | ret => exact h
    | panic ch => exact h
    | outgrown => exact h.elim
  | region id ops dr =>
    simp only [cC] at hc
    obtain ⟨l, _, hl⟩ := Option.map_eq_some_iff.1 hc
    split at hl <;> cases hl
  | seq x y => simp only [cC] at hc; split at hc <;> cases hc
  | cond x y z => simp only [cC] at hc; split at hc <;> cases hc
  | block i x => simp only [cC] at hc; obtain ⟨_, _, hl⟩ := Option.map_eq_some_iff.1 hc; cases hl
  | _ => cases hc
end
end Go.Shade
