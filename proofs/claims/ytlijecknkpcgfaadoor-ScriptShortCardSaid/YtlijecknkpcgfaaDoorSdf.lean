/- Functions that defer a closure which recovers. Own work. -/
import Derived.Test.YtlijecknkpcgfaaDoorZ3
import Derived.Recover
namespace Go.Shade
open Go
variable {P : Program} {Γ : Globs} {N : Nat} {R : RD} {Q : QE} {L : EL} {M : ML} {fs : List Fr} {l : List CO} {d : Option Nat} {g g' : Gh} {w w' : World} {m m' : Mem}

theorem out_of (hR : Rel Γ g w m) (hR' : Rel Γ g' w' m') (hst : St g w m g' w' m') (hn : ∀ n, m n ≠ none → m' n ≠ none ∧ g'.σ n = g.σ n ∧ g'.τ n = g.τ n) : Out Γ g w m g' w' m' :=
  ⟨hR', hst, ⟨fun n k h => by
    have : m n ≠ none := fun h0 => by rw [(hR.fresh n h0).1] at h; cases h
    rw [(hn n this).2.1]; exact h, fun n k h => by
    have : m n ≠ none := fun h0 => by rw [(hR.fresh n h0).2] at h; cases h
    rw [(hn n this).2.2]; exact h⟩, fun n h => (hn n h).2, fun n h => (hn n h).1⟩

/-! ### Operations of a region whose first one recovers -/
theorem upon_Q {o : Oper} {a : Act} {K : Act → World → Prop} {Q Q' : Exit → Act → World → Prop} (h : ∀ e a w, Q e a w → Q' e a w) (hQ : ¬ LetsOut Q) {r : Result Next} (hh : o.upon P a K Q r) : o.upon P a K Q' r := by
  cases r with
  | ok n w' =>
    cases n <;> simp only [Oper.upon] at hh ⊢ <;>
      first
        | exact hh
        | exact Calls.mono hh (fun e w'' he => by
            cases e <;> first
              | exact he
              | exact h _ _ _ he
              | exact (hQ he).elim)
  | halt x w' => cases x <;> simp only [Oper.upon] at hh ⊢ <;> first | exact hh | exact h _ _ _ hh
theorem opsS_of_list {ops : Array Oper} {cs : List Frame} {Q : Exit → Act → World → Prop} {Q' : Exit → Act → List Frame → World → Prop} (hQ : ¬ LetsOut Q) (hq : ∀ e a w, Q e a w → Q' e a cs w) :
    ∀ (l : List Oper) (k : Nat), (∀ j, l[j]? = ops[k + j]?) → ∀ a w, wpList P ops Q l a w → wpOpsS P ops Q' (List.range' k l.length) a cs w
  | [], k, h, a, w, hl => hq _ _ _ hl
  | o :: l, k, h, a, w, hl => by
    have h0 : ops[k]? = some o := by have := h 0; simpa using this.symm
    have ih := opsS_of_list hQ hq l (k + 1) (fun j => by
      have := h (j + 1)
      rw [List.getElem?_cons_succ] at this
      rw [this]
      congr 1
      omega)
    rw [List.length_cons, List.range'_succ]
    unfold wpOpsS
    simp only [h0]
    unfold wpList at hl
    split at hl
    · rename_i hw
      rw [if_pos hw]
      rcases hl with hl | ⟨_, hl⟩
      · have h1 := Oper.wp_mono (K' := fun a' w' => wpOpsS P ops Q' (List.range' (k + 1) l.length) a' cs w') ih hl
        unfold Oper.wp at h1
        split
        · rename_i w' hr
          rw [hr] at h1
          exact h1.elim
        · exact upon_Q hq hQ h1
      · exact (hQ hl).elim
    · rename_i hw
      rw [if_neg hw]
      exact ih _ _ hl
theorem wpList_app {ops : Array Oper} {Q Q' : Exit → Act → World → Prop} {l2 : List Oper} (hQ : ¬ LetsOut Q) (hn : ∀ a w, Q .normal a w → wpList P ops Q' l2 a w) (he : ∀ e a w, e ≠ .normal → Q e a w → Q' e a w) :
    ∀ (l : List Oper) a w, wpList P ops Q l a w → wpList P ops Q' (l ++ l2) a w
  | [], a, w, h => hn a w h
  | o :: l, a, w, h => by
    rw [List.cons_append]
    unfold wpList at h ⊢
    split at h
    · rename_i hw
      rw [if_pos hw]
      rcases h with h | ⟨_, h⟩
      · refine .inl ?_
        have h1 := Oper.wp_mono (wpList_app hQ hn he l) h
        unfold Oper.wp at h1 ⊢
        generalize (execOp a.eval o).run P w = r at h1
        cases r with
        | ok n w' =>
          cases n <;> simp only [Oper.upon] at h1 ⊢ <;>
            first
              | exact h1
              | exact Calls.mono h1 (fun e w'' hh => by
                  cases e <;> first
                    | exact hh
                    | exact he _ _ _ (by simp) hh
                    | exact (hQ hh).elim)
        | halt x w' => cases x <;> simp only [Oper.upon] at h1 ⊢ <;> first | exact h1 | exact he _ _ _ (by simp) h1
      · exact (hQ h).elim
    · rename_i hw
      rw [if_neg hw]
      exact wpList_app hQ hn he l _ _ h
theorem lift_in {R : RD} {g0 : Gh} {w0 : World} {m0 : Mem} {Q : QS} : ¬ LetsOut (Lift Γ N R g0 w0 m0 Q) := fun ⟨_, _, h⟩ => h

theorem runOps_mono {pn pn' : Value → (Nat → AV) → Mem → Prop} {K K' : (Nat → AV) → Mem → Prop} (hK : ∀ env m, K env m → K' env m) (hp : ∀ v env m, pn v env m → pn' v env m) : ∀ {l : List CO} {env : Nat → AV} {m : Mem}, runOps P Γ pn l env m K → runOps P Γ pn' l env m K'
  | [], _, _, h => hK _ _ h
  | o :: l, env, m, h => by
    unfold runOps at h ⊢
    split at h
    · exact stepO_mono h (fun _ _ h => runOps_mono hK hp h) hp
    · split at h
      · split at h
        · rename_i hb
          simp only [hb, if_true]
          exact stepO_mono h (fun _ _ h => runOps_mono hK hp h) hp
        · rename_i hb
          simp only [hb, if_false]
          exact runOps_mono hK hp h
      · exact runOps_mono hK hp h
      · exact h.elim

/-! ### The closure -/
def uMode : Option Value → FrameMode
  | none => .returning
  | some v => .panicking [{ v := v, recovered := false }]
def uOut : Option Value → FrameMode
  | none => .returning
  | some v => .panicking [{ v := v, recovered := true }]
def uVal : Option Value → Value
  | none => .nilIface
  | some v => v
abbrev allR (M : ML) (D : List Deferred) : RD := ⟨fun n => memL M n ≠ none, D⟩
/-- Closed facts of a closure that recovers first. -/
structure DFun (P : Program) (k : FuncId) (N : Nat) (dR : Nat) (lD : List CO) (CD : CC) : Prop where
  is : ∃ fn id ops y oR l, P.funcs[k]? = some fn ∧ fn.body = some (.seq (.region id ops false) y) ∧ (fn.name == "runtime.NumGoroutine") = false ∧ fn.ntmps = N ∧ fn.results = #[] ∧ ops.toList = oR :: l ∧
    oR.op = .call { callee := .builtin .recover, args := #[], argTypes := #[] } ∧ oR.guard = none ∧ oR.dst = some dR ∧ l.mapM (cO P N ops) = some (lD.map CO.er) ∧ cC P N y = some (erase CD)

theorem def_calls (hm : P.follows .mixedOrders = true) {k : FuncId} {dR : Nat} {lD : List CO} {CD : CC} (hD : DFun P k N dR lD CD) {cap : List AV} (hc : cap.length ≤ N) {QD : QE} (u : Option Value)
    (h : wlE P Γ N (allR M []) (.seq (.reg lD) CD) QD ((dR, .p (.s (uVal u))) :: argE cap) M) (hQ : ∀ ex L M', QD ex L M' → ex = .normal ∨ ex = .ret) {cargs : List Value} (hR : Rel Γ g w (memL M)) (hv : VL g w.heap cap cargs) :
    CallsD P k cargs.toArray (uMode u) w fun e u' w' => (∃ v, e = .returned v) ∧ u' = uOut u ∧ ∃ g' M' ex L', QD ex L' M' ∧ Out Γ g w (memL M) g' w' (memL M') := by
  obtain ⟨fn, id, ops, y, oR, l, hf, hb, hname, rfl, hres, hops, hop, hg, hd, hl, hy⟩ := hD.is
  refine callsD_of_wpS hf hb fun c₀ cs hu => ?_
  refine wpS_seq (wpS_region ?_)
  have hsz : ops.size = l.length + 1 := by rw [← Array.length_toList, hops]; rfl
  have h0 : ops[0]? = some oR := by rw [← Array.getElem?_toList, hops]; rfl
  have hrun : ∀ a : Act, (execOp a.eval oR).run P w = .ok .recover w := fun a => by
    unfold execOp
    simp only [hop, resolve, Sem.run_bind, Sem.run_pure, Result.andThen_ok]
    rfl
  rw [hsz, List.range_eq_range', List.range'_succ]
  unfold wpOpsS
  simp only [h0]
  rw [if_pos (by simp [Region.wanted, hg])]
  rw [hrun]
  have hlen : cargs.length = cap.length := hv.1.symm
  have hS : IS Γ fn.ntmps (allR M []) g w (memL M) g w { tmps := cargs.toArray ++ Array.replicate (fn.ntmps - cargs.toArray.size) undef, defers := [] } (look (argE cap)) (memL M) := by
    refine ⟨⟨hR, by simp; omega, fun i v hi => ?_⟩, St.refl _ _ _, fun n hn => ⟨hn, rfl, rfl⟩, rfl⟩
    rw [look_argE]
    simp only at hi
    by_cases hlt : i < cap.length
    · rw [List.getD_eq_getElem?_getD, List.getElem?_eq_getElem hlt]
      rw [Array.getElem?_append_left (by simp; omega)] at hi
      exact hv.2 i _ v (List.getElem?_eq_getElem hlt) (by simpa using hi)
    · rw [List.getD_eq_getElem?_getD, List.getElem?_eq_none (by omega)]
      exact .junk
  have hS1 := hS.put (Out.refl hR) (r := .p (.s (uVal u))) (v := uVal u) (.p (.s _)) (some dR)
  rw [show putE (look (argE cap)) (some dR) (.p (.s (uVal u))) = look ((dR, .p (.s (uVal u))) :: argE cap) from (look_putL _ _ _).symm] at hS1
  -- the rest of the region, and of the code
  have key : ∀ cs' : List Frame, cs' = { c₀ with mode := uOut u } :: cs → ∀ a' : Act, IS Γ fn.ntmps (allR M []) g w (memL M) g w a' (look ((dR, .p (.s (uVal u))) :: argE cap)) (memL M) →
      wpOpsS P ops (Exit.thenS (y.wpS P (bodyPostS P fn c₀ cs fun e u' w' => (∃ v, e = .returned v) ∧ u' = uOut u ∧ ∃ g' M' ex L', QD ex L' M' ∧ Out Γ g w (memL M) g' w' (memL M')))
        (bodyPostS P fn c₀ cs fun e u' w' => (∃ v, e = .returned v) ∧ u' = uOut u ∧ ∃ g' M' ex L', QD ex L' M' ∧ Out Γ g w (memL M) g' w' (memL M'))) (List.range' 1 l.length) a' cs' w := by
    intro cs' hcs a' hS'
    have fin : ∀ (ex : EX) (a : Act) (w' : World), (∃ g' env m', IS Γ fn.ntmps (allR M []) g w (memL M) g' w' a env m' ∧ toQ QD ex env m') → a.defers = [] ∧ ∃ u', cs' = { c₀ with mode := u' } :: cs ∧ ∃ v, (results fn a.tmps).run P w' = .ok v w' ∧ ((∃ v', Ending.returned v = .returned v') ∧ u' = uOut u ∧ ∃ g' M' ex L', QD ex L' M' ∧ Out Γ g w (memL M) g' w' (memL M')) := by
      rintro ex a w' ⟨g', _, _, hS2, L2, M2, rfl, rfl, hq⟩
      exact ⟨hS2.dfs, uOut u, hcs, _, results_none hres _ _ _, ⟨_, rfl⟩, rfl, g', M2, ex, L2, hq, out_of hR hS2.rel.rel hS2.st hS2.nm⟩
    refine opsS_of_list (Q := Lift Γ fn.ntmps (allR M []) g w (memL M) (toQ fun ex L M' => ex = .normal ∧ wlE P Γ fn.ntmps (allR M []) CD QD L M')) lift_in ?_ l 1 (fun j => by
      rw [← Array.getElem?_toList, hops, Nat.add_comm, List.getElem?_cons_succ]) a' w ?_
    · intro e a1 w1 he
      cases e with
      | normal =>
        obtain ⟨g1, _, _, hS2, L2, M2, rfl, rfl, _, hq⟩ := he
        show y.wpS P _ a1 cs' w1
        refine wpS_of_wp (wp_mono (wlE_sound hm hq y hy _ _ _ _ _ _ hS2) (fun e a2 w2 h2 => ?_))
        cases e with
        | normal => exact fin .normal a2 w2 h2
        | ret => exact fin .ret a2 w2 h2
        | exit i => obtain ⟨_, _, _, _, L3, M3, _, _, h3⟩ := h2; rcases hQ _ _ _ h3 with h3 | h3 <;> cases h3
        | goto i => exact h2.elim
        | panic ch => obtain ⟨_, _, _, _, _, _, L3, M3, _, _, h3⟩ := h2; rcases hQ _ _ _ h3 with h3 | h3 <;> cases h3
        | outgrown => exact h2.elim
      | exit i => obtain ⟨_, _, _, _, _, _, _, _, h3, _⟩ := he; cases h3
      | goto i => exact he.elim
      | ret => obtain ⟨_, _, _, _, _, _, _, _, h3, _⟩ := he; cases h3
      | panic ch => obtain ⟨_, _, _, _, _, _, _, _, _, _, h3, _⟩ := he; cases h3
      | outgrown => exact he.elim
    · refine runOps_sound ops (K' := toK fun L M' => wlE P Γ fn.ntmps (allR M []) CD QD L M') (pn := toP fun _ _ _ => False) ?_ ?_ l lD hl _ _ _ _ _ hS' (runOps_mono ?_ ?_ (runE_sound h))
      · rintro g1 w1 a1 env m1 hS2 ⟨L2, M2, rfl, rfl, hq⟩
        exact ⟨g1, _, _, hS2, L2, M2, rfl, rfl, rfl, hq⟩
      · rintro v g1 w1 a1 env m1 hS2 ⟨L2, M2, rfl, rfl, hq⟩
        exact hq.elim
      · exact fun _ _ h => h
      · rintro v env m1 ⟨L2, M2, rfl, rfl, hq⟩
        rcases hQ _ _ _ hq with h3 | h3 <;> cases h3
  cases u with
  | none =>
    have hrec : recoverD (c₀ :: cs) = none := by
      simp only [uMode] at hu
      simp [recoverD, hu]
    simp only [hrec, hd]
    refine key _ ?_ _ hS1
    cases c₀
    simp only [uMode] at hu
    subst hu
    rfl
  | some v =>
    have hrec : recoverD (c₀ :: cs) = some (v, { c₀ with mode := uOut (some v) } :: cs) := by
      simp only [uMode] at hu
      simp [recoverD, hu, uOut]
    simp only [hrec, hd]
    exact key _ rfl _ hS1

/-! ### The function -/
/-- Closed facts of a function that defers a closure, in a region of its own, once. -/
structure GFun (P : Program) (f : FuncId) (N : Nat) (A : CC) (lB : List CO) (t : Nat) (C : CC) (rs : List RV) (np : Nat) : Prop where
  is : ∃ fn x id ops y lo od, P.funcs[f]? = some fn ∧ fn.body = some (.seq x (.seq (.region id ops false) y)) ∧ (fn.name == "runtime.NumGoroutine") = false ∧ fn.ntmps = N ∧ cC P N x = some (erase A) ∧ ops.toList = lo ++ [od] ∧ lo.mapM (cO P N ops) = some (lB.map CO.er) ∧
    od.op = .defer { callee := .value (.tmp t), args := #[], argTypes := #[] } ∧ od.guard = none ∧ od.dst = none ∧ cC P N y = some (erase C) ∧ fn.results.toList.mapM (cRes P N) = some rs
  np : np ≤ N
  tN : t < N

/-- Behind the closure: the function's end. -/
def dfrE (pre : ML) (rs : List RV) (e : AE) (post : ML) (L : EL) : QE
  | .normal, _, M | .ret, _, M => finE pre rs e post .ret L M
  | _, _, _ => False
/-- The code's end: then the closure is called. -/
def dfrQ (P : Program) (Γ : Globs) (Nd dR : Nat) (lD : List CO) (CD : CC) (cap : List AV) (pre : ML) (rs : List RV) (e : AE) (post : ML) : QE
  | .normal, L, M | .ret, L, M => wlE P Γ Nd (allR M []) (.seq (.reg lD) CD) (dfrE pre rs e post L) ((dR, .p (.s .nilIface)) :: argE cap) M
  | .pan v, L, M => wlE P Γ Nd (allR M []) (.seq (.reg lD) CD) (dfrE pre rs e post L) ((dR, .p (.s v)) :: argE cap) M
  | .exit _, _, _ => False
def dfrB (P : Program) (Γ : Globs) (N t : Nat) (C : CC) (k Nd dR : Nat) (lD : List CO) (CD : CC) (pre : ML) (rs : List RV) (e : AE) (post : ML) : QE
  | .normal, L, M => ∃ cap, look L t = .fn (.func k) [] cap ∧ cap.length ≤ Nd ∧ ∀ D, wlE P Γ N (allR M D) C (dfrQ P Γ Nd dR lD CD cap pre rs e post) L M
  | _, _, _ => False
def dfrA (P : Program) (Γ : Globs) (N : Nat) (R : RD) (lB : List CO) (QB : QE) : QE
  | .normal, L, M => opsS P Γ N R QB lB [] L M
  | _, _, _ => False

theorem good_dfr (hm : P.follows .mixedOrders = true) {f k : FuncId} {A C CD : CC} {lB lD : List CO} {t Nd dR np : Nat} {rs : List RV} (hG : GFun P f N A lB t C rs np) (hD : DFun P k Nd dR lD CD) {args : List AV} {pre post : ML} {r : AV} (hnp : args.length = np)
    (hn : namesIn pre (namesL args) = true ∧ namesIn pre (pre.flatMap fun p => p.2.names) = true ∧ namesIn post (AE.ret r).names = true ∧ namesIn post (post.flatMap fun p => p.2.names) = true ∧ namesIn post (keys pre) = true)
    (h : codeS P Γ N (Rof pre) (dfrA P Γ N (Rof pre) lB (dfrB P Γ N t C k Nd dR lD CD pre rs (.ret r) post)) A [] (argE args) pre) : Good P Γ f args pre (.ret r) post := by
  obtain ⟨an', pn', rn', qn', dom'⟩ := hn
  have rn : ∀ n ∈ (AE.ret r).names, memL post n ≠ none := namesIn_spec rn'
  have qn : ∀ n q, memL post n = some q → ∀ k ∈ q.names, memL post k ≠ none := fun n q hr k hk => by
    obtain ⟨p, hp, rfl⟩ := memL_mem hr
    exact namesIn_spec qn' k (List.mem_flatMap.2 ⟨p, hp, hk⟩)
  have dom : ∀ n, memL pre n ≠ none → memL post n ≠ none := fun n hn => namesIn_spec dom' n (memL_keys.1 hn)
  obtain ⟨⟨fn, x, id, ops, y, lo, od, hf, hb, hname, rfl, hx, hops, hlo, hod, hog, hodst, hy, hrs⟩, hnp', htN⟩ := hG
  obtain ⟨fk, _, _, _, _, _, hfk, hbk, hnk, _⟩ := hD.is
  refine ⟨⟨fn, hf, by simp [hb], hname⟩, namesIn_spec an', fun n q hr k hk => ?_, rn, qn, dom, fun g w cargs hR hv => ?_⟩
  · obtain ⟨p, hp, rfl⟩ := memL_mem hr
    exact namesIn_spec pn' k (List.mem_flatMap.2 ⟨p, hp, hk⟩)
  refine calls_of_wp_defers hf hb ?_
  have hlen : cargs.length = args.length := hv.1.symm
  have hS : IS Γ fn.ntmps (Rof pre) g w (memL pre) g w { tmps := cargs.toArray ++ Array.replicate (fn.ntmps - cargs.toArray.size) undef, defers := [] } (look (argE args)) (memL pre) := by
    refine ⟨⟨hR, by simp; omega, fun i v hi => ?_⟩, St.refl _ _ _, fun n hn => ⟨hn, rfl, rfl⟩, rfl⟩
    rw [look_argE]
    simp only at hi
    by_cases hlt : i < args.length
    · rw [List.getD_eq_getElem?_getD, List.getElem?_eq_getElem hlt]
      rw [Array.getElem?_append_left (by simp; omega)] at hi
      exact hv.2 i _ v (List.getElem?_eq_getElem hlt) (by simpa using hi)
    · rw [List.getD_eq_getElem?_getD, List.getElem?_eq_none (by omega)]
      exact .junk
  refine wp_seq (wp_mono (wlE_sound hm h x hx g w (memL pre) g w _ hS) (fun ex a w1 hl => ?_))
  cases ex with
  | exit i => obtain ⟨_, _, _, _, _, _, _, _, h3⟩ := hl; exact h3.elim
  | goto i => exact hl.elim
  | ret => obtain ⟨_, _, _, _, _, _, _, _, h3⟩ := hl; exact h3.elim
  | panic ch => obtain ⟨_, _, _, _, _, _, _, _, _, _, h3⟩ := hl; exact h3.elim
  | outgrown => exact hl.elim
  | normal =>
  obtain ⟨g1, _, _, hS1, L1, M1, rfl, rfl, hops1⟩ := hl
  refine wp_seq (wp_region_list ?_)
  rw [hops]
  refine wpList_app (Q := Lift Γ fn.ntmps (Rof pre) g w (memL pre) (toQ fun ex L M => ex = .normal ∧ dfrB P Γ fn.ntmps t C k Nd dR lD CD pre rs (.ret r) post ex L M)) lift_in ?_ ?_ lo a w1 ?_
  · rintro a2 w2 ⟨g2, _, _, hS2, L2, M2, rfl, rfl, _, cap, ht, hcap, hC⟩
    have hfr := cX_sound hS2.rel (x := .tmp t) (x' := .t t) (by simp [cX, htN])
    rw [show (X.t t).ev Γ (look L2) = look L2 t from rfl, ht] at hfr
    generalize hq : a2.eval (.tmp t) = q at hfr
    cases hfr with
    | fn l1 r1 l2 r2 =>
    rename_i vf vc
    have hvf : vf = #[] := Array.eq_empty_of_size_eq_zero (by simpa using l1.symm)
    subst hvf
    have hrun : (execOp a2.eval od).run P w2 = .ok (.defer { target := .fn (.func k) vc, args := #[] }) w2 := by
      unfold execOp
      simp only [hod, resolve, hq, Deferred.ofValue, Sem.run_bind, Sem.run_pure, Result.andThen_ok]
      simp
    have hinv : ∀ w : World, (invoke (.fn (.func k) vc) #[]).run P w = .ok (.enter k vc) w := fun w => by
      have hbb : fk.body.isNone = false := by simp [hbk]
      have hpr : (program).run P w = .ok P w := rfl
      simp only [invoke, callFunc, Sem.run_bind, hpr, Result.andThen_ok, hfk, hnk, Bool.false_eq_true, if_false, hbb, Sem.run_pure]
      simp
    have hvl : VL g2 w2.heap cap vc.toList := VRs.list ⟨l2, r2⟩
    unfold wpList
    rw [if_pos (by simp [Region.wanted, hog])]
    refine .inl ?_
    unfold Oper.wp
    rw [hrun, Oper.upon_defer, hodst]
    unfold wpList
    show y.wp P _ _ w2
    obtain ⟨d, hd⟩ : ∃ d, d = ({ target := .fn (.func k) vc, args := #[] } : Deferred) := ⟨_, rfl⟩
    rw [← hd]
    have hS3 : IS Γ fn.ntmps (allR M2 [d]) g2 w2 (memL M2) g2 w2 ({ a2 with defers := d :: a2.defers }.put none undef) (look L2) (memL M2) := by
      refine ⟨⟨hS2.rel.rel, hS2.rel.size, hS2.rel.env⟩, St.refl _ _ _, fun n hn => ⟨hn, rfl, rfl⟩, ?_⟩
      show d :: a2.defers = [d]
      rw [hS2.dfs]
      rfl
    have fin : ∀ (u : Option Value) (g3 : Gh) (w3 : World) (a3 : Act) (L3 : EL) (M3 : ML), IS Γ fn.ntmps (allR M2 [d]) g2 w2 (memL M2) g3 w3 a3 (look L3) (memL M3) →
        wlE P Γ Nd (allR M3 []) (.seq (.reg lD) CD) (dfrE pre rs (.ret r) post L3) ((dR, .p (.s (uVal u))) :: argE cap) M3 → Leaves P fn a3.tmps (GoodPost Γ g w (memL pre) (.ret r) (memL post)) a3.defers (uMode u) w3 := by
      intro u g3 w3 a3 L3 M3 hS4 hcl
      have ho3 := out_of hS2.rel.rel hS4.rel.rel hS4.st hS4.nm
      have hv3 : VL g3 w3.heap cap vc.toList := ⟨hvl.1, fun i a v h1 h2 => ho3.vr (hvl.2 i a v h1 h2)⟩
      rw [show a3.defers = [d] from hS4.dfs, hd]
      refine leaves_cons (f := k) (args := vc) (by cases u <;> simp [uMode]) (hinv w3) ?_
      have hcalls := def_calls hm hD hcap (QD := dfrE pre rs (.ret r) post L3) u hcl (fun ex L M h => by cases ex <;> simp_all [dfrE]) hS4.rel.rel hv3
      rw [show vc.toList.toArray = vc from rfl] at hcalls
      refine hcalls.mono ?_
      rintro e u' w4 ⟨⟨v, rfl⟩, rfl, g4, M4, ex4, L4, hq4, ho4⟩
      have hset : settle (uOut u) = .returning := by cases u <;> simp [uOut, settle]
      simp only [hset, Leaves]
      have hq4' : finE pre rs (.ret r) post .ret L3 M4 := by cases ex4 <;> first | exact hq4 | exact hq4.elim
      obtain ⟨ρ, r0, r', hr0, he, hle, hme⟩ := finE_sound (ex := .ret) ⟨L3, M4, rfl, rfl, hq4'⟩
      cases he
      have hrel4 : RelS Γ fn.ntmps g4 w4 a3 (look L3) (memL M4) := ⟨ho4.rel, hS4.rel.size, fun i v hi => ho4.vr (hS4.rel.env i v hi)⟩
      obtain ⟨v4, h1, h2⟩ := run_results hrel4 hrs hr0
      refine ⟨v4, h1, r, under g4 ρ (memL post), rfl, ⟨rel_weak ho4.rel hme.mem hme.inj qn, st_weak ((hS2.st.trans hS4.st).trans ho4.st) hme.mem, fun n hn => ?_⟩, vr_restrict rn (hle _ _ _ h2)⟩
      obtain ⟨k1, k2, k3⟩ := hS2.nm n hn
      obtain ⟨j1, j2, j3⟩ := hS4.nm n k1
      obtain ⟨i2, i3⟩ := ho4.names n j1
      have h6 := under_σ (g := g4) (ρ := ρ) (dom n hn)
      rw [hme.R n hn] at h6
      exact ⟨h6.1.trans (i2.trans (j2.trans k2)), h6.2.trans (i3.trans (j3.trans k3))⟩
    refine wp_mono (wlE_sound hm (hC [d]) y hy _ _ _ _ _ _ hS3) (fun e a3 w3 h3 => ?_)
    cases e with
    | normal => obtain ⟨g3, _, _, hS4, L3, M3, rfl, rfl, hq3⟩ := h3; exact fin none g3 w3 a3 L3 M3 hS4 hq3
    | ret => obtain ⟨g3, _, _, hS4, L3, M3, rfl, rfl, hq3⟩ := h3; exact fin none g3 w3 a3 L3 M3 hS4 hq3
    | panic ch => obtain ⟨v, g3, _, _, rfl, hS4, L3, M3, rfl, rfl, hq3⟩ := h3; exact fin (some v) g3 w3 a3 L3 M3 hS4 hq3
    | exit i => obtain ⟨_, _, _, _, _, _, _, _, h4⟩ := h3; exact h4.elim
    | goto i => exact h3.elim
    | outgrown => exact h3.elim
  · intro e a2 w2 hne he
    cases e with
    | normal => exact absurd rfl hne
    | exit i => obtain ⟨_, _, _, _, _, _, _, _, h3, _⟩ := he; cases h3
    | goto i => exact he.elim
    | ret => obtain ⟨_, _, _, _, _, _, _, _, h3, _⟩ := he; cases h3
    | panic ch => obtain ⟨_, _, _, _, _, _, _, _, _, _, h3, _⟩ := he; cases h3
    | outgrown => exact he.elim
  · refine runOps_sound ops (K' := toK fun L M => dfrB P Γ fn.ntmps t C k Nd dR lD CD pre rs (.ret r) post .normal L M) (pn := toP fun _ _ _ => False) ?_ ?_ lo lB hlo _ _ _ _ _ hS1 (runOps_mono (fun _ _ h => h) (fun _ _ _ h => h) (runE_sound hops1))
    · rintro g1 w1 a1 env m1 hS2 ⟨L2, M2, rfl, rfl, hq⟩
      exact ⟨g1, _, _, hS2, L2, M2, rfl, rfl, rfl, hq⟩
    · rintro v g1 w1 a1 env m1 hS2 ⟨L2, M2, rfl, rfl, hq⟩
      exact hq.elim

/-! ### By evaluation -/
theorem sh_dfr (hm : P.follows .mixedOrders = true) {f k : FuncId} {A C CD : CC} {lB lD : List CO} {t Nd dR np : Nat} {rs : List RV} (hG : GFun P f N A lB t C rs np) (hD : DFun P k Nd dR lD CD) {args : List AV} {pre post : ML} {r : AV} (hnp : args.length = np)
    (hn : namesIn pre (namesL args) = true ∧ namesIn pre (pre.flatMap fun p => p.2.names) = true ∧ namesIn post (AE.ret r).names = true ∧ namesIn post (post.flatMap fun p => p.2.names) = true ∧ namesIn post (keys pre) = true)
    (h : codeS P Γ N (Rof pre) (dfrA P Γ N (Rof pre) lB (dfrB P Γ N t C k Nd dR lD CD pre rs (.ret r) post)) A [] (argE args) pre) : Good P Γ f args pre (.ret r) post := good_dfr hm hG hD hnp hn h
section
variable {pre post : ML} {rs : List RV} {e : AE} {L0 : EL} {k t Nd dR : Nat} {lD : List CO} {C CD : CC} {cap : List AV} {R' : RD}
theorem dfr_a {QB : QE} : exS P Γ N R (dfrA P Γ N R' l QB) .normal [] L M = opsS P Γ N R' QB l [] L M := nd rfl
theorem dfr_b (cap : List AV) (h1 : look L t = .fn (.func k) [] cap) (h2 : cap.length ≤ Nd) (h : ∀ D, codeS P Γ N (allR M D) (dfrQ P Γ Nd dR lD CD cap pre rs e post) C [] L M) : exS P Γ N R (dfrB P Γ N t C k Nd dR lD CD pre rs e post) .normal [] L M := ⟨cap, h1, h2, h⟩
theorem dfr_n : exS P Γ N R (dfrQ P Γ Nd dR lD CD cap pre rs e post) .normal [] L M = codeS P Γ Nd (allR M []) (dfrE pre rs e post L) (.seq (.reg lD) CD) [] ((dR, .p (.s .nilIface)) :: argE cap) M := nd rfl
theorem dfr_r : exS P Γ N R (dfrQ P Γ Nd dR lD CD cap pre rs e post) .ret [] L M = codeS P Γ Nd (allR M []) (dfrE pre rs e post L) (.seq (.reg lD) CD) [] ((dR, .p (.s .nilIface)) :: argE cap) M := nd rfl
theorem dfr_p (v : Value) : exS P Γ N R (dfrQ P Γ Nd dR lD CD cap pre rs e post) (.pan v) [] L M = codeS P Γ Nd (allR M []) (dfrE pre rs e post L) (.seq (.reg lD) CD) [] ((dR, .p (.s v)) :: argE cap) M := nd rfl
theorem dfr_en : exS P Γ N R (dfrE pre rs e post L0) .normal [] L M = finS (rvsE L0 M rs) pre e post M := nd rfl
theorem dfr_er : exS P Γ N R (dfrE pre rs e post L0) .ret [] L M = finS (rvsE L0 M rs) pre e post M := nd rfl
theorem pan_v {t : TypeId} {v : Value} : panS P Γ N R Q (.p (.s (.iface t v))) fs L M = exS P Γ N R Q (.pan (.iface t v)) fs L M := propext ⟨fun ⟨_, _, h1, h2⟩ => by cases h1; exact h2, fun h => ⟨_, _, rfl, h⟩⟩
theorem f_pan0 (v : Value) : exS P Γ N R (finE [] rs (.pan v) []) (.pan v) [] L M = True := propext ⟨fun _ => trivial, fun _ => ⟨rfl, fun n => n, fun n r h => by simp [memL] at h, fun n n' h => by simp [memL] at h, fun n h => by simp [memL] at h⟩⟩
theorem sh_callP {pre post : ML} {f : FuncId} {first cap args args' : List AV} {v : Value} (hG : Good P Γ f args' pre (.pan v) post) (as : List (Nat × Nat))
    (hle : LeAs (first ++ args ++ cap) (renL (rho as M.length) args')) (h1 : oldsE M (rho as M.length) pre) (h2 : injB ((keys post).map (rho as M.length)) = true) (h3 : newsE M pre (rho as M.length) (keys post))
    (hK : exS P Γ N R Q (.pan v) fs L (renM (rho as M.length) post ++ M)) : calS P Γ N R Q (.fn (.func f) first cap) args d l fs L M := callE_pan hG as hle h1 h2 h3 hK
end
attribute [go_sem ↓] dfr_a dfr_n dfr_r dfr_p dfr_en dfr_er f_pan0
attribute [go_sem] pan_v
end Go.Shade
