/- Drawn regions and code by lists. Own work. -/
import Derived.Test.YtnhkcalanpepoaaSw
namespace Go.Shade
open Go

section
variable {P : Program} {Γ : Globs} {N : Nat} {R : RD} {L : EL} {M : ML} {o : CO}

theorem stepTE_sound {K : EL → ML → List Nat × List Nat → Prop} (h : stepTE P Γ o L M K) : stepT P Γ o (look L) (memL M) (toT K) := by
  obtain ⟨dst, op, gd⟩ := o
  have pure : (∃ r, cpure Γ (look L) op = some r ∧ K (putL L dst r) M ([], [])) → (∀ f args, op ≠ .call f args) → (∀ x, op ≠ .panic x) → (∀ neg x, op ≠ .isnil neg x) → stepT P Γ ⟨dst, op, gd⟩ (look L) (memL M) (toT K) := by
    rintro ⟨r, hr, hk⟩ h1 h2 h3
    unfold stepT
    split
    · rename_i f args e; exact absurd e (h1 f args)
    · rename_i x e; exact absurd e (h2 x)
    · rename_i neg x e; exact absurd e (h3 neg x)
    · simp only [hr]
      exact ⟨_, _, (look_putL _ _ _).symm, rfl, hk⟩
  have mem : (∃ nm r M', cpure Γ (look L) op = none ∧ cmem Γ (look L) (memL M) nm op = some (r, memL M') ∧ K (putL L dst r) M' (cfoot Γ (look L) nm op)) → (∀ f args, op ≠ .call f args) → (∀ x, op ≠ .panic x) → (∀ neg x, op ≠ .isnil neg x) → stepT P Γ ⟨dst, op, gd⟩ (look L) (memL M) (toT K) := by
    rintro ⟨nm, r, M', hp, hr, hk⟩ h1 h2 h3
    unfold stepT
    split
    · rename_i f args e; exact absurd e (h1 f args)
    · rename_i x e; exact absurd e (h2 x)
    · rename_i neg x e; exact absurd e (h3 neg x)
    · simp only [hp]
      refine ⟨nm, ?_⟩
      simp only [hr]
      exact ⟨_, _, (look_putL _ _ _).symm, rfl, hk⟩
  cases op <;> simp only [stepTE] at h
  case ext e xs =>
    obtain ⟨⟨r, M'⟩, hr, hk⟩ := h
    unfold extE at hr
    unfold extF at hk
    split at hr
    · rename_i r' hp
      cases hr
      simp only [hp] at hk
      exact pure ⟨r, by simp only [cpure, hp], hk⟩ (by simp) (by simp) (by simp)
    · rename_i hp
      obtain ⟨⟨r', us⟩, he, hh⟩ := Option.map_eq_some_iff.1 hr
      simp only [Prod.mk.injEq] at hh
      obtain ⟨rfl, rfl⟩ := hh
      simp only [hp] at hk
      exact mem ⟨M.length, r', us ++ M, by simp only [cpure, hp], by simp only [cmem, he, Option.map_some, memL_app], by simp only [cfoot]; exact hk⟩ (by simp) (by simp) (by simp)
  case call f args =>
    obtain ⟨g, first, cap, args', pre, r, post, ρ, W, h1, h2, h3, h4, h5, h6, h7⟩ := h
    unfold stepT
    refine ⟨g, first, cap, args', pre, r, post, ρ, W, h1, h2, h3, h4, h5, h6, _, _, (look_putL _ _ _).symm, applyM_list rfl post, h7⟩
  case load agg n a =>
    obtain ⟨r, hr, hk⟩ := h
    unfold loadE at hr
    split at hr
    · rename_i b off hev
      refine mem ⟨0, r, M, by simp [cpure, hev], ?_, by simpa [cfoot, hev, footP] using hk⟩ (by simp) (by simp) (by simp)
      split at hr
      · rename_i cs fz hm
        simp only [cmem, hev, hm, hr, Option.map_some]
      · cases hr
    · rename_i cs hev
      exact pure ⟨r, by simp [cpure, hev, hr], by simpa [hev, footP] using hk⟩ (by simp) (by simp) (by simp)
    · cases hr
  case store n a x =>
    obtain ⟨M', hr, hk⟩ := h
    unfold storeE at hr
    split at hr
    · rename_i b off hev
      split at hr
      · rename_i cs hm
        split at hr
        · rename_i hc
          cases hr
          simp only [hev, footP, if_true] at hk
          refine mem ⟨0, .junk, _, by simp [cpure], ?_, by simp only [cfoot, hev]; exact hk⟩ (by simp) (by simp) (by simp)
          simp only [cmem, hev, hm, hc, if_true, memL_cons]
        · cases hr
      · cases hr
    · cases hr
  case box x =>
    obtain ⟨r, hr, hk⟩ := h
    exact mem ⟨M.length, r.1, r.2, by simp [cpure], cmem_box hr, hk⟩ (by simp) (by simp) (by simp)
  case alloc zero =>
    obtain ⟨r, hr, hk⟩ := h
    unfold boxE at hr
    split at hr
    · rename_i hc
      cases hr
      simp only [Bool.and_eq_true, freshE, Option.isNone_iff_eq_none] at hc
      refine mem ⟨M.length, _, _, by simp [cpure], ?_, hk⟩ (by simp) (by simp) (by simp)
      simp only [cmem, hc.1, memL_cons, AV.cells]
    · cases hr
  case bslice sz len zero parts =>
    obtain ⟨r, hr, hk⟩ := h
    unfold bsliceE at hr
    obtain ⟨ps, hps, hr⟩ := Option.bind_eq_some_iff.1 hr
    split at hr
    · rename_i hc
      cases hr
      have e1 := (parts_eq parts).trans hps
      have e2 : (parts.all fun p => (p.2.ev Γ (look L)).celled) = (parts.map fun p => (p.1, p.2.ev Γ (look L))).all fun p => p.2.celled := by
        rw [List.all_map]
        rfl
      refine mem ⟨M.length, _, _, by simp [cpure], ?_, hk⟩ (by simp) (by simp) (by simp)
      simp only [Bool.and_eq_true, freshE, Option.isNone_iff_eq_none] at hc
      simp only [cmem, e1, hc.1.1.1.1.1, memL_cons]
      rw [if_pos]
      simp only [Bool.and_eq_true]
      exact ⟨⟨⟨⟨by rw [e2]; exact hc.1.1.1.1.2, hc.1.1.1.2⟩, hc.1.1.2⟩, hc.1.2⟩, hc.2⟩
    · cases hr
  case append sz bytes zero s x =>
    obtain ⟨r, hr, hk⟩ := h
    unfold appE at hr
    obtain ⟨ys, hy, hr⟩ := Option.bind_eq_some_iff.1 hr
    obtain ⟨xs, hx, hr⟩ := Option.bind_eq_some_iff.1 hr
    split at hr
    · rename_i hc
      obtain ⟨hc0, hc⟩ := hc
      simp only [freshE, Option.isNone_iff_eq_none] at hc0
      refine mem ⟨M.length, r.1, r.2, by simp [cpure], ?_, by cases hs : s.ev Γ (look L) <;> simpa [cfoot, hs, footA] using hk⟩ (by simp) (by simp) (by simp)
      simp only [cmem, hy, hx, hc0]
      rw [if_pos hc]
      split at hr
      · rename_i t sz' xs' hev
        split at hr
        · rename_i ht
          cases hr
          simp only [hev, ht, memL_cons]
        · cases hr
      · rename_i hev
        cases hr
        simp only [hev, memL_cons]
      · cases hr
    · cases hr
  case aslice sz len x lo hi =>
    obtain ⟨r, hr, hk⟩ := h
    unfold asliceE at hr
    split at hr
    · rename_i b off hev
      split at hr
      · rename_i cs fz hm
        obtain ⟨l, hl, hr⟩ := Option.bind_eq_some_iff.1 hr
        obtain ⟨h', hh, hr⟩ := Option.bind_eq_some_iff.1 hr
        obtain ⟨⟨p, q⟩, hb, hr⟩ := Option.bind_eq_some_iff.1 hr
        simp only at hr
        obtain ⟨ps, hps, hr⟩ := Option.bind_eq_some_iff.1 hr
        split at hr
        · rename_i hc
          cases hr
          have e1 : evO Γ (look L) lo = some l := by rw [← hl]; cases lo <;> rfl
          have e2 : evO Γ (look L) hi = some h' := by rw [← hh]; cases hi <;> rfl
          simp only [hev, footP, if_true] at hk
          refine mem ⟨0, _, _, by simp [cpure], ?_, by simp only [cfoot, hev]; exact hk⟩ (by simp) (by simp) (by simp)
          simp only [cmem, hev, hm, e1, e2, bind, Option.bind_some, hb, hps, memL_cons]
          rw [if_pos hc]
        · cases hr
      · cases hr
    · cases hr
  all_goals exact pure h (by simp) (by simp) (by simp)


theorem runT_mono {K K' : (Nat → AV) → Mem → List (List Nat × List Nat) → Prop} (hK : ∀ env m t, K env m t → K' env m t) : ∀ {l : List CO} {env : Nat → AV} {m : Mem} {tr : List (List Nat × List Nat)}, runT P Γ l env m tr K → runT P Γ l env m tr K'
  | [], _, _, _, h => hK _ _ _ h
  | o :: l, env, m, tr, h => by
    unfold runT at *
    split
    · rename_i hg
      simp only [hg] at h
      exact stepT_mono h (fun _ _ _ h => runT_mono hK h)
    · rename_i s b hg
      simp only [hg] at h
      split at h
      · rename_i t ht
        split at h
        · rename_i htb
          simp only [htb, if_true]
          exact stepT_mono h (fun _ _ _ h => runT_mono hK h)
        · rename_i htb
          simp only [htb, if_false]
          exact runT_mono hK h
      · exact runT_mono hK h
      · exact h.elim

theorem runTE_sound {K : EL → ML → List (List Nat × List Nat) → Prop} : ∀ {l : List CO} {L : EL} {M : ML} {tr : List (List Nat × List Nat)}, runTE P Γ l L M tr K → runT P Γ l (look L) (memL M) tr (toT K)
  | [], L, M, tr, h => ⟨L, M, rfl, rfl, h⟩
  | ⟨dst, op, none⟩ :: l, L, M, tr, h => by
    unfold runTE at h
    unfold runT
    refine stepT_mono (stepTE_sound h) ?_
    rintro env m f ⟨L, M, rfl, rfl, h⟩
    exact runTE_sound h
  | ⟨dst, op, some (s, b)⟩ :: l, L, M, tr, h => by
    unfold runTE at h
    unfold runT
    rcases h with ⟨t, ht, h1, h2⟩ | ⟨ht, h2⟩
    rotate_left
    · simp only [ht]
      rw [← look_putL]
      exact runTE_sound h2
    simp only [ht]
    split
    · rename_i htb
      refine stepT_mono (stepTE_sound (h1 htb)) ?_
      rintro env m f ⟨L, M, rfl, rfl, h⟩
      exact runTE_sound h
    · rename_i htb
      rw [← look_putL]
      exact runTE_sound (h2 htb)

/-! ### Code -/
def thenE (K : EL → ML → Prop) (Q : QE) : QE
  | .normal, L, M => K L M
  | e, L, M => Q e L M
def blockE (id : Nat) (Q : QE) : QE
  | .exit i, L, M => if i = id then Q .normal L M else Q (.exit i) L M
  | e, L, M => Q e L M
def condE (v : AV) (A B : Prop) : Prop := ∃ t, v = .bool t ∧ (t = true → A) ∧ (t = false → B)
def indepP (l : List CO) (bef : List (List Nat)) (tr : List (List Nat × List Nat)) : Prop := indep l bef tr = true
def loopE (P : Program) (Γ : Globs) (N : Nat) (R : RD) (c : CC) (Q : QE) (L : EL) (M : ML) : Prop := Vld P Γ N R (.loop c) (toQ Q) (look L) (memL M)
/-- These slots alone. -/
def restr (L : EL) : List Nat → EL
  | [] => []
  | i :: l => (i, look L i) :: restr L l
theorem restr_le (L : EL) (i : Nat) : ∀ l, (look L i).Le (look (restr L l) i)
  | [] => le_junk _
  | k :: l => by
    rw [restr, look]
    split
    · rename_i e; subst e; exact fun _ _ _ h => h
    · exact restr_le L i l
theorem vld_env {c : CC} {Q : QS} {env env' : Nat → AV} {m : Mem} (he : ∀ i, (env i).Le (env' i)) (h : Vld P Γ N R c Q env' m) : Vld P Γ N R c Q env m := by
  intro c0 hc g0 w0 m0 g w a hS
  exact h c0 hc g0 w0 m0 g w a ⟨⟨hS.rel.rel, hS.rel.size, fun k v hv => he k _ _ _ (hS.rel.env k v hv)⟩, hS.st, hS.nm, hS.dfs⟩
def wlE (P : Program) (Γ : Globs) (N : Nat) (R : RD) : CC → QE → EL → ML → Prop
  | .skip, Q, L, M => Q .normal L M
  | .reg l, Q, L, M => runE P Γ (fun v L M => Q (.pan v) L M) l L M (fun L M => Q .normal L M)
  | .regd l bef, Q, L, M => runTE P Γ l L M [] (fun L M tr => indepP l bef tr ∧ Q .normal L M)
  | .seq a b, Q, L, M => wlE P Γ N R a (thenE (fun L M => wlE P Γ N R b Q L M) Q) L M
  | .cond x a b, Q, L, M => condE (x.ev Γ (look L)) (wlE P Γ N R a Q L M) (wlE P Γ N R b Q L M)
  | .block id c, Q, L, M => wlE P Γ N R c (blockE id Q) L M
  | .loop c, Q, L, M => loopE P Γ N R c Q L M
  | .exit id, Q, L, M => Q (.exit id) L M
  | .ret, Q, L, M => Q .ret L M
  | .rest ls c, Q, L, M => wlE P Γ N R c Q (restr L ls) M

theorem wlE_sound (hm : P.follows .mixedOrders = true) : ∀ {c : CC} {Q : QE} {L : EL} {M : ML}, wlE P Γ N R c Q L M → Vld P Γ N R c (toQ Q) (look L) (memL M)
  | .skip, Q, L, M, h => vld_skip ⟨L, M, rfl, rfl, h⟩
  | .reg l, Q, L, M, h => vld_reg (runE_sound h)
  | .regd l bef, Q, L, M, h => vld_regd hm (runT_mono (by
      rintro env m t ⟨L, M, rfl, rfl, h1, h2⟩
      exact ⟨h1, L, M, rfl, rfl, h2⟩) (runTE_sound h))
  | .seq a b, Q, L, M, h => by
    refine vld_seq (vld_mono (wlE_sound hm (c := a) h) ?_)
    rintro e env m ⟨L, M, rfl, rfl, h⟩
    cases e with
    | normal => exact wlE_sound hm (c := b) h
    | exit id => exact ⟨L, M, rfl, rfl, h⟩
    | ret => exact ⟨L, M, rfl, rfl, h⟩
    | pan v => exact ⟨L, M, rfl, rfl, h⟩
  | .cond x a b, Q, L, M, h => by
    obtain ⟨t, ht, h1, h2⟩ := h
    exact vld_cond ht (fun e => wlE_sound hm (h1 e)) (fun e => wlE_sound hm (h2 e))
  | .block id c, Q, L, M, h => by
    refine vld_block (vld_mono (wlE_sound hm (c := c) h) ?_)
    rintro e env m ⟨L, M, rfl, rfl, h⟩
    cases e with
    | normal => exact ⟨L, M, rfl, rfl, h⟩
    | exit i =>
      simp only [blockE] at h
      simp only [blockQ]
      split
      · rename_i e
        rw [if_pos e] at h
        exact ⟨L, M, rfl, rfl, h⟩
      · rename_i e
        rw [if_neg e] at h
        exact ⟨L, M, rfl, rfl, h⟩
    | ret => exact ⟨L, M, rfl, rfl, h⟩
    | pan v => exact ⟨L, M, rfl, rfl, h⟩
  | .loop c, Q, L, M, h => h
  | .exit id, Q, L, M, h => vld_exit ⟨L, M, rfl, rfl, h⟩
  | .ret, Q, L, M, h => vld_ret ⟨L, M, rfl, rfl, h⟩
  | .rest ls c, Q, L, M, h => vld_rest (vld_env (fun i => restr_le L i ls) (wlE_sound hm (c := c) h))

/-- What is kept of slots and names at a loop's head, by lists. 'l' says which name is which. -/
structure WeakE (R : RD) (L : EL) (M : ML) (L' : EL) (M' : ML) : Prop where
  is : ∃ ρ, Weak R ρ (look L) (memL M) L' M'
theorem vld_toQ_mono {c : CC} {Q Q' : QE} {env : Nat → AV} {m : Mem} (h : Vld P Γ N R c (toQ Q) env m) (hq : ∀ e L M, Q e L M → Q' e L M) : Vld P Γ N R c (toQ Q') env m :=
  vld_mono h (by rintro e env m ⟨L, M, rfl, rfl, h⟩; exact ⟨L, M, rfl, rfl, hq _ _ _ h⟩)

/-- A loop: J holds at each round's head, of slots and names; each round lowers n. -/
theorem loopE_by (hm : P.follows .mixedOrders = true) {c : CC} {Q : QE} (J : Nat → EL → ML → Prop) {n : Nat} (h0 : ∃ L' M', J n L' M' ∧ WeakE R L M L' M')
    (round : ∀ n L M, J n L M → wlE P Γ N R c (thenE (fun L M => ∃ k L' M', k < n ∧ J k L' M' ∧ WeakE R L M L' M') Q) L M) : loopE P Γ N R c Q L M := by
  obtain ⟨L', M', hJ, ⟨ρ, hw⟩⟩ := h0
  refine vld_loopW J hJ hw (fun n L M hJ => vld_mono (wlE_sound hm (round n L M hJ)) ?_)
  rintro e env m ⟨L, M, rfl, rfl, h⟩
  cases e with
  | normal =>
    obtain ⟨k, L', M', h1, h2, ⟨ρ, h3⟩⟩ := h
    exact ⟨k, L', M', ρ, h1, h2, h3⟩
  | exit i => exact ⟨L, M, rfl, rfl, h⟩
  | ret => exact ⟨L, M, rfl, rfl, h⟩
  | pan v => exact ⟨L, M, rfl, rfl, h⟩

/-- The lists' own test. -/
def envE (L : EL) (ρ : Nat → Nat) : EL → Prop
  | [] => True
  | (i, a) :: L' => LeA (look L i) (a.ren ρ) ∧ envE L ρ L'
def namesIn (M : ML) : List Nat → Bool
  | [] => true
  | n :: l => (memL M n).isSome && namesIn M l
theorem namesIn_spec {M : ML} : ∀ {l : List Nat}, namesIn M l = true → ∀ n ∈ l, memL M n ≠ none
  | [], _, n, h => by simp at h
  | k :: l, h, n, hn => by
    rw [namesIn, Bool.and_eq_true] at h
    rcases List.mem_cons.1 hn with rfl | h'
    · intro e; rw [e] at h; simp at h
    · exact namesIn_spec h.2 n h'
theorem envE_spec {L : EL} {ρ : Nat → Nat} : ∀ {L' : EL}, envE L ρ L' → ∀ i, (look L i).Le ((look L' i).ren ρ)
  | [], _, i => by
    rw [look, AV.ren]
    exact le_junk _
  | (k, a) :: L', h, i => by
    rw [look]
    split
    · rename_i e; subst e; exact leA_sound h.1
    · exact envE_spec h.2 i
theorem weakE_of {M' : ML} {L' : EL} {pre : ML} (l : List (Nat × Nat)) (h1 : envE L (rho l 0) L') (h2 : memsE M (rho l 0) M') (h3 : injB ((keys M').map (rho l 0)) = true) (h4 : namesIn M' (L'.flatMap fun p => p.2.names) = true) (h5 : namesIn M' (M'.flatMap fun p => p.2.names) = true)
    (h6 : fixE (rho l 0) (keys pre) = true) (h7 : namesIn M' (keys pre) = true) : WeakE (rd pre) L M L' M' :=
  ⟨rho l 0, envE_spec h1, memsE_spec h2, fun n n' k1 k2 => injB_spec h3 n n' (memL_keys.1 k1) (memL_keys.1 k2), fun p hp n hn => namesIn_spec h4 n (List.mem_flatMap.2 ⟨p, hp, hn⟩), fun p hp n hn => namesIn_spec h5 n (List.mem_flatMap.2 ⟨p, hp, hn⟩),
    fun n hn => ⟨namesIn_spec h7 n (memL_keys.1 hn), by have := List.all_eq_true.1 h6 n (memL_keys.1 hn); simpa using this⟩⟩

/-- The contract of a function, by evaluation of its code. -/
theorem good_by (hm : P.follows .mixedOrders = true) {f : FuncId} {cc : CC} {rs : List RV} {np : Nat} (hF : Fun P f N cc rs np) {args : List AV} {pre post : ML} {e : AE} (hnp : args.length = np)
    (hn : namesIn pre (namesL args) = true ∧ namesIn pre (pre.flatMap fun p => p.2.names) = true ∧ namesIn post e.names = true ∧ namesIn post (post.flatMap fun p => p.2.names) = true ∧ namesIn post (keys pre) = true)
    (h : wlE P Γ N (rd pre) cc (finE pre rs e post) (argE args) pre) : Good P Γ f args pre e post := by
  obtain ⟨h1, h2, h3, h4, h5⟩ := hn
  refine good_of hF hnp (namesIn_spec h1) (fun p hp k hk => namesIn_spec h2 k (List.mem_flatMap.2 ⟨p, hp, hk⟩)) (namesIn_spec h3) (fun p hp k hk => namesIn_spec h4 k (List.mem_flatMap.2 ⟨p, hp, hk⟩)) (fun n hn => namesIn_spec h5 n (memL_keys.1 hn)) ?_
  exact vld_mono (wlE_sound hm h) (fun _ _ _ h => finE_sound h)
end
end Go.Shade
