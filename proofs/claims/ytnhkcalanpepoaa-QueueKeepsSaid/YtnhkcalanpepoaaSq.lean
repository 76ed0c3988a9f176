/- An operation looks at no more than its own slots and names. Own work. -/
import Derived.Test.YtnhkcalanpepoaaSp
namespace Go.Shade
open Go

def X.rd : X → List Nat
  | .t n => [n]
  | _ => []
def COp.xs : COp → List X
  | .mv x => [x]
  | .pick c a b => [c, a, b]
  | .bin _ x y => [x, y]
  | .beq _ x y => [x, y]
  | .eqs _ _ x y => [x, y]
  | .isnil _ x => [x]
  | .un _ x => [x]
  | .toInt _ x => [x]
  | .toStr x => [x]
  | .strId x => [x]
  | .build _ parts => parts.map (·.2.2)
  | .field _ _ _ x => [x]
  | .index _ _ _ x i => [x, i]
  | .sindex x i => [x, i]
  | .extract _ x => [x]
  | .len x => [x]
  | .slen x => [x]
  | .minmax _ x y => [x, y]
  | .slice _ x lo hi => x :: (lo.toList ++ hi.toList)
  | .faddr _ x => [x]
  | .iaddrS _ x i => [x, i]
  | .iaddrA _ _ x i => [x, i]
  | .mkfn _ first cap => first ++ cap
  | .mkif _ x => [x]
  | .nilchk x => [x]
  | .arrptr _ x => [x]
  | .load _ _ a => [a]
  | .store _ a x => [a, x]
  | .box x => [x]
  | .alloc _ => []
  | .bslice _ _ _ parts => parts.map (·.2)
  | .append _ _ _ s x => [s, x]
  | .aslice _ _ x lo hi => x :: (lo.toList ++ hi.toList)
  | .call f args => f :: args
  | .panic x => [x]
  | .ext _ xs => xs
def CO.rd (o : CO) : List Nat := (o.op.xs.flatMap X.rd) ++ (match o.guard with
  | some (d, _) => [d]
  | none => [])

section
variable {P : Program} {Γ : Globs} {env env' : Nat → AV} {m m' m2 : Mem} {c : COp}

theorem ev_rd {x : X} (h : ∀ n ∈ x.rd, env' n = env n) : x.ev Γ env' = x.ev Γ env := by
  cases x with
  | t n => exact h n (by simp [X.rd])
  | _ => rfl
theorem evO_congr {x : Option X} (h : ∀ y ∈ x.toList, y.ev Γ env' = y.ev Γ env) : evO Γ env' x = evO Γ env x := by
  cases x with
  | none => rfl
  | some y => simp only [evO, h y (by simp)]

theorem cpure_congr (h : ∀ x ∈ c.xs, x.ev Γ env' = x.ev Γ env) : cpure Γ env' c = cpure Γ env c := by
  cases c <;> simp only [COp.xs, List.mem_cons, List.not_mem_nil, or_false, forall_eq_or_imp, forall_eq, List.mem_append, List.mem_map] at h <;> simp only [cpure]
  case mv => rw [h]
  case pick => rw [h.1, h.2.1, h.2.2]
  case bin => rw [h.1, h.2]
  case beq => rw [h.1, h.2]
  case eqs => rw [h.1, h.2]
  case un => rw [h]
  case toInt => rw [h]
  case toStr => rw [h]
  case strId => rw [h]
  case field => rw [h]
  case index => rw [h.1, h.2]
  case sindex => rw [h.1, h.2]
  case extract => rw [h]
  case len => rw [h]
  case slen => rw [h]
  case minmax => rw [h.1, h.2]
  case slice sz x lo hi => rw [h.1, evO_congr (fun y hy => h.2 y (.inl hy)), evO_congr (fun y hy => h.2 y (.inr hy))]
  case faddr => rw [h]
  case iaddrS => rw [h.1, h.2]
  case iaddrA => rw [h.1, h.2]
  case mkfn f first cap => rw [List.map_congr_left (fun x hx => h x (.inl hx)), List.map_congr_left (fun x hx => h x (.inr hx))]
  case mkif => rw [h]
  case nilchk => rw [h]
  case load => rw [h]
  case build zero parts =>
    have h' : ∀ p ∈ parts, p.2.2.ev Γ env' = p.2.2.ev Γ env := fun p hp => h _ ⟨p, hp, rfl⟩
    have e1 : (parts.map fun (p : Nat × Nat × X) => (p.1, (p.2.2.ev Γ env').cells)) = parts.map fun p => (p.1, (p.2.2.ev Γ env).cells) := List.map_congr_left (fun p hp => by rw [h' p hp])
    have e2 : (parts.all fun (p : Nat × Nat × X) => (p.2.2.ev Γ env').celled && (p.2.2.ev Γ env').cells.length == p.2.1 && decide (p.1 + p.2.1 ≤ zero.length)) =
        parts.all fun p => (p.2.2.ev Γ env).celled && (p.2.2.ev Γ env).cells.length == p.2.1 && decide (p.1 + p.2.1 ≤ zero.length) := by
      rw [Bool.eq_iff_iff, List.all_eq_true, List.all_eq_true]
      exact ⟨fun k p hp => by rw [← h' p hp]; exact k p hp, fun k p hp => by rw [h' p hp]; exact k p hp⟩
    rw [e2, e1]
  case arrptr => rw [h]
  case ext e xs => rw [List.map_congr_left (fun x hx => h x hx)]

theorem cmem_congr (h : ∀ x ∈ c.xs, x.ev Γ env' = x.ev Γ env) (nm : Nat) : cmem Γ env' m nm c = cmem Γ env m nm c := by
  cases c <;> simp only [COp.xs, List.mem_cons, List.not_mem_nil, or_false, forall_eq_or_imp, forall_eq, List.mem_append, List.mem_map] at h <;> simp only [cmem]
  case load => rw [h]
  case store => rw [h.1, h.2]
  case box => rw [h]
  case bslice sz len zero parts =>
    have h' : ∀ p ∈ parts, p.2.ev Γ env' = p.2.ev Γ env := fun p hp => h _ ⟨p, hp, rfl⟩
    have e1 : (parts.mapM fun (p : Nat × X) => (toPVs (p.2.ev Γ env').cells).map fun l => (p.1, l)) = parts.mapM fun (p : Nat × X) => (toPVs (p.2.ev Γ env).cells).map fun l => (p.1, l) := by
      clear h
      induction parts with
      | nil => rfl
      | cons p parts ih => rw [List.mapM_cons, List.mapM_cons, ih (fun q hq => h' q (by simp [hq])), h' p (by simp)]
    have e2 : (parts.all fun p => (p.2.ev Γ env').celled) = parts.all fun p => (p.2.ev Γ env).celled := by
      rw [Bool.eq_iff_iff, List.all_eq_true, List.all_eq_true]
      exact ⟨fun k p hp => by rw [← h' p hp]; exact k p hp, fun k p hp => by rw [h' p hp]; exact k p hp⟩
    rw [e1, e2]
  case append => rw [h.1, h.2]
  case aslice sz len x lo hi => rw [h.1, evO_congr (fun y hy => h.2 y (.inl hy)), evO_congr (fun y hy => h.2 y (.inr hy))]
  case ext e xs => rw [List.map_congr_left (fun x hx => h x hx)]

/-- The names that it looks at, and those that it writes. -/
def cfoot (Γ : Globs) (env : Nat → AV) (nm : Nat) : COp → List Nat × List Nat
  | .load _ _ a => match a.ev Γ env with
    | .ptr b _ => ([b], [])
    | _ => ([], [])
  | .store _ a _ => match a.ev Γ env with
    | .ptr b _ => ([b], [b])
    | _ => ([], [])
  | .aslice _ _ a _ _ => match a.ev Γ env with
    | .ptr b _ => ([b], [b])
    | _ => ([], [])
  | .append _ _ _ s _ => match s.ev Γ env with
    | .own t _ _ => ([nm, t], [nm, t])
    | _ => ([nm], [nm])
  | .ext e xs => eFoot e (xs.map (X.ev Γ env)) nm
  | _ => ([nm], [nm])

def overM (W : List Nat) (d m : Mem) : Mem := fun n => if n ∈ W then d n else m n

theorem overM_upd1 {b : Nat} {r : Option Res} : overM [b] (upd m b r) m2 = upd m2 b r := by
  funext n
  by_cases h : n = b <;> simp [overM, upd, h]
theorem overM_nil : overM [] m m2 = m2 := by
  funext n
  simp [overM]
theorem overM_upd2 {b t : Nat} {r s : Option Res} : overM [b, t] (upd (upd m t s) b r) m2 = upd (upd m2 t s) b r := by
  funext n
  by_cases h : n = b <;> by_cases h' : n = t <;> simp [overM, upd, h, h']
theorem overM_self {W : List Nat} (h : ∀ n, n ∉ W → m' n = m n) : overM W m' m = m' := by
  funext n
  by_cases hn : n ∈ W <;> simp [overM, hn, h]

theorem srcC_loc {sz : Nat} {x : AV} {p : Nat × List AV} (h : srcC sz m x = some p) (h2 : ∀ b off s n, x = .bsl b off s n → m2 b = m b) : srcC sz m2 x = some p := by
  cases x <;> simp only [srcC] at h ⊢ <;> try exact h
  rw [h2 _ _ _ _ rfl]
  exact h
theorem memL_one {b n : Nat} {q : Res} (h : memL [(b, q)] n ≠ none) : n = b := by
  simp only [memL] at h
  split at h
  · assumption
  · exact absurd rfl h
theorem e_loc {e : EOp} {vs : List AV} {nm : Nat} {r : AV} {us : ML} (h : eMem e vs m nm = some (r, us)) : (∀ n ∈ (eFoot e vs nm).2, n ∈ (eFoot e vs nm).1) ∧ (∀ n, memL us n ≠ none → n ∈ (eFoot e vs nm).2) ∧
    ∀ m2 : Mem, (∀ n ∈ (eFoot e vs nm).1, m2 n = m n) → eMem e vs m2 nm = some (r, us) := by
  cases e <;> simp only [eMem, reduceCtorEq] at h
  case copy sz =>
    unfold copyE at h
    split at h
    · rename_i b off s n x
      have hf : (eFoot (.copy sz) [.bsl b off s n, x] nm).2 = [b] ∧ b ∈ (eFoot (.copy sz) [.bsl b off s n, x] nm).1 ∧ ∀ c o t k, x = .bsl c o t k → c ∈ (eFoot (.copy sz) [.bsl b off s n, x] nm).1 := by
        cases x <;> simp [eFoot]
        rintro c o t k rfl _ _ _
        exact .inr rfl
      split at h
      · rename_i cs hm
        simp only [Option.bind_eq_some_iff] at h
        obtain ⟨⟨k, l⟩, hsrc, h⟩ := h
        simp only at h
        split at h
        · rename_i hc
          cases h
          rw [hf.1]
          refine ⟨by simpa using hf.2.1, fun i hi => by rw [memL_one hi]; simp, fun m2 h2 => ?_⟩
          have h3 := h2 b hf.2.1
          have h4 := srcC_loc (m2 := m2) hsrc (fun c o t q e => h2 c (hf.2.2 c o t q e))
          simp only [eMem, copyE, h3, hm, h4, Option.bind_some]
          rw [if_pos hc]
        · cases h
      · cases h
    · cases h
  case mks sz bytes zero own =>
    unfold mksE at h
    split at h
    · split at h
      · rename_i hm
        simp only [Option.bind_eq_some_iff] at h
        obtain ⟨i, hi, j, hj, h⟩ := h
        split at h
        · rename_i hc
          simp only [eFoot]
          have hus : ∀ q, memL us q ≠ none → q = nm := fun q hq => by
            split at h <;> cases h <;> exact memL_one hq
          refine ⟨by simp, fun q hq => by rw [hus q hq]; simp, fun m2 h2 => ?_⟩
          simp only [eMem, mksE, h2 _ (List.mem_singleton.2 rfl), hm, hi, hj, Option.bind_some]
          rw [if_pos hc]
          exact h
        · cases h
      · cases h
    · cases h
  case mkz =>
    unfold mkzE at h
    split at h
    · split at h
      · rename_i hm
        split at h
        · rename_i hc
          cases h
          simp only [eFoot]
          refine ⟨by simp, fun q hq => by rw [memL_one hq]; simp, fun m2 h2 => ?_⟩
          simp only [eMem, mkzE, h2 _ (List.mem_singleton.2 rfl), hm]
          rw [if_pos hc]
        · cases h
      · cases h
    · cases h
  case bconv =>
    unfold bconvE at h
    split at h
    · split at h
      · rename_i hm
        split at h
        · rename_i hc
          cases h
          simp only [eFoot]
          refine ⟨by simp, fun q hq => by rw [memL_one hq]; simp, fun m2 h2 => ?_⟩
          simp only [eMem, bconvE, h2 _ (List.mem_singleton.2 rfl), hm]
          rw [if_pos hc]
        · cases h
      · cases h
    · cases h
  case toBys =>
    unfold toBysE at h
    split at h
    · split at h
      · rename_i hc
        cases h
        refine ⟨by simp [eFoot], fun q hq => by simp [memL] at hq, fun m2 _ => ?_⟩
        simp only [eMem, toBysE]
        rw [if_pos hc]
      · cases h
    · cases h

theorem cmem_loc {nm : Nat} {r : AV} (h : cmem Γ env m nm c = some (r, m')) : (∀ n ∈ (cfoot Γ env nm c).2, n ∈ (cfoot Γ env nm c).1) ∧ (∀ n, n ∉ (cfoot Γ env nm c).2 → m' n = m n) ∧
    ∀ m2 : Mem, (∀ n ∈ (cfoot Γ env nm c).1, m2 n = m n) → cmem Γ env m2 nm c = some (r, overM (cfoot Γ env nm c).2 m' m2) := by
  cases c <;> simp only [cmem, reduceCtorEq] at h
  case load agg n a =>
    split at h
    · rename_i b off hev
      simp only [cfoot, hev]
      split at h
      · rename_i cs fz hm
        obtain ⟨x, hx, he⟩ := Option.map_eq_some_iff.1 h
        simp only [Prod.mk.injEq] at he
        obtain ⟨rfl, rfl⟩ := he
        refine ⟨by simp, by simp, fun m2 h2 => ?_⟩
        simp only [cmem, hev, h2 b (by simp), hm, hx, Option.map_some, overM_nil]
      · cases h
    · cases h
  case store n a x =>
    split at h
    · rename_i b off hev
      simp only [cfoot, hev]
      split at h
      · rename_i cs hm
        split at h
        · rename_i hc
          cases h
          refine ⟨by simp, fun n hn => upd_ne _ _ (by simpa using hn), fun m2 h2 => ?_⟩
          simp only [cmem, hev, h2 b (by simp), hm, hc, if_true, overM_upd1]
        · cases h
      · cases h
    · cases h
  case box x =>
    simp only [cfoot]
    split at h
    · rename_i hm
      split at h
      · rename_i hc
        cases h
        refine ⟨by simp, fun n hn => upd_ne _ _ (by simpa using hn), fun m2 h2 => ?_⟩
        simp only [cmem, h2 nm (by simp), hm, hc, if_true, overM_upd1]
      · cases h
    · cases h
  case alloc zero =>
    simp only [cfoot]
    split at h
    · rename_i hm
      cases h
      refine ⟨by simp, fun n hn => upd_ne _ _ (by simpa using hn), fun m2 h2 => ?_⟩
      simp only [cmem, h2 nm (by simp), hm, overM_upd1]
    · cases h
  case bslice sz len zero parts =>
    simp only [cfoot]
    split at h
    · rename_i ps hm hps
      split at h
      · rename_i hc
        cases h
        refine ⟨by simp, fun n hn => upd_ne _ _ (by simpa using hn), fun m2 h2 => ?_⟩
        simp only [cmem, h2 nm (by simp), hm, hps, overM_upd1]
        rw [if_pos hc]
      · cases h
    · cases h
  case append sz bytes zero s x =>
    split at h
    · rename_i ys xs hm hy hx
      split at h
      · rename_i hc
        split at h
        · rename_i t sz' xs' hev
          simp only [cfoot, hev]
          split at h
          · rename_i ht
            cases h
            refine ⟨by simp, fun n hn => ?_, fun m2 h2 => ?_⟩
            · simp only [List.mem_cons, List.not_mem_nil, or_false, not_or] at hn
              rw [upd_ne _ _ hn.1, upd_ne _ _ hn.2]
            · simp only [cmem, h2 nm (by simp), hm, hy, hev, h2 t (by simp), ht, overM_upd2]
              rw [hev] at hx
              simp only [hx]
              rw [if_pos hc]
          · cases h
        · rename_i hev
          simp only [cfoot, hev]
          cases h
          refine ⟨by simp, fun n hn => upd_ne _ _ (by simpa using hn), fun m2 h2 => ?_⟩
          simp only [cmem, h2 nm (by simp), hm, hy, hev, overM_upd1]
          rw [hev] at hx
          simp only [hx]
          rw [if_pos hc]
        · cases h
      · cases h
    · cases h
  case aslice sz len x lo hi =>
    split at h
    · rename_i b off hev
      simp only [cfoot, hev]
      split at h
      · rename_i cs fz hm
        simp only [bind, Option.bind_eq_some_iff] at h
        obtain ⟨l, hl, hh, hhi, ⟨p, q⟩, hb, ps, hps, h⟩ := h
        simp only at hb hps h
        split at h
        · rename_i hc
          cases h
          refine ⟨by simp, fun n hn => upd_ne _ _ (by simpa using hn), fun m2 h2 => ?_⟩
          simp only [cmem, hev, h2 b (by simp), hm, bind, hl, hhi, hb, hps, Option.bind_some, overM_upd1]
          rw [if_pos hc]
        · cases h
      · cases h
    · cases h
  case ext e xs =>
    obtain ⟨⟨r', us⟩, he, hh⟩ := Option.map_eq_some_iff.1 h
    simp only [Prod.mk.injEq] at hh
    obtain ⟨rfl, rfl⟩ := hh
    obtain ⟨h1, h2, h3⟩ := e_loc he
    simp only [cfoot]
    refine ⟨h1, fun n hn => ?_, fun m2 hm2 => ?_⟩
    · unfold updL
      cases hu : memL us n with
      | none => rfl
      | some q => exact absurd (h2 n (by simp [hu])) hn
    · simp only [cmem, h3 m2 hm2, Option.map_some, Option.some.injEq, Prod.mk.injEq, true_and]
      funext n
      unfold overM updL
      by_cases hn : n ∈ (eFoot e (xs.map (X.ev Γ env)) nm).2
      · rw [if_pos hn, hm2 n (h1 n hn)]
      · rw [if_neg hn]
        cases hu : memL us n with
        | none => rfl
        | some q => exact absurd (h2 n (by simp [hu])) hn

/-! ### A step with what it touches -/
def stepT (P : Program) (Γ : Globs) (o : CO) (env : Nat → AV) (m : Mem) (K : (Nat → AV) → Mem → List Nat × List Nat → Prop) : Prop :=
  match o.op with
  | .call f args => ∃ g first cap args' pre r post ρ W, f.ev Γ env = .fn (.func g) first cap ∧ LeL (first ++ args.map (X.ev Γ env) ++ cap) (renL ρ args') ∧ Good P Γ g args' pre (.ret r) post ∧ Fits m pre post ρ ∧
      (∀ p ∈ post, ρ p.1 ∈ W ∨ memL pre p.1 = memL post p.1) ∧ (∀ n ∈ W, ∃ p ∈ post, n = ρ p.1) ∧ K (putE env o.dst (r.ren ρ)) (applyM m ρ post) (post.map fun p => ρ p.1, W)
  | .panic _ => False
  | .isnil _ _ => False
  | c => match cpure Γ env c with
    | some r => K (putE env o.dst r) m ([], [])
    | none => ∃ nm, match cmem Γ env m nm c with
      | some (r, m') => K (putE env o.dst r) m' (cfoot Γ env nm c)
      | none => False
def runT (P : Program) (Γ : Globs) : List CO → (Nat → AV) → Mem → List (List Nat × List Nat) → ((Nat → AV) → Mem → List (List Nat × List Nat) → Prop) → Prop
  | [], env, m, tr, K => K env m tr
  | o :: l, env, m, tr, K => match o.guard with
    | none => stepT P Γ o env m (fun env m f => runT P Γ l env m (f :: tr) K)
    | some (s, b) => match env s with
      | .p (.s (.bool t)) => if t = b then stepT P Γ o env m (fun env m f => runT P Γ l env m (f :: tr) K) else runT P Γ l (putE env o.dst undA) m (([], []) :: tr) K
      | .p (.s (.tuple _)) => runT P Γ l (putE env o.dst undA) m (([], []) :: tr) K
      | _ => False

structure LS where
  c : CO
  F : List Nat
  W : List Nat
  r : AV
  d : Mem
abbrev EM := (Nat → AV) × Mem
def LS.next (s : LS) (e : EM) : EM := (putE e.1 s.c.dst s.r, overM s.W s.d e.2)

/-- It goes so wherever its own slots and names are as they are here. -/
structure Loc (P : Program) (Γ : Globs) (e : EM) (s : LS) : Prop where
  sub : ∀ n ∈ s.W, n ∈ s.F
  run : ∀ e' : EM, (∀ x ∈ s.c.rd, e'.1 x = e.1 x) → (∀ n ∈ s.F, e'.2 n = e.2 n) → ∀ pn (K : (Nat → AV) → Mem → Prop), K (s.next e').1 (s.next e').2 → runOps P Γ pn [s.c] e'.1 e'.2 K

theorem step_loc {o : CO} {K : (Nat → AV) → Mem → List Nat × List Nat → Prop} (h : stepT P Γ o env m K) : ∃ s : LS, s.c = o ∧ K (s.next (env, m)).1 (s.next (env, m)).2 (s.F, s.W) ∧ (∀ n ∈ s.W, n ∈ s.F) ∧
    ∀ e' : EM, (∀ x ∈ o.op.xs.flatMap X.rd, e'.1 x = env x) → (∀ n ∈ s.F, e'.2 n = m n) → ∀ pn (K : (Nat → AV) → Mem → Prop), K (s.next e').1 (s.next e').2 → stepO P Γ pn o e'.1 e'.2 K := by
  have hx : ∀ e' : EM, (∀ x ∈ o.op.xs.flatMap X.rd, e'.1 x = env x) → ∀ x ∈ o.op.xs, x.ev Γ e'.1 = x.ev Γ env := fun e' he x hxx => ev_rd (fun n hn => he n (List.mem_flatMap.2 ⟨x, hxx, hn⟩))
  unfold stepT at h
  split at h
  · rename_i f args hop
    obtain ⟨g, first, cap, args', pre, r, post, ρ, W, h1, h2, h3, h4, h5, h6, h7⟩ := h
    have hinj := h4.inj
    have hov : ∀ m2 : Mem, (∀ n ∈ post.map (fun p => ρ p.1), m2 n = m n) → applyM m2 ρ post = overM W (applyM m ρ post) m2 := by
      intro m2 hm2
      funext n
      unfold overM
      by_cases hn : n ∈ W
      · rw [if_pos hn, applyM_get hinj, applyM_get hinj]
        cases hi : invOf ρ post n with
        | some k => rfl
        | none =>
          obtain ⟨p, hp, rfl⟩ := h6 n hn
          exact hm2 _ (List.mem_map.2 ⟨p, hp, rfl⟩)
      · rw [if_neg hn, applyM_get hinj]
        cases hi : invOf ρ post n with
        | none => rfl
        | some k =>
          obtain ⟨rfl, hk⟩ := invOf_some hi
          have hkm : ∃ p ∈ post, p.1 = k := by
            clear hi h5 h6 h7 hn hinj h4 h3 hm2
            induction post with
            | nil => simp [memL] at hk
            | cons p post ih =>
              rw [memL] at hk
              split at hk
              · rename_i e; exact ⟨p, by simp, e.symm⟩
              · obtain ⟨q, hq, e⟩ := ih hk; exact ⟨q, by simp [hq], e⟩
          obtain ⟨p, hp, rfl⟩ := hkm
          have h8 := (h5 p hp).resolve_left hn
          simp only
          rw [← h8, hm2 _ (List.mem_map.2 ⟨p, hp, rfl⟩)]
          cases hpp : memL pre p.1 with
          | none => rw [← h8] at hk; exact absurd hpp hk
          | some q => rw [h4.old _ _ hpp]; rfl
    have hself := hov m (fun _ _ => rfl)
    refine ⟨⟨o, post.map fun p => ρ p.1, W, r.ren ρ, applyM m ρ post⟩, rfl, ?_, ?_, fun e' he hm pn K' hK => ?_⟩
    · simp only [LS.next]
      rw [← hself]
      exact h7
    · intro n hn
      obtain ⟨p, hp, rfl⟩ := h6 n hn
      exact List.mem_map.2 ⟨p, hp, rfl⟩
    · unfold stepO
      rw [hop]
      simp only
      have hx' := hx e' he
      rw [hop] at hx'
      simp only [COp.xs, List.mem_cons, forall_eq_or_imp] at hx'
      have hpost : ∀ n, memL post n ≠ none → ρ n ∈ post.map fun p => ρ p.1 := fun n hn => by
        obtain ⟨q, hq⟩ := Option.ne_none_iff_exists'.1 hn
        clear hov hself h5 h6 h7 hinj h4 h3 hK hm
        induction post with
        | nil => simp [memL] at hn
        | cons p post ih =>
          rw [memL] at hn hq
          split at hn
          · rename_i e; subst e; simp
          · rename_i e
            rw [if_neg e] at hq
            have := ih hn hq
            rw [List.map_cons]
            exact List.mem_cons_of_mem _ this
      refine .inl ⟨g, first, cap, args', pre, .ret r, post, ρ, by rw [hx'.1]; exact h1, by rw [List.map_congr_left hx'.2]; exact h2, h3, ⟨fun n q hq => ?_, hinj, fun n hn hp => ?_⟩, ?_⟩
      · have := h3.dom n (by rw [hq]; simp)
        rw [hm _ (hpost n this)]
        exact h4.old n q hq
      · rw [hm _ (hpost n hn)]
        exact h4.new n hn hp
      · simp only
        rw [hov e'.2 hm]
        exact hK
  · exact h.elim
  · exact h.elim
  · rename_i hc1 hc2 hc3
    have hso : ∀ (e : EM) pn (K : (Nat → AV) → Mem → Prop), (match cpure Γ e.1 o.op with
      | some r => K (putE e.1 o.dst r) e.2
      | none => ∃ nm, match cmem Γ e.1 e.2 nm o.op with
        | some (r, m') => K (putE e.1 o.dst r) m'
        | none => False) → stepO P Γ pn o e.1 e.2 K := by
      intro e pn K hK
      unfold stepO
      split
      · rename_i f args hop; exact absurd hop (hc1 f args)
      · rename_i x hop; exact absurd hop (hc2 x)
      · rename_i neg x hop; exact absurd hop (hc3 neg x)
      · exact hK
    split at h
    · rename_i r hr
      refine ⟨⟨o, [], [], r, m⟩, rfl, ?_, by simp, fun e' he hm pn K' hK => hso e' pn K' ?_⟩
      · simp only [LS.next, overM_nil]; exact h
      · rw [cpure_congr (hx e' he), hr]
        simpa only [LS.next, overM_nil] using hK
    · rename_i hr
      obtain ⟨nm, h⟩ := h
      split at h
      · rename_i r m' hm'
        obtain ⟨k1, k2, k3⟩ := cmem_loc hm'
        refine ⟨⟨o, (cfoot Γ env nm o.op).1, (cfoot Γ env nm o.op).2, r, m'⟩, rfl, ?_, k1, fun e' he hm pn K' hK => hso e' pn K' ?_⟩
        · simp only [LS.next]
          rw [overM_self k2]
          exact h
        · rw [cpure_congr (hx e' he), hr]
          refine ⟨nm, ?_⟩
          rw [cmem_congr (hx e' he), k3 e'.2 hm]
          exact hK
      · exact h.elim

/-- What the text's order does. -/
def thro : List LS → EM → EM
  | [], e => e
  | s :: l, e => thro l (s.next e)
def Locs (P : Program) (Γ : Globs) : List LS → EM → Prop
  | [], _ => True
  | s :: l, e => Loc P Γ e s ∧ Locs P Γ l (s.next e)

theorem run_loc {K : (Nat → AV) → Mem → List (List Nat × List Nat) → Prop} : ∀ {l : List CO} {env : Nat → AV} {m : Mem} {tr : List (List Nat × List Nat)}, runT P Γ l env m tr K →
    ∃ ss : List LS, ss.map LS.c = l ∧ Locs P Γ ss (env, m) ∧ K (thro ss (env, m)).1 (thro ss (env, m)).2 ((ss.map fun s => (s.F, s.W)).reverse ++ tr)
  | [], env, m, tr, h => ⟨[], rfl, trivial, h⟩
  | o :: l, env, m, tr, h => by
    have go : o.guard = none ∨ (∃ s b t, o.guard = some (s, b) ∧ env s = .p (.s (.bool t)) ∧ t = b) → stepT P Γ o env m (fun env m f => runT P Γ l env m (f :: tr) K) →
        ∃ ss : List LS, ss.map LS.c = o :: l ∧ Locs P Γ ss (env, m) ∧ K (thro ss (env, m)).1 (thro ss (env, m)).2 ((ss.map fun s => (s.F, s.W)).reverse ++ tr) := by
      intro hg hs
      obtain ⟨s, rfl, hk, hsub, hl⟩ := step_loc hs
      obtain ⟨ss, h1, h2, h3⟩ := run_loc hk
      refine ⟨s :: ss, by simp [h1], ⟨⟨hsub, fun e' he hm pn K' hK => ?_⟩, h2⟩, by simpa [thro] using h3⟩
      have he1 : ∀ x ∈ s.c.op.xs.flatMap X.rd, e'.1 x = env x := fun x hx => he x (List.mem_append_left _ hx)
      unfold runOps
      rcases hg with hg | ⟨q, b, t, hg, hq, rfl⟩
      · rw [hg]
        exact hl e' he1 hm pn _ hK
      · have : e'.1 q = env q := he q (by simp [CO.rd, hg])
        rw [hg]
        simp only [this, hq, if_true]
        exact hl e' he1 hm pn _ hK
    unfold runT at h
    split at h
    · rename_i hg
      exact go (.inl hg) h
    · rename_i q b hg
      split at h
      · rename_i t hq
        split at h
        · rename_i htb
          exact go (.inr ⟨q, b, t, hg, hq, htb⟩) h
        · rename_i htb
          obtain ⟨ss, h1, h2, h3⟩ := run_loc h
          refine ⟨⟨o, [], [], undA, m⟩ :: ss, by simp [h1], ⟨⟨by simp, fun e' he hm pn K' hK => ?_⟩, ?_⟩, ?_⟩
          · have : e'.1 q = env q := he q (by simp [CO.rd, hg])
            unfold runOps
            simp only [hg, this, hq, htb, if_false]
            simp only [LS.next, overM_nil] at hK
            exact hK
          · simpa only [LS.next, overM_nil] using h2
          · simpa [thro, LS.next, overM_nil] using h3
      · rename_i t hq
        obtain ⟨ss, h1, h2, h3⟩ := run_loc h
        refine ⟨⟨o, [], [], undA, m⟩ :: ss, by simp [h1], ⟨⟨by simp, fun e' he hm pn K' hK => ?_⟩, ?_⟩, ?_⟩
        · have : e'.1 q = env q := he q (by simp [CO.rd, hg])
          unfold runOps
          simp only [hg, this, hq]
          simp only [LS.next, overM_nil] at hK
          exact hK
        · simpa only [LS.next, overM_nil] using h2
        · simpa [thro, LS.next, overM_nil] using h3
      · exact h.elim
end
end Go.Shade
