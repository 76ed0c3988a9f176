/- Calls, ends, code: the rules by lists. Own work. -/
import Derived.Test.YtnhkcalanpepoaaSv
namespace Go.Shade
open Go

/-- A renaming by a list, and a shift for the rest. -/
def rho (l : List (Nat × Nat)) (s : Nat) (n : Nat) : Nat := match l with
  | [] => n + s
  | (a, b) :: l => if n = a then b else rho l s n
def renM (ρ : Nat → Nat) (post : ML) : ML := post.map fun p => (ρ p.1, p.2.ren ρ)
def keys (M : ML) : List Nat := M.map (·.1)

theorem memL_keys : ∀ {M : ML} {n : Nat}, memL M n ≠ none ↔ n ∈ keys M
  | [], n => by simp [memL, keys]
  | (k, r) :: M, n => by
    have ih := memL_keys (M := M) (n := n)
    simp only [memL, keys, List.map_cons, List.mem_cons] at ih ⊢
    by_cases h : n = k
    · simp [h]
    · simp only [h, if_false, false_or]; exact ih
theorem applyM_list {m : Mem} {M : ML} (hm : m = memL M) {ρ : Nat → Nat} : ∀ post : ML, applyM m ρ post = memL (renM ρ post ++ M)
  | [] => by simp [applyM, renM, hm]
  | (n, r) :: post => by
    rw [applyM, applyM_list hm post]
    simp only [renM, List.map_cons, List.cons_append, memL_cons]

def injB (l : List Nat) : Bool := match l with
  | [] => true
  | a :: l => !l.contains a && injB l
theorem injB_spec {ρ : Nat → Nat} : ∀ {l : List Nat}, injB (l.map ρ) = true → ∀ n n', n ∈ l → n' ∈ l → ρ n = ρ n' → n = n'
  | [], _, n, n', h, _, _ => by simp at h
  | a :: l, hi, n, n', h, h', he => by
    rw [List.map_cons, injB, Bool.and_eq_true, Bool.not_eq_true'] at hi
    obtain ⟨h1, h2⟩ := hi
    have no : ∀ k ∈ l, ρ a ≠ ρ k := fun k hk e => by
      have : (l.map ρ).contains (ρ a) = true := by
        rw [List.contains_iff_mem, e]
        exact List.mem_map_of_mem hk
      rw [this] at h1
      cases h1
    rcases List.mem_cons.1 h with rfl | h3 <;> rcases List.mem_cons.1 h' with rfl | h4
    · rfl
    · exact absurd he (no _ h4)
    · exact absurd he.symm (no _ h3)
    · exact injB_spec h2 n n' h3 h4 he

/-- The names of the one are the other's, as told. -/
def oldsE (M : ML) (ρ : Nat → Nat) : ML → Prop
  | [] => True
  | (n, r) :: pre => memL M (ρ n) = some (r.ren ρ) ∧ oldsE M ρ pre
def newsE (M pre : ML) (ρ : Nat → Nat) : List Nat → Prop
  | [] => True
  | n :: l => ((memL pre n).isSome = true ∨ memL M (ρ n) = none) ∧ newsE M pre ρ l
theorem oldsE_spec {M : ML} {ρ : Nat → Nat} : ∀ {pre : ML}, oldsE M ρ pre → ∀ n r, memL pre n = some r → memL M (ρ n) = some (r.ren ρ)
  | [], _, n, r, h => by simp [memL] at h
  | (k, q) :: pre, h, n, r, hn => by
    rw [memL] at hn
    split at hn
    · rename_i e
      subst e
      cases hn
      exact h.1
    · exact oldsE_spec h.2 n r hn
theorem newsE_spec {M pre : ML} {ρ : Nat → Nat} : ∀ {l : List Nat}, newsE M pre ρ l → ∀ n ∈ l, memL pre n = none → memL M (ρ n) = none
  | [], _, n, h, _ => by simp at h
  | k :: l, h, n, hn, hp => by
    rcases List.mem_cons.1 hn with rfl | h'
    · exact h.1.resolve_left (by rw [hp]; simp)
    · exact newsE_spec h.2 n h' hp

section
variable {P : Program} {Γ : Globs} {N : Nat} {R : RD} {L : EL} {M : ML} {pre post : ML} {ρ : Nat → Nat}

theorem fits_of (h1 : oldsE M ρ pre) (h2 : injB ((keys post).map ρ) = true) (h3 : newsE M pre ρ (keys post)) : Fits (memL M) pre post ρ :=
  ⟨oldsE_spec h1, fun n n' k1 k2 => injB_spec h2 n n' (memL_keys.1 k1) (memL_keys.1 k2), fun n k1 k2 => newsE_spec h3 n (memL_keys.1 k1) k2⟩

/-- A call that returns. 'l' says which of the caller's names the contract's are; new ones get new names. -/
theorem callE_ret {f : FuncId} {first cap args args' : List AV} {dst : Option Nat} {K : EL → ML → Prop} {pn : Value → EL → ML → Prop} {r : AV} (hG : Good P Γ f args' pre (.ret r) post) (l : List (Nat × Nat))
    (hle : LeAs (first ++ args ++ cap) (renL (rho l M.length) args')) (h1 : oldsE M (rho l M.length) pre) (h2 : injB ((keys post).map (rho l M.length)) = true) (h3 : newsE M pre (rho l M.length) (keys post))
    (hK : K (putL L dst (r.ren (rho l M.length))) (renM (rho l M.length) post ++ M)) : callE P Γ pn (.fn (.func f) first cap) args dst L M K := by
  refine .inl ⟨f, first, cap, args', pre, .ret r, post, rho l M.length, rfl, leAs_sound hle, hG, fits_of h1 h2 h3, ?_⟩
  simp only
  rw [← look_putL, applyM_list rfl]
  exact ⟨_, _, rfl, rfl, hK⟩
theorem callE_pan {f : FuncId} {first cap args args' : List AV} {dst : Option Nat} {K : EL → ML → Prop} {pn : Value → EL → ML → Prop} {v : Value} (hG : Good P Γ f args' pre (.pan v) post) (l : List (Nat × Nat))
    (hle : LeAs (first ++ args ++ cap) (renL (rho l M.length) args')) (h1 : oldsE M (rho l M.length) pre) (h2 : injB ((keys post).map (rho l M.length)) = true) (h3 : newsE M pre (rho l M.length) (keys post))
    (hK : pn v L (renM (rho l M.length) post ++ M)) : callE P Γ pn (.fn (.func f) first cap) args dst L M K := by
  refine .inl ⟨f, first, cap, args', pre, .pan v, post, rho l M.length, rfl, leAs_sound hle, hG, fits_of h1 h2 h3, ?_⟩
  simp only
  rw [applyM_list rfl]
  exact ⟨_, _, rfl, rfl, hK⟩

/-- A call that returns, up to a number that is not told. -/
theorem callE_retI {f : FuncId} {first cap args args' : List AV} {dst : Option Nat} {K : EL → ML → Prop} {pn : Value → EL → ML → Prop} {r : (Nat → Nat) → AV} {posts : (Nat → Nat) → ML} (hG : GoodI P Γ f args' pre r posts) (l : List (Nat × Nat))
    (hle : LeAs (first ++ args ++ cap) (renL (rho l M.length) args')) (h1 : oldsE M (rho l M.length) pre) (h2 : ∀ i, injB ((keys (posts i)).map (rho l M.length)) = true) (h3 : ∀ i, newsE M pre (rho l M.length) (keys (posts i)))
    (hK : ∀ i, K (putL L dst ((r i).ren (rho l M.length))) (renM (rho l M.length) (posts i) ++ M)) : callE P Γ pn (.fn (.func f) first cap) args dst L M K := by
  refine .inr ⟨f, first, cap, args', pre, rho l M.length, r, posts, rfl, leAs_sound hle, hG, fun i => fits_of h1 (h2 i) (h3 i), fun i => ?_⟩
  rw [← look_putL, applyM_list rfl]
  exact ⟨_, _, rfl, rfl, hK i⟩

/-! ### Ends -/
def cellE (agg : Bool) (n : Nat) (M : ML) : AV → Option AV
  | .ptr b off => match memL M b with
    | some (.box cs _) => subA agg cs off n
    | _ => none
  | _ => none
def rvE (L : EL) (M : ML) : RV → Option AV
  | .tmp d => some (look L d)
  | .cell d agg n => cellE agg n M (look L d)
def rvsE (L : EL) (M : ML) : List RV → Option (List AV)
  | [] => some []
  | x :: l => (rvE L M x).bind fun a => (rvsE L M l).bind fun as => some (a :: as)
def oneE : List AV → AV
  | [r] => r
  | l => .tup l
theorem rvE_eq (x : RV) : RV.ev (look L) (memL M) x = rvE L M x := by
  cases x with
  | tmp d => rfl
  | cell d agg n =>
    simp only [RV.ev, rvE, cellE]
    all_goals (cases look L d <;> rfl)
theorem rvsE_eq : ∀ l : List RV, l.mapM (RV.ev (look L) (memL M)) = rvsE L M l
  | [] => rfl
  | x :: l => by
    rw [List.mapM_cons, rvE_eq, rvsE_eq l, rvsE]
    rfl
def memsE (M : ML) (ρ : Nat → Nat) : ML → Prop
  | [] => True
  | (n, .tok) :: post => memL M (ρ n) = some .tok ∧ memsE M ρ post
  | (n, .dead) :: post => memL M (ρ n) ≠ none ∧ memsE M ρ post
  | (n, .box cs fz) :: post => (∃ cs0, memL M (ρ n) = some (.box cs0 fz) ∧ LeAs cs0 (renL ρ cs)) ∧ memsE M ρ post
theorem memsE_spec : ∀ {post : ML}, memsE M ρ post → ∀ n q, memL post n = some q → ∃ q0, memL M (ρ n) = some q0 ∧ ResLe q0 (q.ren ρ)
  | [], _, n, r, h => by simp [memL] at h
  | (k, q0) :: post, h, n, q, hn => by
    have ih : memsE M ρ post := by cases q0 <;> exact h.2
    rw [memL] at hn
    split at hn
    · rename_i e
      subst e
      cases hn
      cases q0 with
      | tok => exact ⟨_, h.1, .tok⟩
      | dead =>
        obtain ⟨r0, hr0⟩ := Option.ne_none_iff_exists'.1 h.1
        exact ⟨r0, hr0, .dead _⟩
      | box cs fz =>
        obtain ⟨cs0, h1, h2⟩ := h.1
        exact ⟨_, h1, .box fz (leAs_sound h2)⟩
    · exact memsE_spec ih n q hn
def fixE (ρ : Nat → Nat) (l : List Nat) : Bool := l.all fun n => ρ n == n

def endE (pre : ML) (e : AE) (post : ML) (r0 : AV) (M : ML) : Prop := ∃ ρ r, e = .ret r ∧ r0.Le (r.ren ρ) ∧ Ends (rd pre) e post (fun _ => .junk) (memL M) ρ
def finE (pre : ML) (rs : List RV) (e : AE) (post : ML) : QE
  | .normal, L, M | .ret, L, M => bindO (rvsE L M rs) fun l => endE pre e post (oneE l) M
  | .pan v, _, M => e = .pan v ∧ ∃ ρ, Ends (rd pre) e post (fun _ => .junk) (memL M) ρ
  | .exit _, _, _ => False
theorem endE_by {r0 r : AV} (l : List (Nat × Nat)) (hle : LeA r0 (r.ren (rho l 0))) (h1 : memsE M (rho l 0) post) (h2 : injB ((keys post).map (rho l 0)) = true) (h3 : fixE (rho l 0) (keys pre) = true) : endE pre (.ret r) post r0 M :=
  ⟨rho l 0, r, rfl, leA_sound hle, memsE_spec h1, fun n n' k1 k2 => injB_spec h2 n n' (memL_keys.1 k1) (memL_keys.1 k2), fun n hn => by
    have := List.all_eq_true.1 h3 n (memL_keys.1 hn)
    simpa using this⟩
theorem finE_sound {rs : List RV} {e : AE} {ex : EX} {env : Nat → AV} {m : Mem} (h : toQ (finE pre rs e post) ex env m) : finQ (rd pre) rs e post ex env m := by
  obtain ⟨L, M, rfl, rfl, h⟩ := h
  have go : bindO (rvsE L M rs) (fun l => endE pre e post (oneE l) M) → finQ (rd pre) rs e post .ret (look L) (memL M) := by
    rintro ⟨l, hl, ρ, r, h1, h2, h3⟩
    refine ⟨ρ, oneE l, r, ?_, h1, h2, ⟨h3.mem, h3.inj, h3.R⟩⟩
    unfold evRs
    rw [rvsE_eq, hl]
    rfl
  cases ex with
  | normal => exact go h
  | ret => exact go h
  | exit id => exact h.elim
  | pan v => obtain ⟨h1, ρ, h2⟩ := h; exact ⟨h1, ρ, h2.mem, h2.inj, h2.R⟩

/-! ### Drawn regions -/
def footP : AV → Bool → List Nat × List Nat
  | .ptr b _, wr => ([b], if wr then [b] else [])
  | _, _ => ([], [])
def footA (nm : Nat) : AV → List Nat × List Nat
  | .own t _ _ => ([nm, t], [nm, t])
  | _ => ([nm], [nm])
def extF (e : EOp) (vs : List AV) (nm : Nat) : List Nat × List Nat := match ePure e vs with
  | some _ => ([], [])
  | none => eFoot e vs nm
def callTE (P : Program) (Γ : Globs) (fv : AV) (args : List AV) (dst : Option Nat) (L : EL) (M : ML) (K : EL → ML → List Nat × List Nat → Prop) : Prop :=
  ∃ g first cap args' pre r post ρ W, fv = .fn (.func g) first cap ∧ LeL (first ++ args ++ cap) (renL ρ args') ∧ Good P Γ g args' pre (.ret r) post ∧ Fits (memL M) pre post ρ ∧
      (∀ p ∈ post, ρ p.1 ∈ W ∨ memL pre p.1 = memL post p.1) ∧ (∀ n ∈ W, ∃ p ∈ post, n = ρ p.1) ∧ K (putL L dst (r.ren ρ)) (renM ρ post ++ M) (post.map fun p => ρ p.1, W)
def stepTE (P : Program) (Γ : Globs) (o : CO) (L : EL) (M : ML) (K : EL → ML → List Nat × List Nat → Prop) : Prop :=
  match o.op with
  | .call f args => callTE P Γ (f.ev Γ (look L)) (args.map (X.ev Γ (look L))) o.dst L M K
  | .panic _ => False
  | .isnil _ _ => False
  | .load agg n a => bindO (loadE agg n M (a.ev Γ (look L))) fun r => K (putL L o.dst r) M (footP (a.ev Γ (look L)) false)
  | .store n a x => bindO (storeE n M (x.ev Γ (look L)) (a.ev Γ (look L))) fun M' => K (putL L o.dst .junk) M' (footP (a.ev Γ (look L)) true)
  | .box x => bindO (boxE M (x.ev Γ (look L))) fun r => K (putL L o.dst r.1) r.2 ([M.length], [M.length])
  | .alloc zero => bindO (boxE M (.agg (zero.map AV.p))) fun r => K (putL L o.dst r.1) r.2 ([M.length], [M.length])
  | .bslice sz len zero parts => bindO (bsliceE M sz len zero (parts.map fun p => (p.1, p.2.ev Γ (look L)))) fun r => K (putL L o.dst r.1) r.2 ([M.length], [M.length])
  | .append sz bytes zero s x => bindO (appE M sz bytes zero (s.ev Γ (look L)) (x.ev Γ (look L))) fun r => K (putL L o.dst r.1) r.2 (footA M.length (s.ev Γ (look L)))
  | .aslice sz len x lo hi => bindO (asliceE M sz len (lo.map (X.ev Γ (look L))) (hi.map (X.ev Γ (look L))) (x.ev Γ (look L))) fun r => K (putL L o.dst r.1) r.2 (footP (x.ev Γ (look L)) true)
  | .ext e xs => bindO (extE e (xs.map (X.ev Γ (look L))) M) fun r => K (putL L o.dst r.1) r.2 (extF e (xs.map (X.ev Γ (look L))) M.length)
  | c => bindO (cpure Γ (look L) c) fun r => K (putL L o.dst r) M ([], [])
def runTE (P : Program) (Γ : Globs) : List CO → EL → ML → List (List Nat × List Nat) → (EL → ML → List (List Nat × List Nat) → Prop) → Prop
  | [], L, M, tr, K => K L M tr
  | ⟨dst, op, none⟩ :: l, L, M, tr, K => stepTE P Γ ⟨dst, op, none⟩ L M (fun L M f => runTE P Γ l L M (f :: tr) K)
  | ⟨dst, op, some (s, b)⟩ :: l, L, M, tr, K => gateE (look L s) b (stepTE P Γ ⟨dst, op, some (s, b)⟩ L M (fun L M f => runTE P Γ l L M (f :: tr) K)) (runTE P Γ l (putL L dst undA) M (([], []) :: tr) K)
def toT {T : Type} (K : EL → ML → T → Prop) : (Nat → AV) → Mem → T → Prop := fun env m f => ∃ L M, env = look L ∧ m = memL M ∧ K L M f

theorem callTE_ret {f : FuncId} {first cap args args' : List AV} {dst : Option Nat} {K : EL → ML → List Nat × List Nat → Prop} {r : AV} (hG : Good P Γ f args' pre (.ret r) post) (l : List (Nat × Nat))
    (hle : LeAs (first ++ args ++ cap) (renL (rho l M.length) args')) (h1 : oldsE M (rho l M.length) pre) (h2 : injB ((keys post).map (rho l M.length)) = true) (h3 : newsE M pre (rho l M.length) (keys post))
    (hK : K (putL L dst (r.ren (rho l M.length))) (renM (rho l M.length) post ++ M) ((keys post).map (rho l M.length), (keys post).map (rho l M.length))) : callTE P Γ (.fn (.func f) first cap) args dst L M K := by
  refine ⟨f, first, cap, args', pre, r, post, rho l M.length, post.map fun p => rho l M.length p.1, rfl, leAs_sound hle, hG, fits_of h1 h2 h3, fun p hp => .inl (List.mem_map.2 ⟨p, hp, rfl⟩), fun n hn => ?_, ?_⟩
  · obtain ⟨p, hp, rfl⟩ := List.mem_map.1 hn
    exact ⟨p, hp, rfl⟩
  · have e : (keys post).map (rho l M.length) = post.map fun p => rho l M.length p.1 := by rw [keys, List.map_map]; rfl
    rw [e] at hK
    exact hK

theorem stepT_mono {o : CO} {env : Nat → AV} {m : Mem} {K K' : (Nat → AV) → Mem → List Nat × List Nat → Prop} (h : stepT P Γ o env m K) (hK : ∀ env m f, K env m f → K' env m f) : stepT P Γ o env m K' := by
  unfold stepT at *
  split
  · rename_i f args ho
    simp only [ho] at h
    obtain ⟨g, first, cap, args', pre, r, post, ρ, W, h1, h2, h3, h4, h5, h6, h7⟩ := h
    exact ⟨g, first, cap, args', pre, r, post, ρ, W, h1, h2, h3, h4, h5, h6, hK _ _ _ h7⟩
  · rename_i x ho
    simp only [ho] at h
  · rename_i neg x ho
    simp only [ho] at h
  · rename_i h1 h2 h3
    have h' : (match cpure Γ env o.op with
      | some r => K (putE env o.dst r) m ([], [])
      | none => ∃ nm, match cmem Γ env m nm o.op with
        | some (r, m') => K (putE env o.dst r) m' (cfoot Γ env nm o.op)
        | none => False) := by
      revert h
      split
      · rename_i f args ho; exact absurd ho (h1 f args)
      · rename_i x ho; exact absurd ho (h2 x)
      · rename_i neg x ho; exact absurd ho (h3 neg x)
      · exact id
    cases hc : cpure Γ env o.op with
    | some r => simp only [hc] at h' ⊢; exact hK _ _ _ h'
    | none =>
      simp only [hc] at h' ⊢
      obtain ⟨nm, h'⟩ := h'
      refine ⟨nm, ?_⟩
      cases hm : cmem Γ env m nm o.op with
      | some p => simp only [hm] at h' ⊢; exact hK _ _ _ h'
      | none => simp only [hm] at h'
end
end Go.Shade
