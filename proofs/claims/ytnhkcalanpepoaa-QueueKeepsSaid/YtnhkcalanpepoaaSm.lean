/- Contracts of functions, and calls by them. Own work. -/
import Derived.Test.YtnhkcalanpepoaaSla
namespace Go.Shade
open Go

mutual
def AV.ren (ρ : Nat → Nat) : AV → AV
  | .p x => .p x
  | .own t sz xs => .own (ρ t) sz xs
  | .agg cs => .agg (renL ρ cs)
  | .tup cs => .tup (renL ρ cs)
  | .ptr b off => .ptr (ρ b) off
  | .cptr cs => .cptr cs
  | .fn f x y => .fn f (renL ρ x) (renL ρ y)
  | .bsl b off sz n => .bsl (ρ b) off sz n
  | .cmap es => .cmap es
  | .junk => .junk
def renL (ρ : Nat → Nat) : List AV → List AV
  | [] => []
  | a :: l => a.ren ρ :: renL ρ l
end
mutual
def AV.names : AV → List Nat
  | .p _ => []
  | .own t _ _ => [t]
  | .agg cs => namesL cs
  | .tup cs => namesL cs
  | .ptr b _ => [b]
  | .cptr _ => []
  | .fn _ x y => namesL x ++ namesL y
  | .bsl b _ _ _ => [b]
  | .cmap _ => []
  | .junk => []
def namesL : List AV → List Nat
  | [] => []
  | a :: l => a.names ++ namesL l
end
theorem renL_map (ρ : Nat → Nat) : ∀ l, renL ρ l = l.map (AV.ren ρ)
  | [] => by simp [renL]
  | a :: l => by simp [renL, renL_map ρ l]
theorem mem_namesL {l : List AV} {n : Nat} : n ∈ namesL l ↔ ∃ a ∈ l, n ∈ a.names := by
  induction l with
  | nil => simp [namesL]
  | cons a l ih => simp [namesL, ih]

section
variable {g gc : Gh} {h : Array Obj} {ρ : Nat → Nat}

theorem vr_ren (hU : gc.U = g.U) : ∀ (a : AV) (v : Value), (∀ n ∈ a.names, gc.σ n = g.σ (ρ n) ∧ gc.τ n = g.τ (ρ n)) → (VR gc h a v ↔ VR g h (a.ren ρ) v)
  | .p x, v, _ => by
    rw [AV.ren]
    constructor
    · intro hv; cases hv with | p hr => exact .p (by rw [← hU]; exact hr)
    · intro hv; cases hv with | p hr => exact .p (by rw [hU]; exact hr)
  | .own t sz xs, v, hn => by
    obtain ⟨_, h2⟩ := hn t (by simp [AV.names])
    rw [AV.ren]
    constructor
    · intro hv
      cases hv with
      | own hr ht =>
        refine .own (by rw [← hU]; exact hr) ?_
        rcases ht with ⟨k1, k2, e, k3⟩ | ⟨ad, vs, T, fr, u, k1, k2, k3, k4, k5, k6⟩
        · exact .inl ⟨k1, k2, e, by rw [← h2]; exact k3⟩
        · exact .inr ⟨ad, vs, T, fr, u, k1, k2, k3, by rw [← hU]; exact k4, k5, by rw [← h2]; exact k6⟩
    · intro hv
      cases hv with
      | own hr ht =>
        refine .own (by rw [hU]; exact hr) ?_
        rcases ht with ⟨k1, k2, e, k3⟩ | ⟨ad, vs, T, fr, u, k1, k2, k3, k4, k5, k6⟩
        · exact .inl ⟨k1, k2, e, by rw [h2]; exact k3⟩
        · exact .inr ⟨ad, vs, T, fr, u, k1, k2, k3, by rw [hU]; exact k4, k5, by rw [h2]; exact k6⟩
  | .agg cs, v, hn => by
    rw [AV.ren, renL_map]
    constructor
    · intro hv
      cases hv with
      | agg hl hr =>
        refine .agg (by simpa using hl) (fun i a v ha hv => ?_)
        rw [List.getElem?_map] at ha
        obtain ⟨b, hb, rfl⟩ := Option.map_eq_some_iff.1 ha
        have hm := List.mem_of_getElem? hb
        exact (vr_ren hU b v (fun n hnn => hn n (by rw [AV.names]; exact mem_namesL.2 ⟨b, hm, hnn⟩))).1 (hr i b v hb hv)
    · intro hv
      cases hv with
      | agg hl hr =>
        refine .agg (by simpa using hl) (fun i b v hb hv => ?_)
        have hm := List.mem_of_getElem? hb
        exact (vr_ren hU b v (fun n hnn => hn n (by rw [AV.names]; exact mem_namesL.2 ⟨b, hm, hnn⟩))).2 (hr i _ v (by rw [List.getElem?_map, hb]; rfl) hv)
  | .tup cs, v, hn => by
    rw [AV.ren, renL_map]
    constructor
    · intro hv
      cases hv with
      | tup hl hr =>
        refine .tup (by simpa using hl) (fun i a v ha hv => ?_)
        rw [List.getElem?_map] at ha
        obtain ⟨b, hb, rfl⟩ := Option.map_eq_some_iff.1 ha
        have hm := List.mem_of_getElem? hb
        exact (vr_ren hU b v (fun n hnn => hn n (by rw [AV.names]; exact mem_namesL.2 ⟨b, hm, hnn⟩))).1 (hr i b v hb hv)
    · intro hv
      cases hv with
      | tup hl hr =>
        refine .tup (by simpa using hl) (fun i b v hb hv => ?_)
        have hm := List.mem_of_getElem? hb
        exact (vr_ren hU b v (fun n hnn => hn n (by rw [AV.names]; exact mem_namesL.2 ⟨b, hm, hnn⟩))).2 (hr i _ v (by rw [List.getElem?_map, hb]; rfl) hv)
  | .ptr b off, v, hn => by
    obtain ⟨h1, _⟩ := hn b (by simp [AV.names])
    rw [AV.ren]
    constructor
    · intro hv; cases hv with | ptr hs => exact .ptr (by rw [← h1]; exact hs)
    · intro hv; cases hv with | ptr hs => exact .ptr (by rw [h1]; exact hs)
  | .cptr cs, v, _ => by
    rw [AV.ren]
    constructor
    · intro hv; cases hv with | cptr f hs hp hr => exact .cptr f hs (by rw [← hU]; exact hp) (by rw [← hU]; exact hr)
    · intro hv; cases hv with | cptr f hs hp hr => exact .cptr f hs (by rw [hU]; exact hp) (by rw [hU]; exact hr)
  | .fn f x y, v, hn => by
    rw [AV.ren, renL_map, renL_map]
    constructor
    · intro hv
      cases hv with
      | fn l1 r1 l2 r2 =>
        refine .fn (by simpa using l1) (fun i a v ha hv => ?_) (by simpa using l2) (fun i a v ha hv => ?_)
        · rw [List.getElem?_map] at ha
          obtain ⟨b, hb, rfl⟩ := Option.map_eq_some_iff.1 ha
          have hm := List.mem_of_getElem? hb
          exact (vr_ren hU b v (fun n hnn => hn n (by rw [AV.names]; exact List.mem_append_left _ (mem_namesL.2 ⟨b, hm, hnn⟩)))).1 (r1 i b v hb hv)
        · rw [List.getElem?_map] at ha
          obtain ⟨b, hb, rfl⟩ := Option.map_eq_some_iff.1 ha
          have hm := List.mem_of_getElem? hb
          exact (vr_ren hU b v (fun n hnn => hn n (by rw [AV.names]; exact List.mem_append_right _ (mem_namesL.2 ⟨b, hm, hnn⟩)))).1 (r2 i b v hb hv)
    · intro hv
      cases hv with
      | fn l1 r1 l2 r2 =>
        refine .fn (by simpa using l1) (fun i b v hb hv => ?_) (by simpa using l2) (fun i b v hb hv => ?_)
        · have hm := List.mem_of_getElem? hb
          exact (vr_ren hU b v (fun n hnn => hn n (by rw [AV.names]; exact List.mem_append_left _ (mem_namesL.2 ⟨b, hm, hnn⟩)))).2 (r1 i _ v (by rw [List.getElem?_map, hb]; rfl) hv)
        · have hm := List.mem_of_getElem? hb
          exact (vr_ren hU b v (fun n hnn => hn n (by rw [AV.names]; exact List.mem_append_right _ (mem_namesL.2 ⟨b, hm, hnn⟩)))).2 (r2 i _ v (by rw [List.getElem?_map, hb]; rfl) hv)
  | .bsl b off sz n, v, hn => by
    obtain ⟨h1, _⟩ := hn b (by simp [AV.names])
    rw [AV.ren]
    constructor
    · intro hv; cases hv with | bsl hs k1 k2 k3 => exact .bsl (by rw [← h1]; exact hs) k1 k2 k3
    · intro hv; cases hv with | bsl hs k1 k2 k3 => exact .bsl (by rw [h1]; exact hs) k1 k2 k3
  | .cmap es, v, _ => by
    rw [AV.ren]
    constructor
    · intro hv; cases hv with | cmap k1 k2 => exact .cmap k1 k2
    · intro hv; cases hv with | cmap k1 k2 => exact .cmap k1 k2
  | .junk, v, _ => by
    rw [AV.ren]
    exact ⟨fun _ => .junk, fun _ => .junk⟩
termination_by a => SizeOf.sizeOf a
decreasing_by
  all_goals simp_wf
  all_goals (have := List.sizeOf_lt_of_mem hm; omega)
end

/-! ### Contracts -/
def Res.ren (ρ : Nat → Nat) : Res → Res
  | .box cs fz => .box (renL ρ cs) fz
  | .tok => .tok
  | .dead => .dead
def Res.names : Res → List Nat
  | .box cs _ => namesL cs
  | _ => []

inductive AE where
  | ret (r : AV)
  | pan (v : Value)
def AE.names : AE → List Nat
  | .ret r => r.names
  | .pan _ => []

def Callable (P : Program) (f : FuncId) : Prop := ∃ fn, P.funcs[f]? = some fn ∧ fn.body.isSome = true ∧ (fn.name == "runtime.NumGoroutine") = false

structure Fin (Γ : Globs) (g : Gh) (w : World) (pre : Mem) (g' : Gh) (w' : World) (post : Mem) : Prop where
  rel : Rel Γ g' w' post
  st : St g w pre g' w' post
  names : ∀ n, pre n ≠ none → g'.σ n = g.σ n ∧ g'.τ n = g.τ n

def GoodPost (Γ : Globs) (g : Gh) (w : World) (pre : Mem) (e : AE) (post : Mem) : Ending → World → Prop
  | .returned v, w' => ∃ r g', e = .ret r ∧ Fin Γ g w pre g' w' post ∧ VR g' w'.heap r v
  | .panicked ch, w' => ∃ v g', e = .pan v ∧ ch = [{ v := v, recovered := false }] ∧ Fin Γ g w pre g' w' post
  | .outgrown, _ => False

/-- What a call of f comes to. -/
structure Good (P : Program) (Γ : Globs) (f : FuncId) (args : List AV) (pre : ML) (e : AE) (post : ML) : Prop where
  call : Callable P f
  an : ∀ n ∈ namesL args, memL pre n ≠ none
  pn : ∀ n r, memL pre n = some r → ∀ k ∈ r.names, memL pre k ≠ none
  rn : ∀ n ∈ e.names, memL post n ≠ none
  qn : ∀ n r, memL post n = some r → ∀ k ∈ r.names, memL post k ≠ none
  dom : ∀ n, memL pre n ≠ none → memL post n ≠ none
  run : ∀ g w cargs, Rel Γ g w (memL pre) → VL g w.heap args cargs → Calls P f cargs.toArray w (GoodPost Γ g w (memL pre) e (memL post))

/-- What a contract says but for what a call comes to. -/
structure GoodF (P : Program) (f : FuncId) (args : List AV) (pre : ML) (e : AE) (post : ML) : Prop where
  call : Callable P f
  an : ∀ n ∈ namesL args, memL pre n ≠ none
  pn : ∀ n r, memL pre n = some r → ∀ k ∈ r.names, memL pre k ≠ none
  rn : ∀ n ∈ e.names, memL post n ≠ none
  qn : ∀ n r, memL post n = some r → ∀ k ∈ r.names, memL post k ≠ none
  dom : ∀ n, memL pre n ≠ none → memL post n ≠ none
theorem Good.toF {P : Program} {Γ : Globs} {f : FuncId} {args : List AV} {pre : ML} {e : AE} {post : ML} (h : Good P Γ f args pre e post) : GoodF P f args pre e post := ⟨h.call, h.an, h.pn, h.rn, h.qn, h.dom⟩
/-- What a call of f comes to, up to a number that is not told. -/
structure GoodI (P : Program) (Γ : Globs) (f : FuncId) (args : List AV) (pre : ML) (r : (Nat → Nat) → AV) (post : (Nat → Nat) → ML) : Prop where
  st : ∀ i, GoodF P f args pre (.ret (r i)) (post i)
  run : ∀ g w cargs, Rel Γ g w (memL pre) → VL g w.heap args cargs → Calls P f cargs.toArray w (fun en w' => ∃ i, GoodPost Γ g w (memL pre) (.ret (r i)) (memL (post i)) en w')

/-! ### The caller's side -/
def invOf (ρ : Nat → Nat) : ML → Nat → Option Nat
  | [], _ => none
  | (n, _) :: L, k => if k = ρ n then some n else invOf ρ L k
def applyM (m : Mem) (ρ : Nat → Nat) : ML → Mem
  | [] => m
  | (n, r) :: L => upd (applyM m ρ L) (ρ n) (some (r.ren ρ))

theorem invOf_some {ρ : Nat → Nat} : ∀ {L : ML} {k n : Nat}, invOf ρ L k = some n → k = ρ n ∧ memL L n ≠ none
  | [], k, n, h => by simp [invOf] at h
  | (n0, r) :: L, k, n, h => by
    rw [invOf] at h
    split at h
    · rename_i hk
      cases h
      exact ⟨hk, by simp [memL]⟩
    · obtain ⟨h1, h2⟩ := invOf_some h
      refine ⟨h1, ?_⟩
      rw [memL]
      split
      · simp
      · exact h2
theorem invOf_none {ρ : Nat → Nat} : ∀ {L : ML} {k : Nat}, invOf ρ L k = none → ∀ n, memL L n ≠ none → k ≠ ρ n
  | [], k, _, n, h => by simp [memL] at h
  | (n0, r) :: L, k, h, n, hn => by
    rw [invOf] at h
    split at h
    · cases h
    · rename_i hk
      rw [memL] at hn
      split at hn
      · rename_i hnn; subst hnn; exact hk
      · exact invOf_none h n hn
theorem invOf_at {ρ : Nat → Nat} {L : ML} (hinj : ∀ n n', memL L n ≠ none → memL L n' ≠ none → ρ n = ρ n' → n = n') {n : Nat} (hn : memL L n ≠ none) : invOf ρ L (ρ n) = some n := by
  cases h : invOf ρ L (ρ n) with
  | none => exact absurd rfl (invOf_none h n hn)
  | some n' =>
    obtain ⟨h1, h2⟩ := invOf_some h
    rw [hinj n n' hn h2 h1]
theorem applyM_get {m : Mem} {ρ : Nat → Nat} : ∀ {L : ML} (_ : ∀ n n', memL L n ≠ none → memL L n' ≠ none → ρ n = ρ n' → n = n') (k : Nat), applyM m ρ L k = match invOf ρ L k with
    | some n => (memL L n).map (Res.ren ρ)
    | none => m k
  | [], _, k => rfl
  | (n0, r) :: L, hinj, k => by
    rw [applyM, invOf]
    by_cases hk : k = ρ n0
    · subst hk
      simp [memL]
    · rw [upd_ne _ _ hk, if_neg hk]
      have ih := applyM_get (m := m) (ρ := ρ) (L := L) (fun n n' h1 h2 => hinj n n' (by rw [memL]; split <;> simp_all) (by rw [memL]; split <;> simp_all)) k
      rw [ih]
      cases hi : invOf ρ L k with
      | none => rfl
      | some n =>
        obtain ⟨h1, h2⟩ := invOf_some hi
        have : n ≠ n0 := fun e => hk (by rw [h1, e])
        simp [memL, this]
end Go.Shade
