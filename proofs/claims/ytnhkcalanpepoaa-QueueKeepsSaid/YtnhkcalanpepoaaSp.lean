/- Functions by their code; less is known; lengths. Own work. -/
import Derived.Test.YtnhkcalanpepoaaSo
namespace Go.Shade
open Go

abbrev EL := List (Nat × AV)
def look : EL → Nat → AV
  | [], _ => .junk
  | (d, a) :: L, i => if i = d then a else look L i

theorem AV.Le.refl (a : AV) : a.Le a := fun _ _ _ h => h
theorem AV.Le.trans {a b c : AV} (h : a.Le b) (k : b.Le c) : a.Le c := fun g H v hv => k g H v (h g H v hv)
theorem le_junk (a : AV) : a.Le .junk := fun _ _ _ _ => .junk
theorem LeL.refl (l : List AV) : LeL l l := ⟨rfl, fun _ a b h1 h2 => by rw [h1] at h2; cases h2; exact .refl a⟩

inductive ResLe : Res → Res → Prop
  | dead (r : Res) : ResLe r .dead
  | tok : ResLe .tok .tok
  | box {cs cs' : List AV} (fz : Bool) (h : LeL cs cs') : ResLe (.box cs fz) (.box cs' fz)
theorem ResLe.refl : ∀ r : Res, ResLe r r
  | .box cs fz => .box fz (.refl cs)
  | .tok => .tok
  | .dead => .dead _

/-- What is told in L and M is told in env and m, by other names. -/
structure Weak (R : RD) (ρ : Nat → Nat) (env : Nat → AV) (m : Mem) (L : EL) (M : ML) : Prop where
  env : ∀ i, (env i).Le ((look L i).ren ρ)
  mem : ∀ n r, memL M n = some r → ∃ r0, m (ρ n) = some r0 ∧ ResLe r0 (r.ren ρ)
  inj : ∀ n n', memL M n ≠ none → memL M n' ≠ none → ρ n = ρ n' → n = n'
  en : ∀ p ∈ L, ∀ n ∈ p.2.names, memL M n ≠ none
  mn : ∀ p ∈ M, ∀ n ∈ p.2.names, memL M n ≠ none
  R : ∀ n, R.on n → memL M n ≠ none ∧ ρ n = n

mutual
theorem ren_id : ∀ a : AV, a.ren id = a
  | .p x => by rw [AV.ren]
  | .own t sz xs => by rw [AV.ren]; rfl
  | .agg cs => by rw [AV.ren, renL_id]
  | .tup cs => by rw [AV.ren, renL_id]
  | .ptr b off => by rw [AV.ren]; rfl
  | .cptr cs => by rw [AV.ren]
  | .fn f x y => by rw [AV.ren, renL_id, renL_id]
  | .bsl b off sz n => by rw [AV.ren]; rfl
  | .cmap es => by rw [AV.ren]
  | .junk => by rw [AV.ren]
theorem renL_id : ∀ l : List AV, renL id l = l
  | [] => by rw [renL]
  | a :: l => by rw [renL, ren_id a, renL_id l]
end

theorem memL_mem : ∀ {M : ML} {n : Nat} {r : Res}, memL M n = some r → ∃ p ∈ M, p.2 = r
  | [], n, r, h => by simp [memL] at h
  | (k, q) :: M, n, r, h => by
    rw [memL] at h
    split at h
    · cases h; exact ⟨(k, q), by simp, rfl⟩
    · obtain ⟨p, hp, hr⟩ := memL_mem h
      exact ⟨p, by simp [hp], hr⟩
theorem look_mem : ∀ {L : EL} {i : Nat}, look L i = .junk ∨ ∃ p ∈ L, p.2 = look L i
  | [], i => .inl rfl
  | (d, a) :: L, i => by
    rw [look]
    split
    · exact .inr ⟨(d, a), by simp, rfl⟩
    · rcases look_mem (L := L) (i := i) with h | ⟨p, hp, h⟩
      · exact .inl h
      · exact .inr ⟨p, by simp [hp], h⟩

section
variable {P : Program} {N : Nat} {Γ : Globs} {R : RD} {g0 g : Gh} {w0 w : World} {m0 m : Mem} {a : Act} {env : Nat → AV}

theorem vr_restrict {M : ML} {ρ : Nat → Nat} {b : AV} {v : Value} {h : Array Obj} (hn : ∀ n ∈ b.names, memL M n ≠ none) (hv : VR g h (b.ren ρ) v) : VR (under g ρ (memL M)) h b v := vr_under hn hv

/-- The names of what is told. -/
theorem rel_weak {M : ML} {ρ : Nat → Nat} (hR : Rel Γ g w m) (hmem : ∀ n r, memL M n = some r → ∃ r0, m (ρ n) = some r0 ∧ ResLe r0 (r.ren ρ)) (hinj : ∀ n n', memL M n ≠ none → memL M n' ≠ none → ρ n = ρ n' → n = n')
    (hmn : ∀ n r, memL M n = some r → ∀ k ∈ r.names, memL M k ≠ none) : Rel Γ (under g ρ (memL M)) w (memL M) where
  fresh n hn := by simp [under, hn]
  box n cs fz hn := by
    obtain ⟨r0, hm, hle⟩ := hmem n _ hn
    rw [Res.ren, renL_map] at hle
    cases hle with
    | box fz hl =>
      rename_i cs0
      have hl0 : cs0.length = cs.length := by simpa using hl.1
      obtain ⟨k, vs, T, h1, h2, h3, h4, h5⟩ := hR.box (ρ n) cs0 fz hm
      refine ⟨k, vs, T, by rw [(under_σ (by rw [hn]; simp)).1]; exact h1, h2, by rw [← hl0]; exact h3, fun i b v hb hv => ?_, by rw [← hl0]; simpa [under] using h5⟩
      have hlt : i < cs0.length := by rw [hl0]; exact (List.getElem?_eq_some_iff.1 hb).1
      refine vr_restrict (fun q hq => hmn n _ hn q (mem_namesL.2 ⟨b, List.mem_of_getElem? hb, hq⟩)) ?_
      exact hl.2 i _ (b.ren ρ) (List.getElem?_eq_getElem hlt) (by rw [List.getElem?_map, hb]; rfl) g w.heap v (h4 i _ v (List.getElem?_eq_getElem hlt) hv)
  tok n hn := by
    obtain ⟨r0, hm, hle⟩ := hmem n _ hn
    rw [Res.ren] at hle
    cases hle
    have h0 := hR.tok (ρ n) hm
    unfold TkR at h0 ⊢
    rw [(under_σ (by rw [hn]; simp)).2]
    exact h0
  inj n n' k h1 h2 := by
    have old : ∀ n, Holds (under g ρ (memL M)) (memL M) n k → Holds g m (ρ n) k ∧ memL M n ≠ none := fun n h => by
      rcases h with ⟨cs, fz, h, h'⟩ | ⟨h, e, h'⟩
      · obtain ⟨r0, hm, hle⟩ := hmem n _ h
        rw [Res.ren, renL_map] at hle
        cases hle
        rw [(under_σ (by rw [h]; simp)).1] at h'
        exact ⟨.inl ⟨_, fz, hm, h'⟩, by rw [h]; simp⟩
      · obtain ⟨r0, hm, hle⟩ := hmem n _ h
        rw [Res.ren] at hle
        cases hle
        rw [(under_σ (by rw [h]; simp)).2] at h'
        exact ⟨.inr ⟨hm, e, h'⟩, by rw [h]; simp⟩
    obtain ⟨o1, o2⟩ := old n h1
    obtain ⟨o3, o4⟩ := old n' h2
    exact hinj n n' o2 o4 (hR.inj _ _ k o1 o3)
  ulen := hR.ulen
  glob := hR.glob

theorem st_weak {M : ML} {ρ : Nat → Nat} (hst : St g0 w0 m0 g w m) (hmem : ∀ n r, memL M n = some r → ∃ r0, m (ρ n) = some r0 ∧ ResLe r0 (r.ren ρ)) : St g0 w0 m0 (under g ρ (memL M)) w (memL M) where
  os := hst.os
  tape := hst.tape
  output := hst.output
  fz := hst.fz
  size := hst.size
  frame := hst.frame
  pers := hst.pers
  ownm n k hk h := by
    refine hst.ownm (ρ n) k hk ?_
    rcases h with ⟨cs, h, h'⟩ | ⟨h, e, h'⟩
    · obtain ⟨r0, hm, hle⟩ := hmem n _ h
      rw [Res.ren, renL_map] at hle
      cases hle
      rw [(under_σ (by rw [h]; simp)).1] at h'
      exact .inl ⟨_, hm, h'⟩
    · obtain ⟨r0, hm, hle⟩ := hmem n _ h
      rw [Res.ren] at hle
      cases hle
      rw [(under_σ (by rw [h]; simp)).2] at h'
      exact .inr ⟨hm, e, h'⟩
  holdm n k hk h := by
    refine hst.holdm (ρ n) k hk ?_
    rcases h with ⟨cs, fz, h, h'⟩ | ⟨h, e, h'⟩
    · obtain ⟨r0, hm, hle⟩ := hmem n _ h
      rw [Res.ren, renL_map] at hle
      cases hle
      rw [(under_σ (by rw [h]; simp)).1] at h'
      exact .inl ⟨_, fz, hm, h'⟩
    · obtain ⟨r0, hm, hle⟩ := hmem n _ h
      rw [Res.ren] at hle
      cases hle
      rw [(under_σ (by rw [h]; simp)).2] at h'
      exact .inr ⟨hm, e, h'⟩

theorem IS.weak {L : EL} {M : ML} {ρ : Nat → Nat} (hS : IS Γ N R g0 w0 m0 g w a env m) (hw : Weak R ρ env m L M) : IS Γ N R g0 w0 m0 (under g ρ (memL M)) w a (look L) (memL M) := by
  have hmn : ∀ n r, memL M n = some r → ∀ k ∈ r.names, memL M k ≠ none := fun n r h k hk => by
    obtain ⟨p, hp, rfl⟩ := memL_mem h
    exact hw.mn p hp k hk
  refine ⟨⟨rel_weak hS.rel.rel hw.mem hw.inj hmn, hS.rel.size, fun i v hv => ?_⟩, st_weak hS.st hw.mem, fun n hn => ?_, hS.dfs⟩
  · refine vr_restrict (fun n hnn => ?_) (hw.env i g w.heap v (hS.rel.env i v hv))
    rcases look_mem (L := L) (i := i) with h | ⟨p, hp, h⟩
    · rw [h] at hnn; simp [AV.names] at hnn
    · exact hw.en p hp n (by rw [h]; exact hnn)
  · obtain ⟨h1, h2, h3⟩ := hS.nm n hn
    obtain ⟨h4, h5⟩ := hw.R n hn
    have h6 := under_σ (g := g) (ρ := ρ) h4
    rw [h5] at h6
    exact ⟨h4, h6.1.trans h2, h6.2.trans h3⟩

theorem vld_weak {c : CC} {Q : QS} {L : EL} {M : ML} {ρ : Nat → Nat} (hw : Weak R ρ env m L M) (h : Vld P Γ N R c Q (look L) (memL M)) : Vld P Γ N R c Q env m :=
  fun c0 hc g0 w0 m0 _g w a hS => h c0 hc g0 w0 m0 _ w a (hS.weak hw)

theorem vld_loopW {c : CC} {Q : QS} (J : Nat → EL → ML → Prop) {n : Nat} {L : EL} {M : ML} {ρ : Nat → Nat} (h0 : J n L M) (hw : Weak R ρ env m L M)
    (round : ∀ n L M, J n L M → Vld P Γ N R c (thenQ (fun env m => ∃ k L' M' ρ, k < n ∧ J k L' M' ∧ Weak R ρ env m L' M') Q) (look L) (memL M)) : Vld P Γ N R (.loop c) Q env m := by
  refine vld_weak hw ?_
  intro c0 hc g0 w0 m0 g w a hS
  simp only [erase] at hc
  cases c0 with
  | loop x =>
    simp only [cC] at hc
    obtain ⟨cx, hx, hl⟩ := Option.map_eq_some_iff.1 hc
    cases hl
    refine wp_loop_n (fun k a w => ∃ g L M, IS Γ N R g0 w0 m0 g w a (look L) (memL M) ∧ J k L M) (fun k a w hk => ?_) ⟨g, L, M, hS, h0⟩
    obtain ⟨g, L, M, hS', hJ⟩ := hk
    refine wp_mono (round k L M hJ x hx g0 w0 m0 g w a hS') (fun e a' w' h => ?_)
    cases e with
    | normal =>
      obtain ⟨g, env, m, h1, k', L', M', ρ', hlt, h2, h3⟩ := h
      exact ⟨k', hlt, _, L', M', h1.weak h3, h2⟩
    | exit i => exact h
    | goto l => exact h.elim
    | ret => exact h
    | panic ch => exact h
    | outgrown => exact h.elim
  | region id ops dr =>
    simp only [cC] at hc
    obtain ⟨l, _, hl⟩ := Option.map_eq_some_iff.1 hc
    split at hl <;> cases hl
  | seq x y => simp only [cC] at hc; split at hc <;> cases hc
  | cond x y z => simp only [cC] at hc; split at hc <;> cases hc
  | block i x => simp only [cC] at hc; obtain ⟨_, _, hl⟩ := Option.map_eq_some_iff.1 hc; cases hl
  | _ => cases hc

/-- A slice is no longer than memory bears. -/
theorem vld_len {c : CC} {Q : QS} (i : Nat) {n : Nat} (hi : (env i).lenOf = some n) (h : n ≤ 281474976710656 → Vld P Γ N R c Q env m) (hN : i < N) : Vld P Γ N R c Q env m := by
  intro c0 hc g0 w0 m0 g w a hS
  refine h ?_ c0 hc g0 w0 m0 g w a hS
  have hia : i < a.tmps.size := by rw [hS.rel.size]; exact hN
  have hv := hS.rel.env i _ (Array.getElem?_eq_getElem hia)
  unfold AV.lenOf at hi
  split at hi
  · rename_i hx
    cases hi
    rw [hx] at hv
    generalize a.tmps[i] = q at hv
    cases hv with
    | p h => cases h with
      | sl f hn _ hm _ _ _ _ => omega
  · rename_i hx
    cases hi
    rw [hx] at hv
    generalize a.tmps[i] = q at hv
    cases hv with
    | own h _ => cases h with
      | sl f hn _ hm _ _ _ _ => omega
  · cases hi; omega
  · rename_i hx
    cases hi
    rw [hx] at hv
    generalize a.tmps[i] = q at hv
    cases hv with
    | bsl _ _ _ hm => exact hm
  · cases hi

/-! ### Results -/
inductive RV where
  | tmp (d : Nat)
  | cell (d : Nat) (agg : Bool) (n : Nat)
def cRes (P : Program) (N : Nat) : ResultVar → Option RV
  | .tmp t => if t < N then some (.tmp t) else none
  | .cell t ty => if t < N then (sizeT P ty).map (RV.cell t (isAggT P ty)) else none
def RV.ev (env : Nat → AV) (m : Mem) : RV → Option AV
  | .tmp d => some (env d)
  | .cell d agg n => match env d with
    | .ptr b off => match m b with
      | some (.box cs _) => subA agg cs off n
      | _ => none
    | _ => none
def evRs (env : Nat → AV) (m : Mem) (rs : List RV) : Option AV := (rs.mapM (RV.ev env m)).map fun l => match l with
  | [r] => r
  | l => .tup l

/-- A box's part is read. -/
theorem box_read (hR : Rel Γ g w m) {b off n : Nat} {cs : List AV} {fz : Bool} (hm : m b = some (.box cs fz)) {k : Nat} (hk : g.σ b = some k) {t : TypeId} (hn : sizeT P t = some n) {r : AV} (hr : subA (isAggT P t) cs off n = some r) :
    ∃ v, (loadVar t ⟨k, off, none⟩).run P w = .ok v w ∧ VR g w.heap r v := by
  obtain ⟨k', vs, T, hk', hh, hl, hvs, _⟩ := hR.box b cs fz hm
  rw [hk] at hk'
  cases hk'
  obtain ⟨i, d, hi, hd, rfl⟩ := sizeT_spec hn
  have h2 := run_isAgg hd w
  have hcell : ∀ j v, vs[j]? = some v → w.cell? ⟨k, j, none⟩ = some v := fun j v hj => by simp [World.cell?, hh, hj]
  unfold subA at hr
  cases hb : isAggT P t with
  | true =>
    rw [hb] at hr h2
    simp only [if_true] at hr
    split at hr
    · rename_i hle
      cases hr
      have hld := run_loadCells_list (P := P) w ⟨k, off, none⟩ (vs.extract off (off + i.size)).toList (fun j v hj => by
        rw [add_spot rfl]
        refine hcell _ _ ?_
        rw [Array.getElem?_toList, Array.getElem?_extract] at hj
        split at hj
        · exact hj
        · cases hj)
      have hsz : (vs.extract off (off + i.size)).toList.length = i.size := by simp; omega
      rw [hsz] at hld
      exact ⟨.agg (vs.extract off (off + i.size)), by simp only [loadVar, Sem.run_bind, h2, Result.andThen_ok, if_true, run_sizeOf hn w, hld, Sem.run_pure], vr_agg_sub hl hvs hle⟩
    · cases hr
  | false =>
    rw [hb] at hr h2
    simp only [Bool.false_eq_true, if_false] at hr
    have hlt : off < vs.size := Nat.lt_of_lt_of_le (List.getElem?_eq_some_iff.1 hr).1 hl
    have hld : (Go.load ⟨k, off, none⟩).run P w = .ok vs[off] w := by
      unfold Go.load
      simp only [Sem.run, hcell off _ (Array.getElem?_eq_getElem hlt)]
    exact ⟨vs[off], by simp only [loadVar, Sem.run_bind, h2, Result.andThen_ok, Bool.false_eq_true, if_false, hld], hvs off r _ hr (Array.getElem?_eq_getElem hlt)⟩

def resF (tmps : Array Value) : ResultVar → Sem Value
  | .tmp t => pure (tmps.getD t undef)
  | .cell a t => do loadVar t (← asAddr (tmps.getD a undef))
theorem run_res1 (hS : RelS Γ N g w a env m) {rv : ResultVar} {rc : RV} (hc : cRes P N rv = some rc) {r : AV} (hr : rc.ev env m = some r) : ∃ v, (resF a.tmps rv).run P w = .ok v w ∧ VR g w.heap r v := by
  cases rv with
  | tmp t =>
    simp only [cRes] at hc
    split at hc
    · rename_i ht
      cases hc
      simp only [RV.ev, Option.some.injEq] at hr
      subst hr
      have ht' : t < a.tmps.size := by rw [hS.size]; exact ht
      exact ⟨a.tmps[t], by simp [resF, Array.getD, ht'], hS.env t _ (Array.getElem?_eq_getElem ht')⟩
    · cases hc
  | cell t ty =>
    simp only [cRes] at hc
    split at hc
    · rename_i ht
      obtain ⟨n, hn, rfl⟩ := Option.map_eq_some_iff.1 hc
      simp only [RV.ev] at hr
      split at hr
      · rename_i b off he
        split at hr
        · rename_i cs fz hm
          have ht' : t < a.tmps.size := by rw [hS.size]; exact ht
          have hv := hS.env t _ (Array.getElem?_eq_getElem ht')
          rw [he] at hv
          obtain ⟨k, hk, hq⟩ := vr_ptr hv
          obtain ⟨v, h1, h2⟩ := box_read (P := P) hS.rel hm hk hn hr
          exact ⟨v, by simp [resF, Array.getD, ht', hq, asAddr, h1], h2⟩
        · cases hr
      · cases hr
    · cases hc
theorem run_resL (hS : RelS Γ N g w a env m) : ∀ {l : List ResultVar} {lc : List RV}, l.mapM (cRes P N) = some lc → ∀ {rs : List AV}, lc.mapM (RV.ev env m) = some rs → ∃ vl, (l.mapM (resF a.tmps)).run P w = .ok vl w ∧ VL g w.heap rs vl
  | [], lc, h, rs, hr => by
    simp only [List.mapM_nil, pure, Option.some.injEq] at h
    subst h
    simp only [List.mapM_nil, pure, Option.some.injEq] at hr
    subst hr
    exact ⟨[], by simp, rfl, fun i a v h => by simp at h⟩
  | x :: l, lc, h, rs, hr => by
    simp only [List.mapM_cons, bind, Option.bind_eq_some_iff, pure, Option.some.injEq] at h
    obtain ⟨c, hc, lr, hl, rfl⟩ := h
    simp only [List.mapM_cons, bind, Option.bind_eq_some_iff, pure, Option.some.injEq] at hr
    obtain ⟨r, hr1, rr, hr2, rfl⟩ := hr
    obtain ⟨v, h1, h2⟩ := run_res1 hS hc hr1
    obtain ⟨vl, h3, h4⟩ := run_resL hS hl hr2
    refine ⟨v :: vl, by simp [List.mapM_cons, h1, h3], by simp [h4.1], fun i b u hb hu => ?_⟩
    cases i with
    | zero => simp at hb hu; subst hb; subst hu; exact h2
    | succ i => exact h4.2 i b u (by simpa using hb) (by simpa using hu)
theorem run_results (hS : RelS Γ N g w a env m) {fn : Func} {rs : List RV} (hc : fn.results.toList.mapM (cRes P N) = some rs) {r : AV} (hr : evRs env m rs = some r) : ∃ v, (results fn a.tmps).run P w = .ok v w ∧ VR g w.heap r v := by
  obtain ⟨l, hl, rfl⟩ := Option.map_eq_some_iff.1 hr
  obtain ⟨vl, h1, h2⟩ := run_resL hS hc hl
  have h3 : (fn.results.mapM (resF a.tmps)).run P w = .ok vl.toArray w := by
    rw [Array.mapM_eq_mapM_toList]
    simp [h1]
  have h4 : results fn a.tmps = (do let vs ← fn.results.mapM (resF a.tmps); pure (if h : vs.size = 1 then vs[0] else .tuple vs)) := by
    unfold results
    congr 1
  rw [h4]
  simp only [Sem.run_bind, h3, Result.andThen_ok, Sem.run_pure]
  refine ⟨_, rfl, ?_⟩
  match l, vl, h2 with
  | [], vl, h2 =>
    have : vl = [] := List.eq_nil_of_length_eq_zero h2.1.symm
    subst this
    exact .tup rfl (fun i a v h => by simp at h)
  | [r], [v], h2 => exact h2.2 0 r v rfl rfl
  | [r], [], h2 => exact absurd h2.1 (by simp)
  | [r], _ :: _ :: _, h2 => exact absurd h2.1 (by simp)
  | r1 :: r2 :: l, vl, h2 =>
    have hne : ¬ vl.toArray.size = 1 := by have := h2.1; simp at this ⊢; omega
    simp only [hne, dif_neg, not_false_eq_true]
    exact .tup (by simpa using h2.1) (fun i b v hb hv => h2.2 i b v hb (by simpa using hv))

/-! ### A function's contract out of its code -/
def argE (args : List AV) : EL := args.zipIdx.map fun (a, i) => (i, a)
theorem look_argE (args : List AV) (i : Nat) : look (argE args) i = args.getD i .junk := by
  have key : ∀ (l : List AV) (s : Nat), look ((l.zipIdx s).map fun (a, i) => (i, a)) i = if s ≤ i then l.getD (i - s) .junk else .junk := by
    intro l
    induction l with
    | nil => intro s; simp [look]
    | cons a l ih =>
      intro s
      rw [List.zipIdx_cons, List.map_cons, look, ih]
      by_cases h1 : i = s
      · subst h1; simp
      · rw [if_neg h1]
        by_cases h2 : s ≤ i
        · rw [if_pos (by omega), if_pos h2, show i - s = (i - (s + 1)) + 1 by omega]
          simp
        · rw [if_neg (by omega), if_neg h2]
  have := key args 0
  simpa [argE] using this

/-- A function's end: its results, by the contract's names. -/
structure Ends (R : RD) (e : AE) (post : ML) (env : Nat → AV) (m : Mem) (ρ : Nat → Nat) : Prop where
  mem : ∀ n q, memL post n = some q → ∃ q0, m (ρ n) = some q0 ∧ ResLe q0 (q.ren ρ)
  inj : ∀ n n', memL post n ≠ none → memL post n' ≠ none → ρ n = ρ n' → n = n'
  R : ∀ n, R.on n → ρ n = n
def finQ (R : RD) (rs : List RV) (e : AE) (post : ML) : QS
  | .normal, env, m | .ret, env, m => ∃ ρ r0 r, evRs env m rs = some r0 ∧ e = .ret r ∧ r0.Le (r.ren ρ) ∧ Ends R e post env m ρ
  | .pan v, env, m => e = .pan v ∧ ∃ ρ, Ends R e post env m ρ
  | .exit _, _, _ => False

/-- Closed facts of a function, and its code. -/
structure Fun (P : Program) (f : FuncId) (N : Nat) (cc : CC) (rs : List RV) (np : Nat) : Prop where
  is : ∃ fn c0, P.funcs[f]? = some fn ∧ fn.body = some c0 ∧ (fn.name == "runtime.NumGoroutine") = false ∧ fn.ntmps = N ∧ cC P N c0 = some (erase cc) ∧ fn.results.toList.mapM (cRes P N) = some rs
  np : np ≤ N

theorem good_of {f : FuncId} {cc : CC} {rs : List RV} {np : Nat} (hF : Fun P f N cc rs np) {args : List AV} {pre post : ML} {e : AE} (hnp : args.length = np)
    (an : ∀ n ∈ namesL args, memL pre n ≠ none) (pn : ∀ p ∈ pre, ∀ k ∈ p.2.names, memL pre k ≠ none) (rn : ∀ n ∈ e.names, memL post n ≠ none) (qn : ∀ p ∈ post, ∀ k ∈ p.2.names, memL post k ≠ none) (dom : ∀ n, memL pre n ≠ none → memL post n ≠ none)
    (h : Vld P Γ N (rd pre) cc (finQ (rd pre) rs e post) (look (argE args)) (memL pre)) : Good P Γ f args pre e post := by
  obtain ⟨fn, c0, hf, hb, hname, rfl, hc, hrs⟩ := hF.is
  have qn' : ∀ n r, memL post n = some r → ∀ k ∈ r.names, memL post k ≠ none := fun n r hr k hk => by
    obtain ⟨p, hp, rfl⟩ := memL_mem hr
    exact qn p hp k hk
  refine ⟨⟨fn, hf, by simp [hb], hname⟩, an, fun n r hr k hk => ?_, rn, qn', dom, fun g w cargs hR hv => ?_⟩
  · obtain ⟨p, hp, rfl⟩ := memL_mem hr
    exact pn p hp k hk
  · refine calls_of_wp hf hb ?_
    have hlen : cargs.length = args.length := hv.1.symm
    have hnp' := hF.np
    have hS : IS Γ fn.ntmps (rd pre) g w (memL pre) g w { tmps := cargs.toArray ++ Array.replicate (fn.ntmps - cargs.toArray.size) undef, defers := [] } (look (argE args)) (memL pre) := by
      refine ⟨⟨hR, by simp; omega, fun i v hi => ?_⟩, St.refl _ _ _, fun n hn => ⟨hn, rfl, rfl⟩, rfl⟩
      rw [look_argE]
      simp only at hi
      by_cases hlt : i < args.length
      · rw [List.getD_eq_getElem?_getD, List.getElem?_eq_getElem hlt]
        rw [Array.getElem?_append_left (by simp; omega)] at hi
        exact hv.2 i _ v (List.getElem?_eq_getElem hlt) (by simpa using hi)
      · rw [List.getD_eq_getElem?_getD, List.getElem?_eq_none (by omega)]
        exact .junk
    refine wp_mono (h c0 hc g w (memL pre) g w _ hS) (fun ex a w' hl => ?_)
    have fin : ∀ g' env m ρ, IS Γ fn.ntmps (rd pre) g w (memL pre) g' w' a env m → Ends (rd pre) e post env m ρ → Fin Γ g w (memL pre) (under g' ρ (memL post)) w' (memL post) := fun g' env m ρ hS' hm =>
      ⟨rel_weak hS'.rel.rel hm.mem hm.inj qn', st_weak hS'.st hm.mem, fun n hn => by
        obtain ⟨_, h2, h3⟩ := hS'.nm n hn
        have h6 := under_σ (g := g') (ρ := ρ) (dom n hn)
        rw [hm.R n hn] at h6
        exact ⟨h6.1.trans h2, h6.2.trans h3⟩⟩
    have done : (∃ g' env m, IS Γ fn.ntmps (rd pre) g w (memL pre) g' w' a env m ∧ finQ (rd pre) rs e post .ret env m) → a.defers = [] ∧ ∃ v, (results fn a.tmps).run P w' = .ok v w' ∧ GoodPost Γ g w (memL pre) e (memL post) (.returned v) w' := by
      rintro ⟨g', env, m, hS', ρ, r0, r, hr0, rfl, hle, hm⟩
      obtain ⟨v, h1, h2⟩ := run_results hS'.rel hrs hr0
      exact ⟨hS'.dfs, v, h1, r, _, rfl, fin g' env m ρ hS' hm, vr_restrict rn (hle _ _ _ h2)⟩
    cases ex with
    | normal => exact done hl
    | ret => exact done hl
    | exit id => obtain ⟨_, _, _, _, h2⟩ := hl; exact h2
    | goto l => exact hl.elim
    | panic ch =>
      obtain ⟨v, g', env, m, rfl, hS', rfl, ρ, hm⟩ := hl
      exact ⟨hS'.dfs, v, _, rfl, rfl, fin g' env m ρ hS' hm⟩
    | outgrown => exact hl.elim
end
end Go.Shade
