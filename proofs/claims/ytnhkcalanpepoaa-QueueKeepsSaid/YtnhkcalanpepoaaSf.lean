/- The quiet operations do what 'cpure' says: the whole. Own work. -/
import Derived.Test.YtnhkcalanpepoaaSe
namespace Go.Shade
open Go

section
variable {P : Program} {N : Nat} {Γ : Globs} {g : Gh} {w : World} {a : Act} {env : Nat → AV} {m : Mem} {o : Oper} {r : AV}

theorem evO_sound (hS : RelS Γ N g w a env m) {x : Option Operand} {x' : Option X} (hx : cXo N x = some x') {i : Option Int} (hi : evO Γ env x' = some i) :
    (i = none ∧ x = none) ∨ ∃ y k n, x = some y ∧ i = some n ∧ a.eval y = .int k n := by
  cases x with
  | none =>
    simp only [cXo, Option.some.injEq] at hx
    subst hx
    simp only [evO, Option.some.injEq] at hi
    exact .inl ⟨hi.symm, rfl⟩
  | some y =>
    simp only [cXo] at hx
    obtain ⟨y', hy, rfl⟩ := Option.map_eq_some_iff.1 hx
    simp only [evO] at hi
    obtain ⟨n, hn, rfl⟩ := Option.map_eq_some_iff.1 hi
    obtain ⟨k, hk⟩ := vr_asInt (cX_sound hS hy) hn
    exact .inr ⟨y, k, n, rfl, rfl, hk⟩

theorem run_sliceBound {k : IntKind} {i : Int} {y : Nat} {code : BoundsCode} (h0 : 0 ≤ i) (h1 : i ≤ y) (W : World) : (Instr.sliceBound (.int k i) y code).run P W = .ok i.toNat W := by
  simp [Instr.sliceBound, asIntOf, h0, h1]

theorem run_sliceBounds (hS : RelS Γ N g w a env m) {lo hi : Option Operand} {lo' hi' : Option X} (hlo : cXo N lo = some lo') (hhi : cXo N hi = some hi') {i j : Option Int} (hi1 : evO Γ env lo' = some i) (hi2 : evO Γ env hi' = some j)
    {len cap l h : Nat} (hb : bounds len i j = some (l, h)) (hc : len ≤ cap) (isS : Bool) (W : World) :
    (Instr.sliceBounds isS len cap (lo.map a.eval) (hi.map a.eval) none).run P W = .ok (l, h, cap) W ∧ l ≤ h ∧ h ≤ len := by
  unfold bounds at hb
  simp only at hb
  split at hb
  · rename_i hc3
    obtain ⟨h0, h1, h2⟩ := hc3
    simp only [Option.some.injEq, Prod.mk.injEq] at hb
    obtain ⟨rfl, rfl⟩ := hb
    refine ⟨?_, by omega, by omega⟩
    rcases evO_sound hS hlo hi1 with ⟨rfl, rfl⟩ | ⟨y, k, n, rfl, rfl, hy⟩ <;> rcases evO_sound hS hhi hi2 with ⟨rfl, rfl⟩ | ⟨y', k', n', rfl, rfl, hy'⟩
    · simp [Instr.sliceBounds]
    · simp only [Option.getD_some, Option.getD_none] at h0 h1 h2 ⊢
      simp [Instr.sliceBounds, hy', run_sliceBound (P := P) (k := k') (i := n') (y := cap) (by omega) (by omega)]
    · simp only [Option.getD_some, Option.getD_none] at h0 h1 h2 ⊢
      simp [Instr.sliceBounds, hy, run_sliceBound (P := P) (k := k) (i := n) (y := len) (by omega) (by omega)]
    · simp only [Option.getD_some] at h0 h1 h2 ⊢
      simp [Instr.sliceBounds, hy, hy', run_sliceBound (P := P) (k := k') (i := n') (y := cap) (by omega) (by omega), run_sliceBound (P := P) (k := k) (i := n) (y := n'.toNat) (by omega) (by omega)]
  · cases hb

/-- What a slice of a slice reads. -/
theorem pr_slice {U : Nat → Option Nat} {H : Array Obj} {sz : Nat} {xs : List (List PV)} {A : Option Addr} {n c l h : Nat} (hp : PR U H (.sl sz xs) (.slice A n c)) (hl : l ≤ h) (hh : h ≤ n) :
    PR U H (.sl sz ((xs.take h).drop l)) (.slice (if c = l then A else A.map (·.add (l * sz))) (h - l) (c - l)) := by
  cases hp with
  | sl f hn hc hm hcm hsz hp hr =>
    have hsz1 : ∀ x ∈ xs.take h, x.length = sz := fun x hx => hsz x (List.mem_of_mem_take hx)
    have hsz2 : ∀ x ∈ (xs.take h).drop l, x.length = sz := fun x hx => hsz1 x (List.mem_of_mem_drop hx)
    have hflat : ((xs.take h).drop l).flatten = (xs.flatten.take (h * sz)).drop (l * sz) := by
      rw [flatten_drop l hsz1, flatten_take h hsz]
    have hfl := flatten_length hsz
    have hfl2 := flatten_length hsz2
    have hlen : ((xs.take h).drop l).length = h - l := by simp; omega
    have hmul : l * sz + (h - l) * sz ≤ xs.flatten.length := by
      rw [hfl, ← Nat.add_mul]
      exact Nat.mul_le_mul_right _ (by omega)
    refine .sl (fun j => f (l * sz + j)) hlen (by omega) (by omega) (by omega) hsz2 ?_ (fun j b hj => ?_)
    · intro h0
      rw [hfl2, hlen] at h0 ⊢
      have hlt : 0 < (h - l) * sz := h0
      have hcl : ¬ c = l := by
        intro e
        have : h - l = 0 := by omega
        rw [this] at hlt
        simp at hlt
      rw [if_neg hcl]
      obtain ⟨ad, vs, T, fr, u, rfl, hs, hH, hU, hle, hv⟩ := hp (by omega)
      have hcut := Place.cut (U := U) (h := H) (ad := ad) (len := xs.flatten.length) (f := f) (fun hx => ⟨ad, vs, T, fr, u, rfl, hs, hH, hU, hle, hv⟩) hs (l * sz) ((h - l) * sz) hmul
      exact hcut hlt
    · rw [hflat, List.getElem?_drop, List.getElem?_take] at hj
      split at hj
      · exact hr _ _ hj
      · cases hj

theorem tok_slice {H : Array Obj} {t sz : Nat} {A : Option Addr} {n c l : Nat} (ht : TokR g H t sz A n c) (hl : l ≤ n) (hc : n ≤ c) :
    TokR g H t sz (if c = l then A else A.map (·.add (l * sz))) (n - l) (c - l) := by
  rcases ht with ⟨rfl, rfl, e, h4⟩ | ⟨ad, vs, T, fr, u, rfl, hs, hh, hu, hcap, hτ⟩
  · exact .inl ⟨by omega, by omega, e, h4⟩
  · by_cases hcl : c = l
    · exact .inl ⟨by omega, by omega, _, hτ⟩
    · rw [if_neg hcl]
      refine .inr ⟨ad.add (l * sz), vs, T, fr, u, rfl, by rw [add_spot hs], by rw [add_spot hs]; exact hh, by rw [add_spot hs]; exact hu, ?_, ?_⟩
      · rw [add_spot hs]
        simp only
        have : l * sz + (c - l) * sz = c * sz := by rw [← Nat.add_mul]; congr 1; omega
        omega
      · rw [add_spot hs, hτ]
        simp only
        have : l * sz + (n - l) * sz = n * sz := by rw [← Nat.add_mul]; congr 1; omega
        congr 3
        omega

theorem built_array {t e : TypeId} {n : Nat} (hu : P.underlying t = some (.array n e)) {zero : List PV} (hz : zeroT P t = some zero) {sz : Nat} (hsz : sizeT P e = some sz) (H : Array Obj) :
    ∃ vs, VRs g H (zero.map AV.p) vs ∧ ∀ parts, P.built t parts = Instr.fill (fun i => some (i * sz, sz)) vs parts := by
  obtain ⟨i, z, hi, hz1, hv⟩ := vrs_zero (g := g) H hz
  obtain ⟨ie, d, hie, _, rfl⟩ := sizeT_spec hsz
  exact ⟨z.cells, hv, fun parts => by simp [Program.built, hi, hu, hz1, hie]⟩
theorem places_map : ∀ (fs : List Field), (fs.all fun f => (sizeT P f.type).isSome) = true → ∃ pl, fs.mapM (fun f => (P.info? f.type).map fun i => (f.offset, i.size)) = some pl ∧ ∀ (i : Nat) f n, fs[i]? = some f → sizeT P f.type = some n → pl[i]? = some (f.offset, n)
  | [], _ => ⟨[], rfl, fun i f n h => by simp at h⟩
  | f :: fs, h => by
    simp only [List.all_cons, Bool.and_eq_true] at h
    obtain ⟨pl, h1, h2⟩ := places_map fs h.2
    obtain ⟨n, hn⟩ := Option.isSome_iff_exists.1 h.1
    obtain ⟨i, d, hi, _, rfl⟩ := sizeT_spec hn
    refine ⟨(f.offset, i.size) :: pl, by simp [List.mapM_cons, hi, h1], fun j f' n' hj hn' => ?_⟩
    cases j with
    | zero =>
      simp at hj
      subst hj
      rw [hn] at hn'
      cases hn'
      rfl
    | succ j => simpa using h2 j f' n' (by simpa using hj) hn'
theorem built_struct {t : TypeId} {fs : Array Field} (hu : P.underlying t = some (.struct fs)) {zero : List PV} (hz : zeroT P t = some zero) (ha : (fs.toList.all fun f => (sizeT P f.type).isSome) = true) (H : Array Obj) :
    ∃ vs place, VRs g H (zero.map AV.p) vs ∧ (∀ (i : Nat) f n, fs[i]? = some f → sizeT P f.type = some n → place i = some (f.offset, n)) ∧ ∀ parts, P.built t parts = Instr.fill place vs parts := by
  obtain ⟨i, z, hi, hz1, hv⟩ := vrs_zero (g := g) H hz
  obtain ⟨pl, h1, h2⟩ := places_map fs.toList ha
  exact ⟨z.cells, (pl.toArray[·]?), hv, fun j f n hj hn => by simpa using h2 j f n (by simpa using hj) hn, fun parts => by simp [Program.built, hi, hu, hz1, h1]⟩

theorem parts_get {γ : Type} {F : Nat × Operand → Option γ} : ∀ {l : List (Nat × Operand)} {ps : List γ}, l.mapM F = some ps → ps.length = l.length ∧ ∀ (i : Nat) x q, l[i]? = some x → ps[i]? = some q → F x = some q
  | [], ps, h => by
    simp only [List.mapM_nil, pure, Option.some.injEq] at h
    subst h
    exact ⟨rfl, fun i x q h => by simp at h⟩
  | y :: l, ps, h => by
    simp only [List.mapM_cons, bind, Option.bind_eq_some_iff, pure, Option.some.injEq] at h
    obtain ⟨q0, hq0, r, hr, rfl⟩ := h
    obtain ⟨h1, h2⟩ := parts_get hr
    refine ⟨by simp [h1], fun i x q hx hq => ?_⟩
    cases i with
    | zero => simp at hx hq; subst hx; subst hq; exact hq0
    | succ i => exact h2 i x q (by simpa using hx) (by simpa using hq)

theorem build_parts (hS : RelS Γ N g w a env m) {zero : List PV} {vs : Array Value} (hv : VRs g w.heap (zero.map AV.p) vs) {place : Nat → Option (Nat × Nat)} {parts : Array (Nat × Operand)} {ps : List (Nat × Nat × X)}
    (hl : ps.length = parts.toList.length) (hps : ∀ (i : Nat) x q, parts.toList[i]? = some x → ps[i]? = some q → place x.1 = some (q.1, q.2.1) ∧ cX N x.2 = some q.2.2)
    (hc : (ps.all fun (off, n, x) => (x.ev Γ env).celled && (x.ev Γ env).cells.length == n && decide (off + n ≤ zero.length)) = true) :
    ∃ vs', Instr.fill place vs (parts.map fun (i, x) => (i, a.eval x)).toList = some vs' ∧ VRs g w.heap (fillA (zero.map AV.p) (ps.map fun (off, _, x) => (off, (x.ev Γ env).cells))) vs' := by
  refine fill_run place _ _ _ _ hv (by simp [hl]) (fun i p q hp hq => ?_)
  simp only [Array.toList_map, List.getElem?_map] at hp hq
  obtain ⟨x, hx, rfl⟩ := Option.map_eq_some_iff.1 hp
  obtain ⟨y, hy, rfl⟩ := Option.map_eq_some_iff.1 hq
  obtain ⟨off, n, z⟩ := y
  obtain ⟨h1, h2⟩ := hps i x _ hx hy
  have h3 := List.all_eq_true.1 hc _ (List.mem_of_getElem? hy)
  simp only [Bool.and_eq_true, beq_iff_eq, decide_eq_true_eq] at h3
  obtain ⟨⟨h4, h5⟩, h6⟩ := h3
  refine ⟨by simp only [h1, h5], vr_cells (cX_sound hS h2) (celled_or h4), by simp only [List.length_map, h5]; exact h6⟩
end
end Go.Shade
