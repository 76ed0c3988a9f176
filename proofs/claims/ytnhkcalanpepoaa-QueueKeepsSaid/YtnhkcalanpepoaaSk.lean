/- The operations that make memory. Own work. -/
import Derived.Test.YtnhkcalanpepoaaSj
namespace Go.Shade
open Go

section
variable {P : Program} {N : Nat} {Γ : Globs} {g : Gh} {w : World} {a : Act} {env : Nat → AV} {m : Mem} {o : Oper} {r : AV} {c : COp}

theorem mem_box (hS : RelS Γ N g w a env m) {t : TypeId} {x : Operand} {x' : X} (ho : o.op = .box t x) (hx : cX N x = some x') {nm : Nat} {m' : Mem} (hv : cmem Γ env m nm (.box x') = some (r, m')) :
    ∃ v g' w', Did P a w o v w' ∧ Out Γ g w m g' w' m' ∧ VR g' w'.heap r v := by
  simp only [cmem] at hv
  split at hv
  · rename_i hm
    split at hv
    · rename_i hc
      cases hv
      have hcv := vr_cells (cX_sound hS hx) (celled_or hc)
      have hout := hS.rel.newBox hm (x'.ev Γ env).cells (a.eval x).cells t (Nat.le_of_eq hcv.1) hcv.2 (w' := w.alloc (.cells (a.eval x).cells t)) rfl (sameW_alloc _ _)
      refine ⟨.pointer (some ⟨w.heap.size, 0, none⟩), _, _, .inl ?_, hout, .ptr (by simp)⟩
      unfold execOp
      simp only [ho]
      exact exec_val' (by simp [Instr.box, newVar, newRow])
    · cases hv
  · cases hv

theorem run_zeroT {t : TypeId} {zero : List PV} (hz : zeroT P t = some zero) (h : Array Obj) : ∃ z, (∀ W : World, (zeroValue t).run P W = .ok z W) ∧ VRs g h (zero.map AV.p) z.cells ∧ zero = z.cells.toList.map PV.s := by
  unfold zeroT at hz
  obtain ⟨i, hi, hz⟩ := Option.bind_eq_some_iff.1 hz
  obtain ⟨z, hz1, rfl⟩ := Option.map_eq_some_iff.1 hz
  refine ⟨z, fun W => by simp [zeroValue, typeInfo, hi, hz1], ⟨by simp, fun j a v ha hv => ?_⟩, rfl⟩
  simp only [List.map_map, List.getElem?_map, Array.getElem?_toList, hv, Option.map_some, Option.some.injEq, Function.comp] at ha
  subst ha
  exact .p (.s _)

theorem mem_alloc (hS : RelS Γ N g w a env m) {t : TypeId} {zero : List PV} (ho : o.op = .alloc t) (hz : zeroT P t = some zero) {nm : Nat} {m' : Mem} (hv : cmem Γ env m nm (.alloc zero) = some (r, m')) :
    ∃ v g' w', Did P a w o v w' ∧ Out Γ g w m g' w' m' ∧ VR g' w'.heap r v := by
  simp only [cmem] at hv
  split at hv
  · rename_i hm
    cases hv
    obtain ⟨z, hrun, hvs, _⟩ := run_zeroT (g := g) hz w.heap
    have hout := hS.rel.newBox hm (zero.map AV.p) z.cells t (Nat.le_of_eq hvs.1) hvs.2 (w' := w.alloc (.cells z.cells t)) rfl (sameW_alloc _ _)
    refine ⟨.pointer (some ⟨w.heap.size, 0, none⟩), _, _, .inl ?_, hout, .ptr (by simp)⟩
    unfold execOp
    simp only [ho]
    exact exec_val' (by simp [Instr.alloc, hrun, newVar, newRow])
  · cases hv

/-! ### Rows by value -/
/-- A list of cells that read. -/
def PL (U : Nat → Option Nat) (h : Array Obj) (ps : List PV) (vl : List Value) : Prop := ps.length = vl.length ∧ (∀ (i : Nat) p v, ps[i]? = some p → vl[i]? = some v → PR U h p v) ∧ ∀ v ∈ vl, v.oneCell' = true
theorem PL.append {U : Nat → Option Nat} {h : Array Obj} {ps qs : List PV} {vl ul : List Value} (hv : PL U h ps vl) (hu : PL U h qs ul) : PL U h (ps ++ qs) (vl ++ ul) := by
  refine ⟨by simp [hv.1, hu.1], fun i a v h1 h2 => ?_, fun v hm => ?_⟩
  · by_cases hi : i < ps.length
    · rw [List.getElem?_append_left hi] at h1
      rw [List.getElem?_append_left (by rw [← hv.1]; exact hi)] at h2
      exact hv.2.1 i a v h1 h2
    · rw [List.getElem?_append_right (by omega)] at h1
      rw [List.getElem?_append_right (by rw [← hv.1]; omega), ← hv.1] at h2
      exact hu.2.1 _ a v h1 h2
  · rcases List.mem_append.1 hm with h | h
    · exact hv.2.2 v h
    · exact hu.2.2 v h
theorem PL.take {U : Nat → Option Nat} {h : Array Obj} {cs : List PV} {vl : List Value} (hv : PL U h cs vl) (n : Nat) : PL U h (cs.take n) (vl.take n) := by
  refine ⟨by simp [hv.1], fun i a v h1 h2 => ?_, fun v hm => hv.2.2 v (List.mem_of_mem_take hm)⟩
  rw [List.getElem?_take] at h1 h2
  split at h1
  · rename_i hi
    rw [if_pos hi] at h2
    exact hv.2.1 i a v h1 h2
  · cases h1
theorem PL.drop {U : Nat → Option Nat} {h : Array Obj} {cs : List PV} {vl : List Value} (hv : PL U h cs vl) (n : Nat) : PL U h (cs.drop n) (vl.drop n) := by
  refine ⟨by simp [hv.1], fun i a v h1 h2 => ?_, fun v hm => hv.2.2 v (List.mem_of_mem_drop hm)⟩
  rw [List.getElem?_drop] at h1 h2
  exact hv.2.1 _ a v h1 h2
theorem PL.mono {U U' : Nat → Option Nat} {h h' : Array Obj} {cs : List PV} {vl : List Value} (hv : PL U h cs vl) (hb : Pers U h U' h') : PL U' h' cs vl := ⟨hv.1, fun i a v h1 h2 => (hv.2.1 i a v h1 h2).mono hb, hv.2.2⟩
/-- What lies in a block reads as a slice. -/
theorem PL.slice {U : Nat → Option Nat} {h : Array Obj} {sz : Nat} {xs : List (List PV)} {vl : List Value} (hv : PL U h xs.flatten vl) (hsz : ∀ x ∈ xs, x.length = sz) {ad : Addr} {vs : Array Value} {T : TypeId} {fr : Nat × Nat} {u c : Nat}
    (hs : ad.spot = none) (hh : h[ad.block]? = some (.cells vs T fr)) (hu : U ad.block = some u) (hle : ad.off + xs.length * sz ≤ u) (hc : xs.length ≤ c) (hm : xs.length ≤ 281474976710656) (hcm : c ≤ maxLen)
    (hat : ∀ j, j < xs.length * sz → vs[ad.off + j]? = vl[j]?) : PR U h (.sl sz xs) (.slice (some ad) xs.length c) := by
  have hfl := flatten_length hsz
  refine .sl (fun j => vl.getD j default) rfl hc hm hcm hsz (fun _ => ⟨ad, vs, T, fr, u, rfl, hs, hh, hu, by rw [hfl]; exact hle, fun j hj => ?_⟩) (fun j p hj => ?_)
  · have hjl : j < vl.length := by rw [← hv.1]; exact hj
    have hd : vl.getD j default = vl[j] := by rw [List.getD_eq_getElem?_getD, List.getElem?_eq_getElem hjl]; rfl
    simp only [hd]
    rw [hat j (by rw [← hfl]; exact hj), List.getElem?_eq_getElem hjl]
    exact ⟨rfl, hv.2.2 _ (List.getElem_mem hjl)⟩
  · have hjl : j < vl.length := by rw [← hv.1]; exact (List.getElem?_eq_some_iff.1 hj).1
    exact hv.2.1 j p _ hj (by rw [List.getD_eq_getElem?_getD, List.getElem?_eq_getElem hjl]; rfl)
/-- A slice's cells. -/
theorem pr_cells {U : Nat → Option Nat} {h : Array Obj} {sz : Nat} {xs : List (List PV)} {A : Option Addr} {n c : Nat} (hp : PR U h (.sl sz xs) (.slice A n c)) :
    ∃ vl, PL U h xs.flatten vl ∧ xs.length = n ∧ n ≤ c ∧ n ≤ 281474976710656 ∧ c ≤ maxLen ∧ (∀ x ∈ xs, x.length = sz) ∧ (0 < n * sz → ∃ ad vs T fr u, A = some ad ∧ ad.spot = none ∧ h[ad.block]? = some (.cells vs T fr) ∧ U ad.block = some u ∧ ad.off + n * sz ≤ u ∧ ∀ j, j < n * sz → vs[ad.off + j]? = vl[j]?) := by
  cases hp with
  | sl f hn hc hm hcm hsz hpl hr =>
    have hfl := flatten_length hsz
    rw [hn] at hfl
    refine ⟨(List.range (n * sz)).map f, ⟨by rw [hfl]; simp, fun i p v h1 h2 => ?_, fun v hv => ?_⟩, hn, hc, hm, hcm, hsz, fun h0 => ?_⟩
    · have hi : i < n * sz := by rw [← hfl]; exact (List.getElem?_eq_some_iff.1 h1).1
      simp [hi] at h2
      subst h2
      exact hr i p h1
    · obtain ⟨i, hi, rfl⟩ := List.mem_map.1 hv
      rw [List.mem_range] at hi
      obtain ⟨_, _, _, _, _, _, _, _, _, _, hv⟩ := hpl (by omega)
      exact (hv i (by omega)).2
    · obtain ⟨ad, vs, T, fr, u, h1, h2, h3, h4, h5, h6⟩ := hpl (by omega)
      exact ⟨ad, vs, T, fr, u, h1, h2, h3, h4, by omega, fun j hj => by simp [hj, (h6 j (by omega)).1]⟩

theorem setEls_spec {sz : Nat} : ∀ (ps : List (Nat × List PV)) (xs : List (List PV)), (∀ x ∈ xs, x.length = sz) → (∀ p ∈ ps, p.2.length = sz ∧ p.1 < xs.length) →
    (setEls xs ps).length = xs.length ∧ (∀ x ∈ setEls xs ps, x.length = sz) ∧ (setEls xs ps).flatten.map AV.p = fillA (xs.flatten.map AV.p) (ps.map fun p => (p.1 * sz, p.2.map AV.p))
  | [], xs, h, _ => ⟨rfl, h, rfl⟩
  | (i, l) :: ps, xs, h, hp => by
    obtain ⟨hl, hi⟩ := hp (i, l) (by simp)
    simp only at hl hi
    have hx' : ∀ x ∈ xs.set i l, x.length = sz := fun x hx => by
      rcases List.mem_or_eq_of_mem_set hx with h' | h'
      · exact h x h'
      · rw [h']; exact hl
    obtain ⟨h1, h2, h3⟩ := setEls_spec ps (xs.set i l) hx' (fun p hpp => by
      obtain ⟨k1, k2⟩ := hp p (by simp [hpp])
      exact ⟨k1, by simpa using k2⟩)
    refine ⟨by rw [setEls, h1]; simp, by rw [setEls]; exact h2, ?_⟩
    rw [setEls, h3, List.map_cons, fillA]
    congr 1
    have hset : xs.set i l = xs.take i ++ l :: xs.drop (i + 1) := by
      apply List.ext_getElem?
      intro j
      rw [List.getElem?_set]
      by_cases hj : i = j
      · subst hj
        rw [if_pos rfl, if_pos hi, List.getElem?_append_right (by simp; omega), List.length_take, Nat.min_eq_left (by omega), Nat.sub_self]
        rfl
      · rw [if_neg hj]
        by_cases hj' : j < i
        · rw [List.getElem?_append_left (by simp; omega), List.getElem?_take, if_pos hj']
        · rw [List.getElem?_append_right (by simp; omega), List.length_take, Nat.min_eq_left (by omega), show j - i = (j - i - 1) + 1 by omega, List.getElem?_cons_succ, List.getElem?_drop]
          congr 1
          omega
    rw [hset, List.flatten_append, List.flatten_cons, flatten_take i h, flatten_drop (i + 1) h, List.map_append, List.map_append, List.map_take, List.map_drop]
    simp only [List.length_map, hl]
    rw [show (i + 1) * sz = i * sz + sz by rw [Nat.add_mul, Nat.one_mul], List.append_assoc]

theorem fillA_toPV {cs : List AV} {ps : List PV} (hp : toPVs cs = some ps) : cs.length = ps.length := (toPVs_get hp).1.symm

/-- Parts that are laid: as values, as cells. -/
theorem vrs_toPL {h : Array Obj} {cs : List AV} {vs : Array Value} {ps : List PV} (hv : VRs g h cs vs) (hp : toPVs cs = some ps) (h1 : ps.all PV.oneCell = true) : PL g.U h ps vs.toList := by
  obtain ⟨h2, h3⟩ := vrs_toPVs hv hp
  refine ⟨by rw [Array.length_toList]; exact h2, fun i p v ha hb => h3 i p v ha (by simpa using hb), fun v hm => ?_⟩
  obtain ⟨i, hi⟩ := List.mem_iff_getElem?.1 hm
  have hlt : i < ps.length := by rw [h2]; have := (List.getElem?_eq_some_iff.1 hi).1; simpa using this
  exact pr_oneCell (h3 i _ v (List.getElem?_eq_getElem hlt) (by simpa using hi)) (List.all_eq_true.1 h1 _ (List.getElem_mem hlt))

theorem PL.vrs {h : Array Obj} {ps : List PV} {vs : Array Value} (hp : PL g.U h ps vs.toList) : VRs g h (ps.map AV.p) vs := by
  refine ⟨by simpa using hp.1, fun i b v hb hv => ?_⟩
  rw [List.getElem?_map] at hb
  obtain ⟨p, hpi, rfl⟩ := Option.map_eq_some_iff.1 hb
  exact .p (hp.2.1 i p v hpi (by simpa using hv))
theorem vrs_pl {h : Array Obj} {ps : List PV} {vs : Array Value} (hv : VRs g h (ps.map AV.p) vs) (h1 : ps.all PV.oneCell = true) : PL g.U h ps vs.toList := by
  refine vrs_toPL hv ?_ h1
  clear hv h1
  induction ps with
  | nil => rfl
  | cons p ps ih =>
    simp only [toPVs] at ih
    simp [toPVs, List.mapM_cons, ih, AV.toPV]

theorem all_setEls {sz : Nat} : ∀ (ps : List (Nat × List PV)) (xs : List (List PV)), (∀ x ∈ xs, x.all PV.oneCell = true) → (∀ p ∈ ps, p.2.all PV.oneCell = true) → ∀ x ∈ setEls xs ps, x.all PV.oneCell = true
  | [], xs, h, _ => h
  | (i, l) :: ps, xs, h, hp => all_setEls (sz := sz) ps _ (fun x hx => by
      rcases List.mem_or_eq_of_mem_set hx with h' | h'
      · exact h x h'
      · rw [h']; exact hp (i, l) (by simp)) (fun p hpp => hp p (by simp [hpp]))

theorem mem_bslice (hS : RelS Γ N g w a env m) {t e : TypeId} {len sz : Nat} {parts : Array (Nat × Operand)} {zero : List PV} {ps : List (Nat × X)} (ho : o.op = .buildSlice t len parts) (hu : P.underlying t = some (.slice e)) (hsz : sizeT P e = some sz)
    (hz : zeroT P e = some zero) (h24 : ¬ len * sz > 16777216) (hps : parts.toList.mapM (fun (i, x) => do pure (i, ← cX N x)) = some ps) {nm : Nat} {m' : Mem} (hv : cmem Γ env m nm (.bslice sz len zero ps) = some (r, m')) :
    ∃ v g' w', Did P a w o v w' ∧ Out Γ g w m g' w' m' ∧ VR g' w'.heap r v := by
  simp only [cmem] at hv
  split at hv
  · rename_i qs hm hqs
    split at hv
    · rename_i hc
      cases hv
      simp only [Bool.and_eq_true, List.all_eq_true, beq_iff_eq, decide_eq_true_eq] at hc
      obtain ⟨⟨⟨⟨hce, hq⟩, hzl⟩, hz1⟩, hlen⟩ := hc
      obtain ⟨z, hzrun, hzv, hzz⟩ := run_zeroT (g := g) hz w.heap
      obtain ⟨hl, hget⟩ := parts_get hps
      -- the elements as they are told
      have hqlen : qs.length = ps.length ∧ ∀ (i : Nat) p q, ps[i]? = some p → qs[i]? = some q → q.1 = p.1 ∧ toPVs (p.2.ev Γ env).cells = some q.2 := by
        clear hl hget hps hce hq ho
        induction ps generalizing qs with
        | nil =>
          simp only [List.mapM_nil, pure, Option.some.injEq] at hqs
          subst hqs
          exact ⟨rfl, fun i p q h => by simp at h⟩
        | cons p ps ih =>
          simp only [List.mapM_cons, bind, Option.bind_eq_some_iff, pure, Option.some.injEq] at hqs
          obtain ⟨q0, hq0, qr, hqr, rfl⟩ := hqs
          obtain ⟨l0, hl0, rfl⟩ := Option.map_eq_some_iff.1 hq0
          obtain ⟨k1, k2⟩ := ih qr hqr
          refine ⟨by simp [k1], fun i p' q hp' hq' => ?_⟩
          cases i with
          | zero => simp at hp' hq'; subst hp'; subst hq'; exact ⟨rfl, hl0⟩
          | succ i => exact k2 i p' q (by simpa using hp') (by simpa using hq')
      have hrep : ∀ x ∈ List.replicate len zero, x.length = sz := fun x hx => by rw [List.eq_of_mem_replicate hx]; exact hzl
      have hqsz : ∀ p ∈ qs, p.2.length = sz ∧ p.1 < (List.replicate len zero).length := fun p hp => by
        have := hq p hp
        simp only [List.length_replicate]
        exact ⟨this.1.1, this.2⟩
      obtain ⟨s1, s2, s3⟩ := setEls_spec qs _ hrep hqsz
      -- the model's row of noughts
      have hsz0 : z.cells.size = sz := by rw [← hzl, hzz]; simp
      have hzero : VRs g w.heap ((List.replicate len zero).flatten.map AV.p) ((Array.range (len * sz)).map (z.cells[· % z.cells.size]!)) := by
        have hfl := flatten_length hrep
        rw [List.length_replicate] at hfl
        refine ⟨by simp only [List.length_map, Array.size_map, Array.size_range]; exact hfl, fun i b v hb hv => ?_⟩
        have hi : i < len * sz := by
          have h := (List.getElem?_eq_some_iff.1 hb).1
          rw [List.length_map, hfl] at h
          exact h
        have hs0 : 0 < sz := by
          rcases Nat.eq_zero_or_pos sz with h | h
          · subst h; simp at hi
          · exact h
        have hmod : i % sz < sz := Nat.mod_lt _ hs0
        have hd : i / sz < len := by rw [Nat.div_lt_iff_lt_mul hs0]; exact hi
        have hbi : (List.replicate len zero).flatten[i]? = zero[i % sz]? := by
          have h5 := flatten_at hrep (i := i / sz) (by simpa using hd) []
          have h6 : (List.replicate len zero).getD (i / sz) [] = zero := by
            rw [List.getD_eq_getElem?_getD, List.getElem?_replicate, if_pos hd]; rfl
          rw [h6] at h5
          have h7 : zero[i % sz]? = (((List.replicate len zero).flatten.drop (i / sz * sz)).take sz)[i % sz]? := congrArg (fun l : List PV => l[i % sz]?) h5
          rw [h7, List.getElem?_take, if_pos hmod, List.getElem?_drop, Nat.mul_comm, Nat.div_add_mod]
        rw [List.getElem?_map, hbi, hzz] at hb
        simp only [List.getElem?_map, Array.getElem?_toList] at hb
        rw [Array.getElem?_map, Array.getElem?_range, if_pos hi] at hv
        simp only [Option.map_some, Option.some.injEq, hsz0] at hv
        rw [getElem!_pos z.cells _ (by rw [hsz0]; exact hmod)] at hv
        rw [Array.getElem?_eq_getElem (by rw [hsz0]; exact hmod)] at hb
        simp at hb
        subst hb; subst hv
        exact .p (.s _)
      obtain ⟨vs', hfill, hvs'⟩ := fill_run (h := w.heap) (g := g) (fun i => some (i * sz, sz)) (parts.map fun (i, x) => (i, a.eval x)).toList (qs.map fun p => (p.1 * sz, p.2.map AV.p)) _ _ hzero (by simp [hqlen.1, hl]) (fun i p q hp hq' => by
        simp only [Array.toList_map, List.getElem?_map] at hp hq'
        obtain ⟨x, hx, rfl⟩ := Option.map_eq_some_iff.1 hp
        obtain ⟨q0, hq0, rfl⟩ := Option.map_eq_some_iff.1 hq'
        have hip : i < ps.length := by rw [← hqlen.1]; exact (List.getElem?_eq_some_iff.1 hq0).1
        obtain ⟨k1, k2⟩ := hqlen.2 i _ q0 (List.getElem?_eq_getElem hip) hq0
        have k3 := hget i x _ hx (List.getElem?_eq_getElem hip)
        obtain ⟨xi, xo⟩ := x
        simp only [bind, Option.bind_eq_some_iff, pure, Option.some.injEq] at k3
        obtain ⟨y, hy, hpe⟩ := k3
        obtain ⟨k4, k5⟩ := hqsz q0 (List.mem_of_getElem? hq0)
        have k6 : ps[i].1 = xi ∧ ps[i].2 = y := by rw [← hpe]; exact ⟨rfl, rfl⟩
        rw [k6.1] at k1
        rw [k6.2] at k2
        have hcell := vr_cells (cX_sound hS hy) (celled_or (by have := hce _ (List.getElem_mem hip); rwa [k6.2] at this))
        refine ⟨by simp [k1, k4], ?_, ?_⟩
        · exact (vrs_toPL hcell k2 (by have := hq q0 (List.mem_of_getElem? hq0); exact List.all_eq_true.2 this.1.2)).vrs
        · simp only [List.length_map, k4]
          rw [flatten_length hrep, ← Nat.succ_mul]
          exact Nat.mul_le_mul_right _ k5)
      rw [← s3] at hvs'
      have hall1 : (setEls (List.replicate len zero) qs).flatten.all PV.oneCell = true := by
        rw [List.all_flatten]
        refine List.all_eq_true.2 (fun x hx => all_setEls (sz := sz) qs _ (fun y hy => ?_) (fun p hp => ?_) x hx)
        · rw [List.eq_of_mem_replicate hy]; exact List.all_eq_true.2 hz1
        · exact List.all_eq_true.2 (hq p hp).1.2
      have hpl := vrs_pl hvs' hall1
      have hflat := flatten_length s2
      rw [s1, List.length_replicate] at hflat
      have hvsz : vs'.size = len * sz := by rw [← hvs'.1]; simp only [List.length_map]; exact hflat
      have hout := hS.rel.newTok hm vs' e (len * sz) (by rw [hvsz]; exact Nat.le_refl _) (w' := w.alloc (.cells vs' e)) rfl (sameW_alloc _ _)
      refine ⟨.slice (some ⟨w.heap.size, 0, none⟩) len len, _, _, .inl ?_, hout, ?_⟩
      · unfold execOp
        simp only [ho]
        refine exec_val' ?_
        simp only [Instr.buildSlice, Sem.run_bind, run_underlying hu, Result.andThen_ok, run_sizeOf hsz, if_neg h24]
        by_cases h0 : len * sz = 0
        · have he0 : ((Array.range (len * sz)).map (z.cells[· % z.cells.size]!)) = ((Array.range (len * sz)).map ((#[] : Array Value)[· % (#[] : Array Value).size]!)) := by rw [h0]; simp
          rw [he0] at hfill
          rw [if_pos h0]
          simp only [Sem.run_bind, Sem.run_pure, Result.andThen_ok]
          rw [hfill]
          simp [newRow]
        · rw [if_neg h0]
          simp only [Sem.run_bind, hzrun, Result.andThen_ok, Sem.run_pure]
          rw [hfill]
          simp [newRow]
      · have hlx : (setEls (List.replicate len zero) qs).length = len := by rw [s1]; simp
        have hps := (hpl.mono hout.st.pers).slice s2 (ad := ⟨w.heap.size, 0, none⟩) (vs := vs') (T := e) (fr := (0, 0)) (u := len * sz) (c := len) rfl (push_new) (by simp) (by rw [hlx]; simp) (by rw [hlx]; exact Nat.le_refl _) (by rw [hlx]; exact hlen) (by simp only [maxLen]; omega) (fun j _ => by simp)
        rw [hlx] at hps
        exact .own hps (.inr ⟨⟨w.heap.size, 0, none⟩, vs', e, (0, 0), len * sz, rfl, rfl, push_new, by simp, by simp [hvsz], by simp⟩)
    · cases hv
  · cases hv
end
end Go.Shade
