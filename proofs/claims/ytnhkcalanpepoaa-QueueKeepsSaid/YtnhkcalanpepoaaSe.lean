/- The quiet operations do what 'cpure' says: operation by operation. Own work. -/
import Derived.Test.YtnhkcalanpepoaaSd
import Derived.Laws.StructEq
import Derived.Laws.Tables
import Derived.Deep.MidRow
import Derived.Laws.BytesString
namespace Go.Shade
open Go

section
variable {P : Program} {N : Nat} {Γ : Globs} {g : Gh} {w : World} {a : Act} {env : Nat → AV} {m : Mem} {o : Oper} {r : AV}

def Does (P : Program) (a : Act) (w : World) (o : Oper) (v : Value) : Prop := (execOp a.eval o).run P w = .ok (.value v) w

theorem does_v {s : Sem Value} {v : Value} (he : execOp a.eval o = (do pure (.value (← s)))) (hs : s.run P w = .ok v w) : Does P a w o v := by
  unfold Does
  rw [he, Sem.run_bind, hs]
  rfl

theorem abin_run {op : BinOp} {t : TypeId} {x y : Operand} {v u r' : Value} (h : abin op v u = some r') :
    (do eqGuard op t x y v u; binOp op t v u : Sem Value).run P w = .ok r' w := by
  unfold abin at h
  split at h
  · rename_i k n k' n'
    have hg : eqGuard op t x y (.int k n) (.int k' n') = pure () := by
      unfold eqGuard
      cases op <;> rfl
    rw [hg]
    simp only [Sem.run_bind, Sem.run_pure, Result.andThen_ok]
    split at h
    · split at h
      · cases h
      · rename_i hb; cases h; simp [binOp, Op.shift, hb]
    · split at h
      · cases h
      · rename_i hb; cases h; simp [binOp, Op.shift, hb]
    · rename_i h1 h2
      split at h
      · cases h
      · rename_i hk
        have hk' : k = k' := Classical.byContradiction hk
        subst hk'
        cases op <;> simp at h
        all_goals first | exact absurd rfl h1 | exact absurd rfl h2 | skip
        case add => subst h; simp [binOp, Op.intArith]
        case sub => subst h; simp [binOp, Op.intArith]
        case mul => subst h; simp [binOp, Op.intArith]
        case quo => obtain ⟨h0, rfl⟩ := h; simp [binOp, Op.intDiv, h0]
        case rem => obtain ⟨h0, rfl⟩ := h; simp [binOp, Op.intDiv, h0]
        case and => subst h; simp [binOp, Op.intBits]
        case or => subst h; simp [binOp, Op.intBits]
        case xor => subst h; simp [binOp, Op.intBits]
        case andNot => subst h; simp [binOp, Op.intBits]
        case eql => subst h; simp [binOp, Op.intCmp]
        case neq => subst h; simp [binOp, Op.intCmp]
        case lss => subst h; simp [binOp, Op.intCmp]
        case leq => subst h; simp [binOp, Op.intCmp]
        case gtr => subst h; simp [binOp, Op.intCmp]
        case geq => subst h; simp [binOp, Op.intCmp]
  · rename_i s1 s2
    have hg : eqGuard op t x y (.string s1) (.string s2) = pure () := by
      unfold eqGuard
      cases op <;> rfl
    rw [hg]
    simp only [Sem.run_bind, Sem.run_pure, Result.andThen_ok]
    cases op <;> simp at h
    case eql => subst h; simp [binOp, Op.stringOp]
    case neq => subst h; simp [binOp, Op.stringOp]
    case add =>
      obtain ⟨h1, rfl⟩ := h
      have : ((s1.size : Int) + s2.size) ≤ 9223372036854775807 := by omega
      simp [binOp, Op.stringOp, this]
  · cases h

theorem beq_run {op : BinOp} {t : TypeId} {x y : Operand} {b c : Bool} (hop : op = .eql ∨ op = .neq) (hu : P.underlying t = some .bool) :
    (do eqGuard op t x y (.bool b) (.bool c); binOp op t (.bool b) (.bool c) : Sem Value).run P w = .ok (.bool (if op == .neq then !(b == c) else b == c)) w := by
  have hg : eqGuard op t x y (.bool b) (.bool c) = pure () := by
    unfold eqGuard
    rcases hop with rfl | rfl <;> rfl
  have he : (Op.equal t (.bool b) (.bool c)).run P w = .ok (b == c) w := run_equalIn_bool' w 9999 t b c hu
  rw [hg]
  rcases hop with rfl | rfl <;> simp [binOp, he]

theorem aun_run {op : UnOp} {v r' : Value} (h : aun op v = some r') : (Op.unary op v).run P w = .ok r' w := by
  unfold aun at h
  split at h
  · cases op <;> simp at h
    subst h
    simp [Op.unary]
  · cases op <;> simp at h
    subst h
    simp [Op.unary, Op.intArith]
  · cases h

/-! ### A part of an aggregate -/
theorem sizeT_spec {t : TypeId} {n : Nat} (h : sizeT P t = some n) : ∃ i d, P.info? t = some i ∧ P.underlying t = some d ∧ i.size = n := by
  unfold sizeT at h
  split at h
  · rename_i i d hi hd
    cases h
    exact ⟨i, d, hi, hd, rfl⟩
  · cases h
theorem run_isAgg {t : TypeId} {d : TypeDesc} (hu : P.underlying t = some d) (W : World) : (isAgg t).run P W = .ok (isAggT P t) W := by
  unfold isAgg isAggT
  rw [Sem.run_bind, run_underlying hu W, hu]
  cases d <;> rfl
theorem run_sizeOf {t : TypeId} {n : Nat} (hn : sizeT P t = some n) (W : World) : (sizeOf t).run P W = .ok n W := by
  obtain ⟨i, d, hi, _, rfl⟩ := sizeT_spec hn
  simp [sizeOf, typeInfo, hi]
theorem vr_agg_sub {h : Array Obj} {cs : List AV} {vs : Array Value} (hl : cs.length ≤ vs.size) (hr : ∀ (i : Nat) (a : AV) (v : Value), cs[i]? = some a → vs[i]? = some v → VR g h a v)
    {off n : Nat} (hle : off + n ≤ cs.length) : VR g h (.agg ((cs.drop off).take n)) (.agg (vs.extract off (off + n))) := by
  refine .agg (by simp; omega) (fun i a v h1 h2 => ?_)
  rw [List.getElem?_take] at h1
  split at h1
  · rw [List.getElem?_drop] at h1
    rw [Array.getElem?_extract] at h2
    split at h2
    · exact hr (off + i) a v h1 h2
    · cases h2
  · cases h1
theorem part_run {t : TypeId} {n : Nat} (hn : sizeT P t = some n) {cs : List AV} {vs : Array Value} (hl : cs.length = vs.size) (hr : ∀ (i : Nat) (a : AV) (v : Value), cs[i]? = some a → vs[i]? = some v → VR g w.heap a v)
    {off : Nat} (h : subA (isAggT P t) cs off n = some r) : ∃ v, (part t vs off).run P w = .ok v w ∧ VR g w.heap r v := by
  obtain ⟨i, d, hi, hd, rfl⟩ := sizeT_spec hn
  have h1 := run_isAgg hd w
  unfold subA at h
  cases hb : isAggT P t with
  | true =>
    rw [hb] at h h1
    simp only [if_true] at h
    split at h
    · rename_i hle
      cases h
      exact ⟨_, by simp [part, Sem.run_bind, h1, run_sizeOf hn w], vr_agg_sub (Nat.le_of_eq hl) hr hle⟩
    · cases h
  | false =>
    rw [hb] at h h1
    simp only [Bool.false_eq_true, if_false] at h
    have hlt : off < vs.size := by rw [← hl]; exact (List.getElem?_eq_some_iff.1 h).1
    refine ⟨vs[off], ?_, hr off r _ h (Array.getElem?_eq_getElem hlt)⟩
    simp [part, Sem.run_bind, h1, Array.getElem?_eq_getElem hlt]

/-! ### Building an aggregate -/
theorem fillA_length : ∀ (ps : List (Nat × List AV)) (cs : List AV), (∀ p ∈ ps, p.1 + p.2.length ≤ cs.length) → (fillA cs ps).length = cs.length
  | [], _, _ => rfl
  | (off, l) :: r, cs, h => by
    have h0 := h (off, l) (by simp)
    simp only at h0
    have hl : (cs.take off ++ l ++ cs.drop (off + l.length)).length = cs.length := by simp; omega
    rw [fillA, fillA_length r _ (fun p hp => by rw [hl]; exact h p (by simp [hp])), hl]

def VRs (g : Gh) (h : Array Obj) (cs : List AV) (vs : Array Value) : Prop := cs.length = vs.size ∧ ∀ (i : Nat) (a : AV) (v : Value), cs[i]? = some a → vs[i]? = some v → VR g h a v

/-- Cells laid over others, as the model lays them. -/
theorem over_get (off : Nat) : ∀ (l : List Value) (s : Nat) (vs : Array Value), off + s + l.length ≤ vs.size →
    ((l.zipIdx s).foldl (fun cs (x : Value × Nat) => cs.setIfInBounds (off + x.2) x.1) vs).size = vs.size ∧
    ∀ i, ((l.zipIdx s).foldl (fun cs (x : Value × Nat) => cs.setIfInBounds (off + x.2) x.1) vs)[i]? = if off + s ≤ i ∧ i < off + s + l.length then l[i - (off + s)]? else vs[i]?
  | [], s, vs, _ => ⟨rfl, fun i => by rw [if_neg (by simp only [List.length_nil]; omega)]; rfl⟩
  | v :: l, s, vs, h => by
    simp only [List.length_cons] at h
    have hsz : (vs.setIfInBounds (off + s) v).size = vs.size := by simp
    obtain ⟨h1, h2⟩ := over_get off l (s + 1) (vs.setIfInBounds (off + s) v) (by rw [hsz]; omega)
    refine ⟨by rw [List.zipIdx_cons, List.foldl_cons]; exact h1.trans hsz, fun i => ?_⟩
    rw [List.zipIdx_cons, List.foldl_cons]
    refine (h2 i).trans ?_
    by_cases hi : off + (s + 1) ≤ i ∧ i < off + (s + 1) + l.length
    · rw [if_pos hi, if_pos (by simp only [List.length_cons]; omega), show i - (off + s) = (i - (off + (s + 1))) + 1 by omega, List.getElem?_cons_succ]
    · rw [if_neg hi]
      by_cases hi' : i = off + s
      · subst hi'
        rw [if_pos (by simp only [List.length_cons]; omega), Array.getElem?_setIfInBounds_self_of_lt (by omega)]
        simp
      · rw [if_neg (by simp only [List.length_cons]; omega), Array.getElem?_setIfInBounds_ne (Ne.symm hi')]

theorem vrs_over {h : Array Obj} {cs : List AV} {vs : Array Value} (hv : VRs g h cs vs) {off : Nat} {l : List AV} {lv : Array Value} (hl : VRs g h l lv) (hle : off + l.length ≤ cs.length) :
    VRs g h (cs.take off ++ l ++ cs.drop (off + l.length)) (lv.zipIdx.foldl (fun cs (x : Value × Nat) => cs.setIfInBounds (off + x.2) x.1) vs) := by
  have e : lv.zipIdx.foldl (fun cs (x : Value × Nat) => cs.setIfInBounds (off + x.2) x.1) vs = (lv.toList.zipIdx 0).foldl (fun cs (x : Value × Nat) => cs.setIfInBounds (off + x.2) x.1) vs := by
    rw [← Array.foldl_toList, Array.toList_zipIdx]
  have hll : lv.toList.length = l.length := by rw [Array.length_toList]; exact hl.1.symm
  obtain ⟨h1, h2⟩ := over_get off lv.toList 0 vs (by rw [hll, ← hv.1]; omega)
  rw [e]
  refine ⟨by rw [h1, ← hv.1]; simp; omega, fun i a v ha hvv => ?_⟩
  rw [h2 i, hll] at hvv
  by_cases hi : off + 0 ≤ i ∧ i < off + 0 + l.length
  · rw [if_pos hi] at hvv
    rw [List.append_assoc, List.getElem?_append_right (by simp; omega), List.length_take, Nat.min_eq_left (by omega), List.getElem?_append_left (by omega)] at ha
    exact hl.2 (i - off) a v ha (by simpa using hvv)
  · rw [if_neg hi] at hvv
    by_cases hlt : i < off
    · rw [List.append_assoc, List.getElem?_append_left (by simp; omega), List.getElem?_take, if_pos hlt] at ha
      exact hv.2 i a v ha hvv
    · rw [List.getElem?_append_right (by simp; omega), List.getElem?_drop] at ha
      refine hv.2 i a v ?_ hvv
      rw [← ha]
      congr 1
      simp
      omega

theorem vr_cells {h : Array Obj} {b : AV} {v : Value} (hr : VR g h b v) (hj : b.oneCell = true ∨ ∃ cs, b = .agg cs) : VRs g h b.cells v.cells := by
  rcases hj with hj | ⟨cs, rfl⟩
  · have h1 : v.cells = #[v] := by
      cases hr with
      | p hr => cases hr with
        | s v => cases v <;> simp [AV.oneCell, Value.oneCell'] at hj <;> rfl
        | sl => rfl
      | own => rfl
      | agg => simp [AV.oneCell] at hj
      | tup => simp [AV.oneCell] at hj
      | ptr => rfl
      | cptr => rfl
      | fn => rfl
      | bsl => rfl
      | cmap => rfl
      | junk => simp [AV.oneCell] at hj
    have h2 : b.cells = [b] := by cases b <;> first | rfl | simp [AV.oneCell] at hj
    rw [h1, h2]
    refine ⟨rfl, fun i a v' ha hv => ?_⟩
    cases i with
    | zero => simp at ha hv; subst ha; subst hv; exact hr
    | succ i => simp at ha
  · cases hr with
    | agg hl hr => exact ⟨hl, hr⟩

theorem celled_or {b : AV} (h : b.celled = true) : b.oneCell = true ∨ ∃ cs, b = .agg cs := by
  unfold AV.celled at h
  rcases Bool.or_eq_true _ _ ▸ h with h | h
  · exact .inl h
  · cases b <;> simp at h
    exact .inr ⟨_, rfl⟩

theorem fill_run {h : Array Obj} (place : Nat → Option (Nat × Nat)) : ∀ (parts : List (Nat × Value)) (ps : List (Nat × List AV)) (cs : List AV) (vs : Array Value), VRs g h cs vs →
    parts.length = ps.length → (∀ (i : Nat) p q, parts[i]? = some p → ps[i]? = some q → place p.1 = some (q.1, q.2.length) ∧ VRs g h q.2 p.2.cells ∧ q.1 + q.2.length ≤ cs.length) →
    ∃ vs', Instr.fill place vs parts = some vs' ∧ VRs g h (fillA cs ps) vs'
  | [], ps, cs, vs, hv, hl, _ => by
    have : ps = [] := List.eq_nil_of_length_eq_zero (by simpa using hl.symm)
    subst this
    exact ⟨vs, rfl, hv⟩
  | (i, v) :: parts, ps, cs, vs, hv, hl, hall => by
    cases ps with
    | nil => simp at hl
    | cons q ps =>
      obtain ⟨off, l⟩ := q
      obtain ⟨h1, h2, h3⟩ := hall 0 (i, v) (off, l) rfl rfl
      simp only at h1 h2 h3
      have hov := vrs_over hv h2 h3
      have hlen : (cs.take off ++ l ++ cs.drop (off + l.length)).length = cs.length := by simp; omega
      obtain ⟨vs', h4, h5⟩ := fill_run place parts ps _ _ hov (by simpa using hl) (fun j p q hp hq => by
        obtain ⟨k1, k2, k3⟩ := hall (j + 1) p q hp hq
        exact ⟨k1, k2, by rw [hlen]; exact k3⟩)
      refine ⟨vs', ?_, by rw [fillA]; exact h5⟩
      have hs : v.cells.size = l.length := h2.1.symm
      have hs2 : vs.size = cs.length := hv.1.symm
      rw [Instr.fill, h1]
      simp only [hs, hs2, ne_eq, not_true_eq_false, decide_false, Bool.false_or, decide_eq_true_eq, gt_iff_lt]
      rw [if_neg (by omega)]
      exact h4

theorem vrs_zero (h : Array Obj) {t : TypeId} {zero : List PV} (hz : zeroT P t = some zero) : ∃ i z, P.info? t = some i ∧ i.zero = some z ∧ VRs g h (zero.map AV.p) z.cells := by
  unfold zeroT at hz
  obtain ⟨i, hi, hz⟩ := Option.bind_eq_some_iff.1 hz
  obtain ⟨z, hz1, rfl⟩ := Option.map_eq_some_iff.1 hz
  refine ⟨i, z, hi, hz1, by simp, fun j a v ha hv => ?_⟩
  simp only [List.map_map, List.getElem?_map, Array.getElem?_toList, hv, Option.map_some, Option.some.injEq, Function.comp] at ha
  subst ha
  exact .p (.s _)

theorem vr_ptr {b off : Nat} {v : Value} (h : VR g w.heap (.ptr b off) v) : ∃ k, g.σ b = some k ∧ v = .pointer (some ⟨k, off, none⟩) := by
  cases h with
  | ptr hs => exact ⟨_, hs, rfl⟩
theorem vr_cptr {cs : List PV} {v : Value} (h : VR g w.heap (.cptr cs) v) : ∃ ad f, v = .pointer (some ad) ∧ ad.spot = none ∧ Place g.U w.heap (some ad) cs.length f ∧ ∀ (j : Nat) (a : PV), cs[j]? = some a → PR g.U w.heap a (f j) := by
  cases h with
  | cptr f hs hp hr => exact ⟨_, f, rfl, hs, hp, hr⟩
theorem vr_agg {cs : List AV} {v : Value} (h : VR g w.heap (.agg cs) v) : ∃ vs, v = .agg vs ∧ VRs g w.heap cs vs := by
  cases h with
  | agg hl hr => exact ⟨_, rfl, hl, hr⟩
theorem vr_tup {cs : List AV} {v : Value} (h : VR g w.heap (.tup cs) v) : ∃ vs, v = .tuple vs ∧ VRs g w.heap cs vs := by
  cases h with
  | tup hl hr => exact ⟨_, rfl, hl, hr⟩
theorem cptr_cut {cs : List PV} {ad : Addr} {f : Nat → Value} (hs : ad.spot = none) (hp : Place g.U w.heap (some ad) cs.length f) (hr : ∀ (j : Nat) (a : PV), cs[j]? = some a → PR g.U w.heap a (f j)) (off n : Nat) (hle : off + n ≤ cs.length ∨ cs.length ≤ off) :
    VR g w.heap (.cptr ((cs.drop off).take n)) (.pointer (some (ad.add off))) := by
  refine .cptr (fun j => f (off + j)) (by rw [add_spot hs]) ?_ (fun j a hj => ?_)
  · rcases hle with hle | hle
    · have : ((cs.drop off).take n).length = n := by simp; omega
      rw [this]
      exact hp.cut hs off n hle
    · intro h0
      simp at h0
      omega
  · rw [List.getElem?_take] at hj
    split at hj
    · rw [List.getElem?_drop] at hj
      exact hr _ _ hj
    · cases hj
theorem cptr_drop {cs : List PV} {ad : Addr} {f : Nat → Value} (hs : ad.spot = none) (hp : Place g.U w.heap (some ad) cs.length f) (hr : ∀ (j : Nat) (a : PV), cs[j]? = some a → PR g.U w.heap a (f j)) (off : Nat) :
    VR g w.heap (.cptr (cs.drop off)) (.pointer (some (ad.add off))) := by
  have h := cptr_cut (g := g) (w := w) hs hp hr off (cs.length - off) (by omega)
  rwa [List.take_of_length_le (by simp)] at h
theorem cptr_cells {cs : List PV} {ad : Addr} {f : Nat → Value} (hp : Place g.U w.heap (some ad) cs.length f) {n : Nat} (hn : n ≤ cs.length) : ∀ j v, ((List.range n).map f)[j]? = some v → w.cell? (ad.add j) = some v := by
  intro j v hj
  have hjn : j < n := by
    have := (List.getElem?_eq_some_iff.1 hj).1
    simpa using this
  have hv : v = f j := by simpa [hjn] using hj.symm
  subst hv
  obtain ⟨ad', vs, T, fr, u, he, hs, hh, _, hle, hv⟩ := hp (by omega)
  injection he with he
  subst he
  rw [add_spot hs]
  have := (hv j (by omega)).1
  simp [World.cell?, hh, this]
theorem run_loadCells_f {ad : Addr} {n : Nat} {f : Nat → Value} (h : ∀ j v, ((List.range n).map f)[j]? = some v → w.cell? (ad.add j) = some v) : (loadCells ad n).run P w = .ok ((List.range n).map f).toArray w := by
  have := run_loadCells_list (P := P) w ad ((List.range n).map f) h
  simpa using this
theorem cptr_load {t : TypeId} {n : Nat} (hn : sizeT P t = some n) {cs : List PV} {ad : Addr} {f : Nat → Value} (hp : Place g.U w.heap (some ad) cs.length f) (hr : ∀ (j : Nat) (a : PV), cs[j]? = some a → PR g.U w.heap a (f j))
    (h : subP (isAggT P t) cs n = some r) : ∃ v, (loadVar t ad).run P w = .ok v w ∧ VR g w.heap r v := by
  obtain ⟨i, d, hi, hd, rfl⟩ := sizeT_spec hn
  have h1 := run_isAgg hd w
  unfold subP at h
  cases hb : isAggT P t with
  | true =>
    rw [hb] at h h1
    simp only [if_true] at h
    split at h
    · rename_i hle
      cases h
      refine ⟨.agg ((List.range i.size).map f).toArray, by simp only [loadVar, Sem.run_bind, h1, Result.andThen_ok, if_true, run_sizeOf hn w, run_loadCells_f (cptr_cells hp hle), Sem.run_pure], .agg (by simp; omega) (fun j b v hj hv => ?_)⟩
      simp only [List.getElem?_map] at hj
      obtain ⟨x, hx, rfl⟩ := Option.map_eq_some_iff.1 hj
      rw [List.getElem?_take] at hx
      split at hx
      · rename_i hj'
        simp [hj'] at hv
        subst hv
        exact .p (hr j x hx)
      · cases hx
    · cases h
  | false =>
    rw [hb] at h h1
    simp only [Bool.false_eq_true, if_false] at h
    obtain ⟨x, hx, rfl⟩ := Option.map_eq_some_iff.1 h
    have hlt := (List.getElem?_eq_some_iff.1 hx).1
    have hc := cptr_cells (g := g) (w := w) hp (n := 1) (by omega) 0 (f 0) (by simp)
    rw [show ad.add 0 = ad from by simp [Addr.add]] at hc
    refine ⟨f 0, ?_, .p (hr 0 x hx)⟩
    have hld : (Go.load ad).run P w = .ok (f 0) w := by
      unfold Go.load
      simp only [Sem.run, hc]
    simp only [loadVar, Sem.run_bind, h1, Result.andThen_ok, Bool.false_eq_true, if_false, hld]
end
end Go.Shade
