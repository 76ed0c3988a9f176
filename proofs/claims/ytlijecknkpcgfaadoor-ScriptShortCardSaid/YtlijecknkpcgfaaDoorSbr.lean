/- From the readings of a row to abstract values. Own work. -/
import Derived.Test.YtlijecknkpcgfaaDoorZ3
import Derived.SizedLaws
import Derived.WideShapes
import Derived.OpenShut
import Derived.Carry
import Derived.ChangeSame
namespace Go.Shade
open Go

inductive Ty where
  | int (k : IntKind)
  | bool
  | str
  | flt (k : FloatKind)
  | sl (es : List Ty)

def flatFs (P : Program) (F : TypeId → Option (List Ty)) : List Field → Nat → Option (List Ty)
  | [], _ => some []
  | f :: fs, off => if f.offset = off then (F f.type).bind fun es => if es.length = P.cellsOf f.type then (flatFs P F fs (off + es.length)).map (es ++ ·) else none else none
/-- A type's cells, one behind the other. -/
def flat (P : Program) : Nat → TypeId → Option (List Ty)
  | 0, _ => none
  | n + 1, t => match P.underlying t with
    | some (.int k) => some [.int k]
    | some .bool => some [.bool]
    | some .string => some [.str]
    | some (.float k) => some [.flt k]
    | some (.slice e) => (flat P n e).bind fun es => if es.length = P.cellsOf e ∧ 0 < es.length ∧ 0 < P.bytesOf e then some [.sl es] else none
    | some (.struct fs) => (flatFs P (flat P n) fs.toList 0).bind fun ts => if ts.length = P.cellsOf t then some ts else none
    | some (.array m e) => (flat P n e).bind fun es => if es.length = P.cellsOf e ∧ m * es.length = P.cellsOf t then some (List.replicate m es).flatten else none
    | _ => none

inductive OkP : Ty → PV → Prop
  | int {k : IntKind} {n : Int} (h : (Lit.int k n).wf = true) : OkP (.int k) (.s (.int k n))
  | bool (b : Bool) : OkP .bool (.s (.bool b))
  | str {s : ByteArray} (h : s.size ≤ maxLen) : OkP .str (.s (.string s))
  | flt {k : FloatKind} {n : Nat} (h : (Lit.float k n).wf = true) : OkP (.flt k) (.s (.float k n))
  | sl {es : List Ty} {xs : List (List PV)} (hl : xs.length ≤ 140737488351232) (h1 : ∀ x ∈ xs, x.length = es.length) (h2 : ∀ x ∈ xs, ∀ (i : Nat) t p, es[i]? = some t → x[i]? = some p → OkP t p) : OkP (.sl es) (.sl es.length xs)

structure Rep (U : Nat → Option Nat) (h : Array Obj) (ts : List Ty) (cs : List Value) (ps : List PV) : Prop where
  pl : ps.length = cs.length
  tl : ts.length = cs.length
  r : ∀ (i : Nat) t p v, ts[i]? = some t → ps[i]? = some p → cs[i]? = some v → OkP t p ∧ PR U h p v

/-- All that is there stays. -/
def gI (W : World) : Gh := { σ := fun _ => none, τ := fun _ => none, U := fun k => match W.heap[k]? with
  | some (.cells vs _ _) => some vs.size
  | _ => none }

theorem relI (W : World) : Rel (fun _ => none) (gI W) W (memL []) where
  fresh _ _ := ⟨rfl, rfl⟩
  box n cs fz h := by simp [memL] at h
  tok n h := by simp [memL] at h
  inj n n' k h _ := by rcases h with ⟨_, _, h, _⟩ | ⟨h, _⟩ <;> simp [memL] at h
  ulen k u hu := by
    simp only [gI] at hu
    split at hu
    · rename_i vs T fr hh
      cases hu
      exact ⟨vs, T, fr, hh, Nat.le_refl _⟩
    · cases hu
  glob G cs h := by cases h

theorem relG {Γ : Globs} (W : World) (hΓ : GlobR (gI W).U W.heap Γ) : Rel Γ (gI W) W (memL []) where
  fresh _ _ := ⟨rfl, rfl⟩
  box n cs fz h := by simp [memL] at h
  tok n h := by simp [memL] at h
  inj n n' k h _ := by rcases h with ⟨_, _, h, _⟩ | ⟨h, _⟩ <;> simp [memL] at h
  ulen := (relI W).ulen
  glob := hΓ

theorem rep_nil {U : Nat → Option Nat} {h : Array Obj} : Rep U h [] [] [] := ⟨rfl, rfl, fun i t p v h => by simp at h⟩
theorem rep_one {U : Nat → Option Nat} {h : Array Obj} {t : Ty} {v : Value} {p : PV} (h1 : OkP t p) (h2 : PR U h p v) : Rep U h [t] [v] [p] := by
  refine ⟨rfl, rfl, fun i t' p' v' h3 h4 h5 => ?_⟩
  cases i with
  | zero => simp at h3 h4 h5; subst h3; subst h4; subst h5; exact ⟨h1, h2⟩
  | succ i => simp at h3
theorem Rep.append {U : Nat → Option Nat} {h : Array Obj} {ts ts' : List Ty} {cs cs' : List Value} {ps ps' : List PV} (a : Rep U h ts cs ps) (b : Rep U h ts' cs' ps') : Rep U h (ts ++ ts') (cs ++ cs') (ps ++ ps') := by
  refine ⟨by simp [a.pl, b.pl], by simp [a.tl, b.tl], fun i t p v h1 h2 h3 => ?_⟩
  by_cases hi : i < ts.length
  · rw [List.getElem?_append_left hi] at h1
    rw [List.getElem?_append_left (by rw [a.pl, ← a.tl]; exact hi)] at h2
    rw [List.getElem?_append_left (by rw [← a.tl]; exact hi)] at h3
    exact a.r i t p v h1 h2 h3
  · rw [List.getElem?_append_right (by omega)] at h1
    rw [List.getElem?_append_right (by rw [a.pl, ← a.tl]; omega), a.pl, ← a.tl] at h2
    rw [List.getElem?_append_right (by rw [← a.tl]; omega), ← a.tl] at h3
    exact b.r _ t p v h1 h2 h3

theorem okP_one {t : Ty} {p : PV} {U : Nat → Option Nat} {h : Array Obj} {v : Value} (a : OkP t p) (b : PR U h p v) : v.oneCell' = true := by
  cases a <;> cases b <;> rfl

section
variable {H : Type} {enc : TypeId × Value → H} {P : Program} {W : World}

theorem fs_ok {F : TypeId → Option (List Ty)} {fuel : Nat} (ih : ∀ t ts cs d ps, F t = some ts → DataW.trod enc P W 0 (fun _ => true) true fuel t cs = some (d, ps) → (∀ m ∈ d.weights P t, m ≤ reachBytes) → ∃ pvs, Rep (gI W).U W.heap ts cs pvs) (cs : List Value) :
    ∀ (fs : List Field) (off : Nat) (ts : List Ty) (xs : List (DataW H × List MemPlace)), flatFs P F fs off = some ts → (fs.mapM fun f => DataW.trod enc P W 0 (fun _ => true) true fuel f.type ((cs.drop f.offset).take (P.cellsOf f.type))) = some xs →
      (∀ m ∈ DataW.weightsEach P (fs.map (·.type)) (xs.map (·.1)), m ≤ reachBytes) → ∃ pvs, Rep (gI W).U W.heap ts ((cs.drop off).take ts.length) pvs
  | [], off, ts, xs, hf, _, _ => by
    simp only [flatFs, Option.some.injEq] at hf
    subst hf
    exact ⟨[], rep_nil⟩
  | f :: fs, off, ts, xs, hf, hx, hw => by
    simp only [flatFs] at hf
    split at hf
    · rename_i ho
      obtain ⟨es, he, hf⟩ := Option.bind_eq_some_iff.1 hf
      split at hf
      · rename_i hl
        obtain ⟨ts', hts, rfl⟩ := Option.map_eq_some_iff.1 hf
        simp only [List.mapM_cons, bind, Option.bind_eq_some_iff, pure, Option.some.injEq] at hx
        obtain ⟨⟨d, ps⟩, hd, xs', hxs, rfl⟩ := hx
        simp only [List.map_cons, DataW.weightsEach, List.mem_append] at hw
        rw [ho, ← hl] at hd
        obtain ⟨p1, r1⟩ := ih _ _ _ _ _ he hd (fun m hm => hw m (.inl hm))
        obtain ⟨p2, r2⟩ := fs_ok ih cs fs _ ts' xs' hts hxs (fun m hm => hw m (.inr hm))
        refine ⟨p1 ++ p2, ?_⟩
        have := r1.append r2
        have e : (cs.drop off).take es.length ++ (cs.drop (off + es.length)).take ts'.length = (cs.drop off).take (es ++ ts').length := by
          rw [List.length_append, List.take_add, List.drop_drop]
        rw [e] at this
        exact this
      · cases hf
    · cases hf

theorem arr_ok {es : List Ty} {e : TypeId} {fuel : Nat} (ih : ∀ cs d ps, DataW.trod enc P W 0 (fun _ => true) true fuel e cs = some (d, ps) → (∀ m ∈ d.weights P e, m ≤ reachBytes) → ∃ pvs, Rep (gI W).U W.heap es cs pvs) (cs : List Value) :
    ∀ (n j : Nat) (xs : List (DataW H × List MemPlace)), ((List.range' j n).mapM fun i => DataW.trod enc P W 0 (fun _ => true) true fuel e ((cs.drop (i * es.length)).take es.length)) = some xs →
      (∀ m ∈ DataW.weightsAll P e (xs.map (·.1)), m ≤ reachBytes) → ∃ pvs, Rep (gI W).U W.heap (List.replicate n es).flatten ((cs.drop (j * es.length)).take (n * es.length)) pvs
  | 0, j, xs, _, _ => ⟨[], by simpa using rep_nil⟩
  | n + 1, j, xs, hx, hw => by
    rw [List.range'_succ] at hx
    simp only [List.mapM_cons, bind, Option.bind_eq_some_iff, pure, Option.some.injEq] at hx
    obtain ⟨⟨d, ps⟩, hd, xs', hxs, rfl⟩ := hx
    simp only [List.map_cons, DataW.weightsAll, List.mem_append] at hw
    obtain ⟨p1, r1⟩ := ih _ _ _ hd (fun m hm => hw m (.inl hm))
    obtain ⟨p2, r2⟩ := arr_ok ih cs n (j + 1) xs' hxs (fun m hm => hw m (.inr hm))
    refine ⟨p1 ++ p2, ?_⟩
    have := r1.append r2
    have e : (cs.drop (j * es.length)).take es.length ++ (cs.drop ((j + 1) * es.length)).take (n * es.length) = (cs.drop (j * es.length)).take ((n + 1) * es.length) := by
      have e1 : (n + 1) * es.length = es.length + n * es.length := by rw [Nat.add_mul, Nat.one_mul, Nat.add_comm]
      have e2 : (j + 1) * es.length = j * es.length + es.length := by rw [Nat.add_mul, Nat.one_mul]
      rw [e1, e2, List.take_add, List.drop_drop]
    rw [e] at this
    rw [List.replicate_succ, List.flatten_cons]
    exact this

theorem cell_spec {a : Addr} {v : Value} (h : W.cell? a = some v) : ∃ vs T fr, W.heap[a.block]? = some (.cells vs T fr) ∧ a.spot = none ∧ vs[a.off]? = some v := by
  unfold World.cell? at h
  split at h
  · rename_i vs T fr hh
    split at h
    · cases h
    · rename_i hs
      exact ⟨vs, T, fr, hh, by simpa using hs, h⟩
  · cases h

theorem cells_spec {a : Addr} {n : Nat} {cs : List Value} (h : W.cells? 0 a n = some cs) : cs.length = n ∧ ∀ i v, cs[i]? = some v → W.cell? (a.add i) = some v := by
  unfold World.cells? at h
  rw [if_pos (Nat.zero_le _)] at h
  obtain ⟨h1, h2⟩ := mapM_get h
  refine ⟨by simpa using h1.symm, fun i v hv => ?_⟩
  have hi : i < n := by rw [List.length_range] at h1; rw [h1]; exact (List.getElem?_eq_some_iff.1 hv).1
  obtain ⟨y, hy, he⟩ := h2 i i (by simp [hi])
  rw [hv] at hy
  cases hy
  exact he

theorem add_add (a : Addr) (m i : Nat) (hs : a.spot = none) : (a.add m).add i = ⟨a.block, a.off + m + i, none⟩ := by
  unfold Addr.add
  obtain ⟨b, o, s⟩ := a
  simp only at hs
  subst hs
  by_cases h1 : m = 0 <;> by_cases h2 : i = 0 <;> simp [h1, h2] <;> omega

theorem slice_ok {a : Addr} {len cap : Nat} {e : TypeId} {es : List Ty} {fuel : Nat} (hes : es.length = P.cellsOf e) (h0 : 0 < es.length)
    (ih : ∀ cs d ps, DataW.trod enc P W 0 (fun _ => true) true fuel e cs = some (d, ps) → (∀ m ∈ d.weights P e, m ≤ reachBytes) → ∃ pvs, Rep (gI W).U W.heap es cs pvs)
    {elems : List (DataW H × List MemPlace)} (hel : ((List.range len).mapM fun i => (W.cells? 0 (a.add (i * P.cellsOf e)) (P.cellsOf e)).bind (DataW.trod enc P W 0 (fun _ => true) true fuel e)) = some elems)
    (hw : ∀ x ∈ elems, ∀ m ∈ x.1.weights P e, m ≤ reachBytes) (hlc : len ≤ cap) (hcm : cap ≤ maxLen) (hm : len ≤ 140737488351232) : ∃ p, OkP (.sl es) p ∧ PR (gI W).U W.heap p (.slice (some a) len cap) := by
  obtain ⟨h1, h2⟩ := mapM_get hel
  rw [List.length_range] at h1
  have el : ∀ i, i < len → ∃ cs pvs, cs.length = es.length ∧ (∀ j v, cs[j]? = some v → W.cell? ((a.add (i * es.length)).add j) = some v) ∧ Rep (gI W).U W.heap es cs pvs := by
    intro i hi
    obtain ⟨⟨d, ps⟩, hy, hb⟩ := h2 i i (by simp [hi])
    obtain ⟨cs, hc, ht⟩ := Option.bind_eq_some_iff.1 hb
    obtain ⟨c1, c2⟩ := cells_spec hc
    rw [← hes] at c1 c2
    obtain ⟨pvs, hr⟩ := ih cs d ps ht (hw _ (List.mem_of_getElem? hy))
    exact ⟨cs, pvs, c1, c2, hr⟩
  have : ∃ C : Nat → List Value, ∃ G : Nat → List PV, ∀ i, i < len → (C i).length = es.length ∧ (∀ j v, (C i)[j]? = some v → W.cell? ((a.add (i * es.length)).add j) = some v) ∧ Rep (gI W).U W.heap es (C i) (G i) := by
    refine ⟨fun i => if h : i < len then (el i h).choose else [], fun i => if h : i < len then (el i h).choose_spec.choose else [], fun i hi => ?_⟩
    simp only [hi, dif_pos]
    exact (el i hi).choose_spec.choose_spec
  obtain ⟨C, G, hCG⟩ := this
  have xl : ∀ x ∈ (List.range len).map G, x.length = es.length := by
    intro x hx
    obtain ⟨i, hi, rfl⟩ := List.mem_map.1 hx
    obtain ⟨k1, _, k3⟩ := hCG i (List.mem_range.1 hi)
    rw [k3.pl, k1]
  have cl : ∀ x ∈ (List.range len).map C, x.length = es.length := by
    intro x hx
    obtain ⟨i, hi, rfl⟩ := List.mem_map.1 hx
    exact (hCG i (List.mem_range.1 hi)).1
  have fl : ((List.range len).map G).flatten.length = len * es.length := by rw [flatten_length xl]; simp
  have fc : ((List.range len).map C).flatten.length = len * es.length := by rw [flatten_length cl]; simp
  have ix : ∀ {α : Type} (F : Nat → List α), (∀ x ∈ (List.range len).map F, x.length = es.length) → ∀ j, j < len * es.length → ((List.range len).map F).flatten[j]? = (F (j / es.length))[j % es.length]? := by
    intro α F hF j hj
    have hq : j / es.length < len := Nat.div_lt_of_lt_mul (by rw [Nat.mul_comm]; exact hj)
    have h3 := flatten_at hF (i := j / es.length) (by simpa using hq) []
    have hd : (j / es.length) * es.length + j % es.length = j := by rw [Nat.mul_comm]; exact Nat.div_add_mod j es.length
    have hget : ((List.range len).map F).getD (j / es.length) [] = F (j / es.length) := by simp [List.getD_eq_getElem?_getD, hq]
    rw [← hget, h3, List.getElem?_take, if_pos (Nat.mod_lt _ h0), List.getElem?_drop, hd]
  have pt : ∀ j, j < len * es.length → ∃ v p t, ((List.range len).map C).flatten[j]? = some v ∧ ((List.range len).map G).flatten[j]? = some p ∧ OkP t p ∧ PR (gI W).U W.heap p v ∧ W.cell? ((a.add ((j / es.length) * es.length)).add (j % es.length)) = some v := by
    intro j hj
    have hq : j / es.length < len := Nat.div_lt_of_lt_mul (by rw [Nat.mul_comm]; exact hj)
    have hr : j % es.length < es.length := Nat.mod_lt _ h0
    obtain ⟨k1, k2, k3⟩ := hCG _ hq
    have hc : j % es.length < (C (j / es.length)).length := by rw [k1]; exact hr
    have hg : j % es.length < (G (j / es.length)).length := by rw [k3.pl, k1]; exact hr
    obtain ⟨o1, o2⟩ := k3.r (j % es.length) _ _ _ (List.getElem?_eq_getElem hr) (List.getElem?_eq_getElem hg) (List.getElem?_eq_getElem hc)
    exact ⟨_, _, _, (ix C cl j hj).trans (List.getElem?_eq_getElem hc), (ix G xl j hj).trans (List.getElem?_eq_getElem hg), o1, o2, k2 _ _ (List.getElem?_eq_getElem hc)⟩
  refine ⟨.sl es.length ((List.range len).map G), .sl (by simpa using hm) xl (fun x hx i t p h3 h4 => ?_), .sl (fun j => ((List.range len).map C).flatten.getD j undef) (by simp) hlc (by omega) hcm xl (fun hpos => ?_) (fun j p hj => ?_)⟩
  · obtain ⟨q, hq, rfl⟩ := List.mem_map.1 hx
    obtain ⟨k1, _, k3⟩ := hCG q (List.mem_range.1 hq)
    have hi : i < (C q).length := by rw [k1]; exact (List.getElem?_eq_some_iff.1 h3).1
    exact (k3.r i t p _ h3 h4 (List.getElem?_eq_getElem hi)).1
  · rw [fl] at hpos
    obtain ⟨v0, _, _, _, _, _, _, hc0⟩ := pt 0 hpos
    obtain ⟨vs, T, fr, hh, hs0, hv0⟩ := cell_spec hc0
    have hsp : a.spot = none := by
      rw [Nat.zero_div, Nat.zero_mod, Nat.zero_mul] at hs0
      simpa [Addr.add] using hs0
    have hblk : ((a.add ((0 / es.length) * es.length)).add (0 % es.length)).block = a.block := by rw [add_add a _ _ hsp]
    rw [hblk] at hh
    have all : ∀ j, j < len * es.length → ∃ v, ((List.range len).map C).flatten[j]? = some v ∧ vs[a.off + j]? = some v ∧ v.oneCell' = true := by
      intro j hj
      obtain ⟨v, p, t, e1, _, e3, e4, e5⟩ := pt j hj
      obtain ⟨vs', T', fr', hh', _, hv'⟩ := cell_spec e5
      rw [add_add a _ _ hsp] at hh' hv'
      simp only at hh' hv'
      rw [hh] at hh'
      cases hh'
      have hd : (j / es.length) * es.length + j % es.length = j := by rw [Nat.mul_comm]; exact Nat.div_add_mod j es.length
      rw [Nat.add_assoc, hd] at hv'
      exact ⟨v, e1, hv', okP_one e3 e4⟩
    refine ⟨a, vs, T, fr, vs.size, rfl, hsp, hh, by simp [gI, hh], ?_, fun j hj => ?_⟩
    · rw [fl]
      obtain ⟨v, _, h5, _⟩ := all (len * es.length - 1) (by omega)
      have := (Array.getElem?_eq_some_iff.1 h5).1
      omega
    · rw [fl] at hj
      obtain ⟨v, h4, h5, h6⟩ := all j hj
      simp only [List.getD_eq_getElem?_getD, h4, Option.getD_some]
      exact ⟨h5, h6⟩
  · have hj' : j < len * es.length := by rw [← fl]; exact (List.getElem?_eq_some_iff.1 hj).1
    obtain ⟨v, p', t, e1, e2, _, e4, _⟩ := pt j hj'
    rw [hj] at e2
    cases e2
    simp only [List.getD_eq_getElem?_getD, e1, Option.getD_some]
    exact e4

theorem weightsAll_mem {e : TypeId} : ∀ {l : List (DataW H)} {d : DataW H}, d ∈ l → ∀ m ∈ d.weights P e, m ∈ DataW.weightsAll P e l
  | [], d, h, _, _ => by simp at h
  | x :: l, d, h, m, hm => by
    rw [DataW.weightsAll]
    rcases List.mem_cons.1 h with rfl | h'
    · exact List.mem_append_left _ hm
    · exact List.mem_append_right _ (weightsAll_mem h' m hm)

theorem trod_ok : ∀ (n fuel : Nat) (t : TypeId) (ts : List Ty) (cs : List Value) (d : DataW H) (ps : List MemPlace), flat P n t = some ts → DataW.trod enc P W 0 (fun _ => true) true fuel t cs = some (d, ps) → (∀ m ∈ d.weights P t, m ≤ reachBytes) →
    ∃ pvs, Rep (gI W).U W.heap ts cs pvs
  | 0, _, _, _, _, _, _, hf, _, _ => by simp [flat] at hf
  | n + 1, 0, _, _, _, _, _, _, ht, _ => by simp [DataW.trod] at ht
  | n + 1, fuel + 1, t, ts, cs, d, ps, hf, ht, hw => by
    have ih := trod_ok n fuel
    rw [flat] at hf
    unfold DataW.trod at ht
    cases hu : P.underlying t with
    | none => rw [hu] at hf; cases hf
    | some u =>
      rw [hu] at hf ht
      cases u with
      | int k =>
        simp only [Option.some.injEq] at hf
        subst hf
        split at ht <;> first | (rename_i h1; cases h1; done) | (cases ht; done) | skip
        rename_i h1
        cases h1
        split at ht
        · rename_i hk
          obtain ⟨rfl, hk⟩ := hk
          exact ⟨_, rep_one (.int hk) (.s _)⟩
        · cases ht
      | bool =>
        simp only [Option.some.injEq] at hf
        subst hf
        split at ht <;> first | (rename_i h1; cases h1; done) | (cases ht; done) | skip
        rename_i h1
        cases h1
        exact ⟨_, rep_one (.bool _) (.s _)⟩
      | string =>
        simp only [Option.some.injEq] at hf
        subst hf
        split at ht <;> first | (rename_i h1; cases h1; done) | (cases ht; done) | skip
        rename_i h1
        cases h1
        split at ht
        · rename_i hk
          exact ⟨_, rep_one (.str hk) (.s _)⟩
        · cases ht
      | float k =>
        simp only [Option.some.injEq] at hf
        subst hf
        split at ht <;> first | (rename_i h1; cases h1; done) | (cases ht; done) | skip
        rename_i h1
        cases h1
        split at ht
        · rename_i hk
          obtain ⟨rfl, hk⟩ := hk
          exact ⟨_, rep_one (.flt hk) (.s _)⟩
        · cases ht
      | slice e =>
        simp only at hf
        obtain ⟨es, he, hf⟩ := Option.bind_eq_some_iff.1 hf
        split at hf
        · rename_i hc
          cases hf
          obtain ⟨h1, h2, h3⟩ := hc
          split at ht <;> first | (rename_i h1; cases h1; done) | (cases ht; done) | skip
          · rename_i hu1
            cases hu1
            exact ⟨_, rep_one (.sl (xs := []) (by simp) (by simp) (by simp)) (.sl (fun _ => undef) rfl (Nat.le_refl _) (Nat.zero_le _) (Nat.zero_le _) (by simp) (fun h => absurd h (by simp)) (by simp))⟩
          · rename_i hu1
            cases hu1
            simp only at ht
            split at ht
            · rename_i hc
              obtain ⟨_, hlc, hcm⟩ := hc
              obtain ⟨elems, hel, ht⟩ := Option.bind_eq_some_iff.1 ht
              obtain ⟨rest, hrest, ht⟩ := Option.map_eq_some_iff.1 ht
              simp only [Prod.mk.injEq] at ht
              obtain ⟨rfl, rfl⟩ := ht
              have hlen : (elems.map (·.1)).length = elems.length := by simp
              have hl1 := (mapM_get hel).1
              rw [List.length_range] at hl1
              simp only [DataW.weights, hu, List.mem_cons, List.mem_append] at hw
              have hm := hw _ (.inl rfl)
              have hm' : elems.length ≤ 140737488351232 := by
                have h4 : elems.length ≤ ((elems.map (·.1)).length + (rest.map (·.1)).length) * P.bytesOf e := by
                  rw [hlen]
                  exact Nat.le_trans (Nat.le_add_right _ _) (Nat.le_mul_of_pos_right _ h3)
                have h5 : reachBytes = 140737488351232 := rfl
                omega
              obtain ⟨p, h6, h7⟩ := slice_ok h1 h2 (fun cs d ps h k => ih _ _ _ _ _ he h k) hel (fun x hx m hm => hw m (.inr (.inl (weightsAll_mem (List.mem_map_of_mem hx) m hm)))) hlc hcm (by omega)
              exact ⟨_, rep_one h6 h7⟩
            · cases ht
        · cases hf
      | struct fs =>
        simp only at hf
        obtain ⟨us, he, hf⟩ := Option.bind_eq_some_iff.1 hf
        split at hf
        · rename_i hl
          cases hf
          simp only at ht
          split at ht
          · rename_i hcl
            obtain ⟨xs, hxs, ht⟩ := Option.map_eq_some_iff.1 ht
            simp only [Prod.mk.injEq] at ht
            obtain ⟨rfl, rfl⟩ := ht
            simp only [DataW.weights, hu] at hw
            obtain ⟨pvs, hr⟩ := fs_ok (fun t ts cs d ps h1 h2 h3 => ih t ts cs d ps h1 h2 h3) _ _ 0 _ xs he hxs hw
            rw [List.drop_zero, hl, ← hcl, List.take_length] at hr
            exact ⟨pvs, hr⟩
          · cases ht
        · cases hf
      | array k e =>
        simp only at hf
        obtain ⟨es, he, hf⟩ := Option.bind_eq_some_iff.1 hf
        split at hf
        · rename_i hc
          obtain ⟨hl, hk⟩ := hc
          cases hf
          simp only at ht
          split at ht
          · rename_i hcl
            obtain ⟨xs, hxs, ht⟩ := Option.map_eq_some_iff.1 ht
            simp only [Prod.mk.injEq] at ht
            obtain ⟨rfl, rfl⟩ := ht
            simp only [DataW.weights, hu] at hw
            rw [← hl, List.range_eq_range'] at hxs
            obtain ⟨pvs, hr⟩ := arr_ok (fun cs d ps h2 h3 => ih e es cs d ps he h2 h3) cs k 0 xs hxs hw
            rw [Nat.zero_mul, List.drop_zero, hk, ← hcl, List.take_length] at hr
            exact ⟨pvs, hr⟩
          · cases ht
        · cases hf
      | _ => cases hf
end
end Go.Shade
