/- The operations that read and write memory. Own work. -/
import Derived.Test.YtnhkcalanpepoaaSi
import Derived.Laws.CopyRow
import Derived.Laws.Append
import Derived.Laws.AppendOwn
import Derived.Deep.AppendSrc
namespace Go.Shade
open Go

def AV.toPV : AV → Option PV
  | .p x => some x
  | .own _ sz xs => some (.sl sz xs)
  | _ => none
def PV.oneCell : PV → Bool
  | .s v => v.oneCell'
  | .sl _ _ => true
def toPVs (cs : List AV) : Option (List PV) := cs.mapM AV.toPV
def setEls (xs : List (List PV)) : List (Nat × List PV) → List (List PV)
  | [] => xs
  | (i, l) :: r => setEls (xs.set i l) r
/-- What is appended: elements, or a string's octets. -/
def AV.asSrc (sz : Nat) (a : AV) : Option (List (List PV)) :=
  match a with
  | .p (.s (.string s)) => if sz = 1 then some (s.data.toList.map fun b => [.s (.int .u8 b.toNat)]) else none
  | a => a.asSl sz

abbrev ML := List (Nat × Res)
def memL : ML → Nat → Option Res
  | [], _ => none
  | (k, r) :: L, n => if n = k then some r else memL L n
def updL (m : Mem) (us : ML) : Mem := fun n => match memL us n with
  | some r => some r
  | none => m n
/-- What is copied: how many elements, and their cells. -/
def srcC (sz : Nat) (m : Mem) : AV → Option (Nat × List AV)
  | .bsl b off s n => match m b with
    | some (.box cs _) => if s = sz ∧ off + n * sz ≤ cs.length then some (n, (cs.drop off).take (n * sz)) else none
    | _ => none
  | x => (x.asSrc sz).map fun ys => (ys.length, ys.flatten.map AV.p)
def copyE (sz : Nat) (m : Mem) : List AV → Option (AV × ML)
  | [.bsl b off s n, x] => match m b with
    | some (.box cs false) => (srcC sz m x).bind fun (k, l) =>
      if s = sz ∧ sz ≠ 0 ∧ off + n * sz ≤ cs.length ∧ (l.take (min k n * sz)).all AV.oneCell then
        some (.int .i64 (min k n : Nat), [(b, .box (cs.take off ++ l.take (min k n * sz) ++ cs.drop (off + min k n * sz)) false)]) else none
    | _ => none
  | _ => none
def mksE (sz bytes : Nat) (zero : List PV) (own : Bool) (m : Mem) (nm : Nat) : List AV → Option (AV × ML)
  | [l, c] => match m nm with
    | none => l.asInt.bind fun l => c.asInt.bind fun c =>
      if 0 ≤ l ∧ l ≤ c ∧ (bytes : Int) * c ≤ 281474976710656 ∧ c ≤ 281474976710656 ∧ zero.length = sz ∧ zero.all PV.oneCell = true then
        (if own then some (.own nm sz (List.replicate l.toNat zero), [(nm, .tok)]) else some (.bsl nm 0 sz l.toNat, [(nm, .box (List.replicate c.toNat (zero.map AV.p)).flatten false)])) else none
    | _ => none
  | _ => none
def mkzE (m : Mem) (nm : Nat) : List AV → Option (AV × ML)
  | [.p (.s (.int .i64 n))] => match m nm with
    | none => if 0 ≤ n ∧ n ≤ 281474976710656 then some (.bsl nm 0 1 n.toNat, [(nm, .box (List.replicate n.toNat .junk) false)]) else none
    | _ => none
  | _ => none
def toBysE : List AV → Option (AV × ML)
  | [.p (.s (.string s))] => if s.size ≤ 281474976710656 then some (.p (.sl 1 (s.data.toList.map fun b => [.s (.int .u8 b.toNat)])), []) else none
  | _ => none
def bconvE (m : Mem) : List AV → Option (AV × ML)
  | [.own t sz xs] => match m t with
    | some .tok => if sz = 1 ∧ 0 < xs.length then some (.p (.sl 1 xs), [(t, .dead)]) else none
    | _ => none
  | _ => none
def eMem : EOp → List AV → Mem → Nat → Option (AV × ML)
  | .copy sz, vs, m, _ => copyE sz m vs
  | .mks sz bytes zero own, vs, m, nm => mksE sz bytes zero own m nm vs
  | .mkz, vs, m, nm => mkzE m nm vs
  | .toBys, vs, _, _ => toBysE vs
  | .bconv, vs, m, _ => bconvE m vs
  | _, _, _, _ => none
def eFoot : EOp → List AV → Nat → List Nat × List Nat
  | .copy _, [.bsl b _ _ _, .bsl c _ _ _], _ => ([b, c], [b])
  | .copy _, [.bsl b _ _ _, _], _ => ([b], [b])
  | .toBys, _, _ => ([], [])
  | .bconv, [.own t _ _], _ => ([t], [t])
  | _, _, nm => ([nm], [nm])

def cmem (Γ : Globs) (env : Nat → AV) (m : Mem) (nm : Nat) : COp → Option (AV × Mem)
  | .load agg n a => match a.ev Γ env with
    | .ptr b off => match m b with
      | some (.box cs _) => (subA agg cs off n).map fun r => (r, m)
      | _ => none
    | _ => none
  | .store n a x => match a.ev Γ env with
    | .ptr b off => match m b with
      | some (.box cs false) =>
        let l := (x.ev Γ env).cells
        if (x.ev Γ env).celled && l.all AV.oneCell && l.length == n && decide (off + n ≤ cs.length) then
          some (.junk, upd m b (some (.box (cs.take off ++ l ++ cs.drop (off + n)) false))) else none
      | _ => none
    | _ => none
  | .box x => match m nm with
    | none => if (x.ev Γ env).celled then some (.ptr nm 0, upd m nm (some (.box (x.ev Γ env).cells false))) else none
    | _ => none
  | .alloc zero => match m nm with
    | none => some (.ptr nm 0, upd m nm (some (.box (zero.map AV.p) false)))
    | _ => none
  | .bslice sz len zero parts => match m nm, parts.mapM (fun (p : Nat × X) => (toPVs (p.2.ev Γ env).cells).map fun l => (p.1, l)) with
    | none, some ps =>
      if (parts.all fun p => (p.2.ev Γ env).celled) && (ps.all fun p => p.2.length == sz && p.2.all PV.oneCell && decide (p.1 < len)) && zero.length == sz && zero.all PV.oneCell && decide (len ≤ 281474976710656) then
        some (.own nm sz (setEls (List.replicate len zero) ps), upd m nm (some .tok)) else none
    | _, _ => none
  | .append sz bytes zero s x => match m nm, (x.ev Γ env).asSrc sz, (s.ev Γ env).asSl sz with
    | none, some ys, some xs =>
      if zero.length = sz ∧ sz ≠ 0 ∧ bytes ≠ 0 ∧ zero.all PV.oneCell ∧ (xs.length + ys.length) * bytes ≤ 140737488355328 then
        match s.ev Γ env with
        | .own t _ _ => match m t with
          | some .tok => some (.own nm sz (xs ++ ys), upd (upd m t (some .dead)) nm (some .tok))
          | _ => none
        | .p (.s (.slice none 0 0)) => some (.own nm sz ys, upd m nm (some .tok))
        | _ => none
      else none
    | _, _, _ => none
  | .aslice sz len x lo hi => match x.ev Γ env with
    | .ptr b off => match m b with
      | some (.box cs _) => do
        let lo ← evO Γ env lo
        let hi ← evO Γ env hi
        let (l, h) ← bounds len lo hi
        let ps ← toPVs ((cs.drop (off + l)).take (h - l))
        if sz = 1 ∧ off + h ≤ cs.length ∧ ps.all PV.oneCell ∧ len ≤ 281474976710656 then some (.p (.sl 1 (ps.map fun p => [p])), upd m b (some (.box cs true))) else none
      | _ => none
    | _ => none
  | .ext e xs => (eMem e (xs.map (X.ev Γ env)) m nm).map fun p => (p.1, updL m p.2)
  | _ => none

section
variable {P : Program} {N : Nat} {Γ : Globs} {g : Gh} {w : World} {a : Act} {env : Nat → AV} {m : Mem} {o : Oper} {r : AV} {c : COp}

def Did (P : Program) (a : Act) (w : World) (o : Oper) (v : Value) (w' : World) : Prop := (execOp a.eval o).run P w = .ok (.value v) w' ∨ ((execOp a.eval o).run P w = .ok .skip w' ∧ v = undef)
theorem exec_val' {s : Sem Value} {v : Value} {w' : World} (hs : s.run P w = .ok v w') : (do pure (Next.value (← s)) : Sem Next).run P w = .ok (.value v) w' := by
  rw [Sem.run_bind, hs]
  rfl

theorem vr_toPV {h : Array Obj} {b : AV} {v : Value} {x : PV} (hr : VR g h b v) (hx : b.toPV = some x) : PR g.U h x v := by
  cases hr <;> simp [AV.toPV] at hx
  · subst hx; assumption
  · subst hx; assumption
theorem toPVs_get : ∀ {cs : List AV} {ps : List PV}, toPVs cs = some ps → ps.length = cs.length ∧ ∀ (i : Nat) b p, cs[i]? = some b → ps[i]? = some p → b.toPV = some p
  | [], ps, h => by
    simp only [toPVs, List.mapM_nil, pure, Option.some.injEq] at h
    subst h
    exact ⟨rfl, fun i b p h => by simp at h⟩
  | x :: cs, ps, h => by
    simp only [toPVs, List.mapM_cons, bind, Option.bind_eq_some_iff, pure, Option.some.injEq] at h
    obtain ⟨x', hx, q, hq, rfl⟩ := h
    obtain ⟨h1, h2⟩ := toPVs_get (cs := cs) (ps := q) hq
    refine ⟨by simp [h1], fun i b p hb hp => ?_⟩
    cases i with
    | zero => simp at hb hp; subst hb; subst hp; exact hx
    | succ i => exact h2 i b p (by simpa using hb) (by simpa using hp)
theorem vrs_toPVs {h : Array Obj} {cs : List AV} {vs : Array Value} {ps : List PV} (hv : VRs g h cs vs) (hp : toPVs cs = some ps) : ps.length = vs.size ∧ ∀ (i : Nat) p v, ps[i]? = some p → vs[i]? = some v → PR g.U h p v := by
  obtain ⟨h1, h2⟩ := toPVs_get hp
  refine ⟨h1.trans hv.1, fun i p v hpi hvi => ?_⟩
  have hlt : i < cs.length := by rw [← h1]; exact (List.getElem?_eq_some_iff.1 hpi).1
  exact vr_toPV (hv.2 i _ v (List.getElem?_eq_getElem hlt) hvi) (h2 i _ p (List.getElem?_eq_getElem hlt) hpi)
theorem vr_oneCell {h : Array Obj} {b : AV} {v : Value} (hr : VR g h b v) (h1 : b.oneCell = true) : v.oneCell' = true := by
  cases hr with
  | p hr => cases hr with
    | s v => exact h1
    | sl => rfl
  | own => rfl
  | agg => simp [AV.oneCell] at h1
  | tup => simp [AV.oneCell] at h1
  | ptr => rfl
  | cptr => rfl
  | fn => rfl
  | bsl => rfl
  | cmap => rfl
  | junk => simp [AV.oneCell] at h1
theorem pr_oneCell {U : Nat → Option Nat} {h : Array Obj} {p : PV} {v : Value} (hr : PR U h p v) (h1 : p.oneCell = true) : v.oneCell' = true := by
  cases hr with
  | s v => exact h1
  | sl => rfl

theorem heap_setRow {w : World} {k : Nat} {vs vs' : Array Value} {T : TypeId} {fr : Nat × Nat} (hk : w.heap[k]? = some (.cells vs T fr)) : (w.setRow k vs').heap = w.heap.setIfInBounds k (.cells vs' T fr) := by
  apply Array.ext_getElem?
  intro i
  by_cases hi : i = k
  · subst hi
    rw [setRow_heap w i vs vs' T fr hk, set_at hk]
  · rw [setRow_other w k i vs' hi, set_other hi]
theorem sameW_setRow (w : World) (k : Nat) (vs : Array Value) : SameW w (w.setRow k vs) := ⟨rfl, rfl, rfl⟩
theorem sameW_alloc (w : World) (o : Obj) : SameW w (w.alloc o) := ⟨rfl, rfl, rfl⟩

/-- The same of lists. -/
def VL (g : Gh) (h : Array Obj) (cs : List AV) (vl : List Value) : Prop := cs.length = vl.length ∧ ∀ (i : Nat) (a : AV) (v : Value), cs[i]? = some a → vl[i]? = some v → VR g h a v
theorem VRs.list {h : Array Obj} {cs : List AV} {vs : Array Value} (hv : VRs g h cs vs) : VL g h cs vs.toList := ⟨by rw [Array.length_toList]; exact hv.1, fun i a v h1 h2 => hv.2 i a v h1 (by simpa using h2)⟩
theorem VL.arr {h : Array Obj} {cs : List AV} {vl : List Value} (hv : VL g h cs vl) : VRs g h cs vl.toArray := ⟨by simpa using hv.1, fun i a v h1 h2 => hv.2 i a v h1 (by simpa using h2)⟩
theorem VL.take {h : Array Obj} {cs : List AV} {vl : List Value} (hv : VL g h cs vl) (n : Nat) : VL g h (cs.take n) (vl.take n) := by
  refine ⟨by simp [hv.1], fun i a v h1 h2 => ?_⟩
  rw [List.getElem?_take] at h1 h2
  split at h1
  · rename_i hi
    rw [if_pos hi] at h2
    exact hv.2 i a v h1 h2
  · cases h1
theorem VL.drop {h : Array Obj} {cs : List AV} {vl : List Value} (hv : VL g h cs vl) (n : Nat) : VL g h (cs.drop n) (vl.drop n) := by
  refine ⟨by simp [hv.1], fun i a v h1 h2 => ?_⟩
  rw [List.getElem?_drop] at h1 h2
  exact hv.2 _ a v h1 h2
theorem VL.append {h : Array Obj} {cs ds : List AV} {vl ul : List Value} (hv : VL g h cs vl) (hu : VL g h ds ul) : VL g h (cs ++ ds) (vl ++ ul) := by
  refine ⟨by simp [hv.1, hu.1], fun i a v h1 h2 => ?_⟩
  by_cases hi : i < cs.length
  · rw [List.getElem?_append_left hi] at h1
    rw [List.getElem?_append_left (by rw [← hv.1]; exact hi)] at h2
    exact hv.2 i a v h1 h2
  · rw [List.getElem?_append_right (by omega)] at h1
    rw [List.getElem?_append_right (by rw [← hv.1]; omega), ← hv.1] at h2
    exact hu.2 _ a v h1 h2

/-- The same of a row whose beginning alone is known. -/
def VP (g : Gh) (h : Array Obj) (cs : List AV) (vl : List Value) : Prop := cs.length ≤ vl.length ∧ ∀ (i : Nat) (a : AV) (v : Value), cs[i]? = some a → vl[i]? = some v → VR g h a v
theorem vp_of {h : Array Obj} {cs : List AV} {vs : Array Value} (hl : cs.length ≤ vs.size) (hr : ∀ (i : Nat) (a : AV) (v : Value), cs[i]? = some a → vs[i]? = some v → VR g h a v) : VP g h cs vs.toList :=
  ⟨by rw [Array.length_toList]; exact hl, fun i a v h1 h2 => hr i a v h1 (by simpa using h2)⟩
theorem VP.drop {h : Array Obj} {cs : List AV} {vl : List Value} (hv : VP g h cs vl) (n : Nat) : VP g h (cs.drop n) (vl.drop n) := by
  refine ⟨by have := hv.1; simp only [List.length_drop]; omega, fun i a v h1 h2 => ?_⟩
  rw [List.getElem?_drop] at h1 h2
  exact hv.2 _ a v h1 h2
theorem VP.take {h : Array Obj} {cs : List AV} {vl : List Value} (hv : VP g h cs vl) {n : Nat} (hn : n ≤ cs.length) : VL g h (cs.take n) (vl.take n) := by
  refine ⟨by have := hv.1; simp only [List.length_take]; omega, fun i a v h1 h2 => ?_⟩
  rw [List.getElem?_take] at h1 h2
  split at h1
  · rename_i hi
    rw [if_pos hi] at h2
    exact hv.2 i a v h1 h2
  · cases h1
theorem VL.appendP {h : Array Obj} {cs ds : List AV} {vl ul : List Value} (hv : VL g h cs vl) (hu : VP g h ds ul) : VP g h (cs ++ ds) (vl ++ ul) := by
  refine ⟨by have := hv.1; have := hu.1; simp only [List.length_append]; omega, fun i a v h1 h2 => ?_⟩
  by_cases hi : i < cs.length
  · rw [List.getElem?_append_left hi] at h1
    rw [List.getElem?_append_left (by rw [← hv.1]; exact hi)] at h2
    exact hv.2 i a v h1 h2
  · rw [List.getElem?_append_right (by omega)] at h1
    rw [List.getElem?_append_right (by rw [← hv.1]; omega), ← hv.1] at h2
    exact hu.2 _ a v h1 h2
theorem VP.arr {h : Array Obj} {cs : List AV} {vl : List Value} (hv : VP g h cs vl) : cs.length ≤ vl.toArray.size ∧ ∀ (i : Nat) (a : AV) (v : Value), cs[i]? = some a → vl.toArray[i]? = some v → VR g h a v := ⟨by simpa using hv.1, fun i a v h1 h2 => hv.2 i a v h1 (by simpa using h2)⟩

/-! ### A box is read -/
theorem mem_load (hS : RelS Γ N g w a env m) {t : TypeId} {n : Nat} {x : Operand} {x' : X} (ho : o.op = .load t x) (hn : sizeT P t = some n) (hx : cX N x = some x') {nm : Nat} {m' : Mem} (hv : cmem Γ env m nm (.load (isAggT P t) n x') = some (r, m')) :
    ∃ v g' w', Did P a w o v w' ∧ Out Γ g w m g' w' m' ∧ VR g' w'.heap r v := by
  simp only [cmem] at hv
  split at hv
  · rename_i b off h1
    split at hv
    · rename_i cs fz hm
      obtain ⟨r', hr', he'⟩ := Option.map_eq_some_iff.1 hv
      simp only [Prod.mk.injEq] at he'
      obtain ⟨rfl, rfl⟩ := he'
      have hxv := cX_sound hS hx
      rw [h1] at hxv
      obtain ⟨k, hk, he⟩ := vr_ptr hxv
      obtain ⟨k', vs, T, hk', hh, hl, hvs, _⟩ := hS.rel.box b cs fz hm
      rw [hk] at hk'
      cases hk'
      obtain ⟨i, d, hi, hd, rfl⟩ := sizeT_spec hn
      have h2 := run_isAgg hd w
      have hcell : ∀ j v, vs[j]? = some v → w.cell? ⟨k, j, none⟩ = some v := fun j v hj => by simp [World.cell?, hh, hj]
      have key : ∃ v, (loadVar t ⟨k, off, none⟩).run P w = .ok v w ∧ VR g w.heap r' v := by
        unfold subA at hr'
        cases hb : isAggT P t with
        | true =>
          rw [hb] at hr' h2
          simp only [if_true] at hr'
          split at hr'
          · rename_i hle
            cases hr'
            have hld := run_loadCells_list (P := P) w ⟨k, off, none⟩ (vs.extract off (off + i.size)).toList (fun j v hj => by
              rw [add_spot rfl]
              refine hcell _ _ ?_
              rw [Array.getElem?_toList, Array.getElem?_extract] at hj
              split at hj
              · exact hj
              · cases hj)
            have hsz : (vs.extract off (off + i.size)).toList.length = i.size := by simp; omega
            rw [hsz] at hld
            exact ⟨.agg (vs.extract off (off + i.size)), by simp only [loadVar, Sem.run_bind, h2, Result.andThen_ok, if_true, run_sizeOf hn w, hld, Sem.run_pure], vr_agg_sub hl hvs hle⟩
          · cases hr'
        | false =>
          rw [hb] at hr' h2
          simp only [Bool.false_eq_true, if_false] at hr'
          have hlt : off < vs.size := Nat.lt_of_lt_of_le (List.getElem?_eq_some_iff.1 hr').1 hl
          have hld : (Go.load ⟨k, off, none⟩).run P w = .ok vs[off] w := by
            unfold Go.load
            simp only [Sem.run, hcell off _ (Array.getElem?_eq_getElem hlt)]
          exact ⟨vs[off], by simp only [loadVar, Sem.run_bind, h2, Result.andThen_ok, Bool.false_eq_true, if_false, hld], hvs off r' _ hr' (Array.getElem?_eq_getElem hlt)⟩
      obtain ⟨v, h3, h4⟩ := key
      refine ⟨v, g, w, .inl ?_, Out.refl hS.rel, h4⟩
      unfold execOp
      simp only [ho, he]
      refine exec_val' ?_
      simp [Instr.loadAt, Instr.sureAddr, h3]
    · cases hv
  · cases hv

/-! ### A box is written -/
theorem mem_store (hS : RelS Γ N g w a env m) {t : TypeId} {n : Nat} {x y : Operand} {x' y' : X} (ho : o.op = .store t x y) (hn : sizeT P t = some n) (hx : cX N x = some x') (hy : cX N y = some y') {nm : Nat} {m' : Mem} (hv : cmem Γ env m nm (.store n x' y') = some (r, m')) :
    ∃ v g' w', Did P a w o v w' ∧ Out Γ g w m g' w' m' ∧ VR g' w'.heap r v := by
  simp only [cmem] at hv
  split at hv
  · rename_i b off h1
    split at hv
    · rename_i cs hm
      split at hv
      · rename_i hc
        cases hv
        simp only [Bool.and_eq_true, List.all_eq_true, beq_iff_eq, decide_eq_true_eq] at hc
        obtain ⟨⟨⟨hce, hone⟩, hlen⟩, hle⟩ := hc
        have hxv := cX_sound hS hx
        rw [h1] at hxv
        obtain ⟨k, hk, he⟩ := vr_ptr hxv
        obtain ⟨k', vs, T, hk', hh, hl, hvs, hu⟩ := hS.rel.box b cs false hm
        rw [hk] at hk'
        cases hk'
        have hyv := cX_sound hS hy
        have hcv := vr_cells hyv (celled_or hce)
        generalize hV : a.eval y = V at hyv hcv
        have hVs : V.cells.size = n := by rw [← hcv.1, hlen]
        have hone' : ∀ v ∈ V.cells.toList, v.oneCell' = true := by
          intro v hv'
          obtain ⟨i, hi⟩ := List.mem_iff_getElem?.1 hv'
          have hlt : i < (y'.ev Γ env).cells.length := by rw [hcv.1]; have := (List.getElem?_eq_some_iff.1 hi).1; simpa using this
          exact vr_oneCell (hcv.2 i _ v (List.getElem?_eq_getElem hlt) (by simpa using hi)) (hone _ (List.getElem_mem hlt))
        have hst := run_storeCells_at (P := P) k off T V.cells.toList 0 vs w hh (by simp [hVs]; omega) hone'
        simp only [Nat.add_zero] at hst
        refine ⟨undef, g, w.setRow k (vs.toList.take off ++ V.cells.toList ++ vs.toList.drop (off + V.cells.toList.length)).toArray, .inr ⟨?_, rfl⟩, ?_, .junk⟩
        · unfold execOp
          simp only [ho, he, hV]
          simp [Instr.storeAt, Instr.sureAddr, storeVar, run_sizeOf hn, hVs, hst]
        · have hsp := ((VL.append ((vp_of hl hvs).take (by omega : off ≤ cs.length)) hcv.list).appendP ((vp_of hl hvs).drop (off + n))).arr
          have e : off + V.cells.toList.length = off + n := by simp [hVs]
          rw [e]
          exact hS.rel.store hm hk hh _ _ hsp.1 hsp.2 (heap_setRow hh) (sameW_setRow _ _ _)
      · cases hv
    · cases hv
  · cases hv
end
end Go.Shade
