/- Functions that make a map of numbers once and hand it back. Own work. -/
import Derived.Test.YthigibfnpfamdaaDoorSub
import Derived.WideMake
namespace Go.Shade
open Go
variable {P : Program} {Γ : Globs} {g : Gh} {w w' : World} {m : Mem}

theorem Rel.newMap (hR : Rel Γ g w m) (es : Array MapEntry) (c : Nat) (hh : w'.heap = w.heap.push (.map es c)) (hs : SameW w w') : Out Γ g w m g w' m := by
  have hb : Pers g.U w.heap g.U w'.heap := by rw [hh]; exact pers_push (fun _ _ h => h) (fun _ _ h => hR.lt h)
  have hfz : ∀ a : Addr, a.block < w.heap.size → w'.frozen? a = w.frozen? a := fun a ha => by
    have h1 : w'.heap[a.block]? = w.heap[a.block]? := by rw [hh, push_old ha]
    simp only [World.frozen?, h1]
  refine ⟨hR.update (GhLe.refl _) hb (fun _ => False) (fun k => k = w.heap.size) (fun _ _ => rfl) (fun _ _ => rfl) (fun _ _ => rfl) ?_ ?_ (fun _ h => h.elim) (fun _ _ _ h => h.elim) (fun _ h => h.elim) (fun _ _ _ h => h.elim) ?_, ?_, GhLe.refl _, fun _ _ => ⟨rfl, rfl⟩, fun _ h => h⟩
  · intro k hk _
    exact ⟨by rw [hh, push_old hk], rfl⟩
  · intro i k _ ho hD
    exact absurd (hR.holds_lt ho) (by omega)
  · intro k u hu
    obtain ⟨vs', T', fr', hk', hle'⟩ := hR.ulen k u hu
    exact ⟨vs', T', fr', by rw [hh, push_old (lt_size hk')]; exact hk', hle'⟩
  · exact ⟨hs.os, hs.tape, hs.output, fun a ha _ => hfz a ha, by rw [hh]; simp, fun k hk _ => ⟨by rw [hh, push_old hk], rfl⟩, hb, fun i k _ ho => ⟨i, ho⟩, fun i k _ ho => ⟨i, ho⟩⟩

def mapW (w : World) (es : Array MapEntry) (c : Nat) : World := { w with heap := w.heap.push (.map es c) }
def prs (es : Array MapEntry) : List (Value × Value) := es.toList.map fun e => (e.key, e.val)
section
variable {ops : Array Oper} {Q : Exit → Act → World → Prop} {rest : List Oper} {o : Oper} {a : Act} {mt kt et : TypeId} {kk : IntKind} {t : Nat}
theorem wp_mk (ho : o.op = .makeMap mt none) (hg : o.guard = none) (hd : o.dst = some t) (h : wpList P ops Q rest (a.put (some t) (.map (some w.heap.size))) (mapW w #[] 0)) : wpList P ops Q (o :: rest) a w := by
  refine wpList_plain hg fun K hK => ?_
  have hrun : (execOp a.eval o).run P w = .ok (.value (.map (some w.heap.size))) (mapW w #[] 0) := by
    unfold execOp
    simp only [ho]
    rfl
  unfold Oper.wp
  rw [hrun, Oper.upon_value, hd]
  exact hK _ _ h
theorem wp_ins (hm : P.underlying mt = some (.map kt et)) (hk : P.underlying kt = some (.int kk)) {n : Int} {k : Nat} {es : Array MapEntry} {c : Nat} (ho : o.op = .insert mt (.tmp t) (.const (.int kk n)) (.func k)) (hg : o.guard = none) (hd : o.dst = none) (hat : a.eval (.tmp t) = .map (some w.heap.size))
    (hall : (prs es).all (fun p => keyIs kk p.1) = true) (hno : findI n (prs es) = none) (h : wpList P ops Q rest a (mapW w (es.push { key := .int kk n, val := .func (.func k) #[] #[], born := c }) (c + 1))) : wpList P ops Q (o :: rest) a (mapW w es c) := by
  refine wpList_plain hg fun K hK => ?_
  have hh : (mapW w es c).heap[w.heap.size]? = some (.map es c) := by
    show (w.heap.push (.map es c))[w.heap.size]? = _
    simp
  have hgo : (getObj w.heap.size).run P (mapW w es c) = .ok (Obj.map es c) (mapW w es c) := by
    simp only [getObj, Sem.run, hh]
  have hck : (Instr.checkKey false 10000 kt (.int kk n)).run P (mapW w es c) = .ok () (mapW w es c) := by
    rw [show (10000 : Nat) = 9999 + 1 from rfl, Instr.checkKey]
    simp [run_underlying hk]
  have hf := (find_now (kd := kk) (kk := kk) (n := n) es.toList 0 hall).1 hno
  have hset : ∀ o' : Obj, (setObj w.heap.size o').run P (mapW w es c) = .ok () { w with heap := w.heap.push o' } := fun o' => by
    simp only [setObj, Sem.run, hh]
    have : (w.heap.push (Obj.map es c)).setIfInBounds w.heap.size o' = w.heap.push o' := by
      apply Array.ext_getElem?
      intro i
      simp only [Array.getElem?_setIfInBounds, Array.getElem?_push, Array.size_push]
      by_cases hi : w.heap.size = i
      · subst hi; simp
      · have : ¬ i = w.heap.size := fun e => hi e.symm
        simp [hi, this]
    show Result.ok () { mapW w es c with heap := (w.heap.push (Obj.map es c)).setIfInBounds w.heap.size o' } = _
    rw [this]
    rfl
  have hrun : (execOp a.eval o).run P (mapW w es c) = .ok .skip (mapW w (es.push { key := .int kk n, val := .func (.func k) #[] #[], born := c }) (c + 1)) := by
    unfold execOp
    simp only [ho, hat]
    simp [Instr.mapUpdate, run_underlying hm, hgo, hck, Instr.findKey, run_underlying hk, hf, hset, Act.eval]
    rfl
  unfold Oper.wp
  rw [hrun, Oper.upon_skip, hd]
  exact hK _ _ h
theorem wp_mvL {x : Operand} (ho : o.op = .move x ∨ o.op = .assign x) (hg : o.guard = none) (h : wpList P ops Q rest (a.put o.dst (a.eval x)) w) : wpList P ops Q (o :: rest) a w := by
  refine wpList_plain hg fun K hK => ?_
  have hrun : (execOp a.eval o).run P w = .ok (.value (a.eval x)) w := by
    unfold execOp
    rcases ho with ho | ho <;> (simp only [ho]; rfl)
  unfold Oper.wp
  rw [hrun, Oper.upon_value]
  exact hK _ _ h
/-- What the made map is, to the caller. -/
theorem map_post (hR : Rel Γ g w (memL [])) (es : Array MapEntry) (c : Nat) : GoodPost Γ g w (memL []) (.ret (.cmap (prs es))) (memL []) (.returned (.map (some w.heap.size))) (mapW w es c) := by
  have ho := hR.newMap (w' := mapW w es c) es c rfl ⟨rfl, rfl, rfl⟩
  exact ⟨_, g, rfl, ⟨ho.rel, ho.st, fun _ _ => ⟨rfl, rfl⟩⟩, .cmap (l := es) (t := c) (by show (w.heap.push (.map es c))[w.heap.size]? = _; simp) rfl⟩
theorem map_post' (hR : Rel Γ g w (memL [])) {es : Array MapEntry} {c : Nat} {L : List (Value × Value)} (he : prs es = L) : GoodPost Γ g w (memL []) (.ret (.cmap L)) (memL []) (.returned (.map (some w.heap.size))) (mapW w es c) := he ▸ map_post hR es c
end
end Go.Shade
