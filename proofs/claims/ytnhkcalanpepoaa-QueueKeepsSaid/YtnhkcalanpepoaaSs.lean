/- The rule for regions that draw their order. Own work. -/
import Derived.Test.YtnhkcalanpepoaaSr
namespace Go.Shade
open Go

section
variable {P : Program} {N : Nat} {Γ : Globs} {R : RD} {g0 : Gh} {w0 : World} {m0 : Mem}

def on (listed : Array Bool) (j : Nat) : Prop := listed.getD j false = true
instance (listed : Array Bool) : DecidablePred (on listed) := fun j => inferInstanceAs (Decidable (listed.getD j false = true))

theorem on_set {listed : Array Bool} {i n : Nat} (hi : i < listed.size) : on (listed.setIfInBounds i true) n ↔ (n = i ∨ on listed n) := by
  unfold on
  rw [Array.getD_eq_getD_getElem?, Array.getD_eq_getD_getElem?, Array.getElem?_setIfInBounds]
  by_cases h : i = n
  · subst h; simp [hi]
  · simp [h, Ne.symm h]

theorem mapM_get {α β : Type} {f : α → Option β} : ∀ {l : List α} {r : List β}, l.mapM f = some r → l.length = r.length ∧ ∀ (i : Nat) x, l[i]? = some x → ∃ y, r[i]? = some y ∧ f x = some y
  | [], r, h => by
    simp only [List.mapM_nil, pure, Option.some.injEq] at h
    subst h
    exact ⟨rfl, fun i x h => by simp at h⟩
  | a :: l, r, h => by
    simp only [List.mapM_cons, bind, Option.bind_eq_some_iff, pure, Option.some.injEq] at h
    obtain ⟨b, hb, r', hr, rfl⟩ := h
    obtain ⟨h1, h2⟩ := mapM_get hr
    refine ⟨by simp [h1], fun i x hx => ?_⟩
    cases i with
    | zero => simp at hx; subst hx; exact ⟨b, rfl, hb⟩
    | succ i => exact h2 i x (by simpa using hx)

theorem runOps_one {ops : Array Oper} {i : Nat} {o : Oper} {c : CO} (ho : ops[i]? = some o) (hc : cO P N ops o = some c.er) {g : Gh} {w : World} {a : Act} {env : Nat → AV} {m : Mem} (hS : IS Γ N R g0 w0 m0 g w a env m)
    {K' : (Nat → AV) → Mem → Prop} {pn : Value → (Nat → AV) → Mem → Prop} {K : Act → World → Prop} {Q : Exit → Act → World → Prop} (hr : runOps P Γ pn [c] env m K')
    (hK : ∀ g w a env m, IS Γ N R g0 w0 m0 g w a env m → K' env m → K a w) (hP : ∀ v g w a env m, IS Γ N R g0 w0 m0 g w a env m → pn v env m → Q (.panic [{ v := v, recovered := false }]) a w) : wpOp P ops Q i K a w := by
  obtain ⟨_, hd, _, hg⟩ := cO_op hc
  have hd : o.dst = c.dst := hd
  simp only [CO.er] at hg
  unfold wpOp
  rw [ho]
  simp only
  unfold runOps at hr
  rcases hg with ⟨h1, h2⟩ | ⟨j, b, q, d, h1, h2, h3, hdN, h4⟩
  · rw [h2] at hr
    rw [if_pos (by simp [Region.wanted, h1])]
    exact .inl (step_sound hS hc hr hK hP)
  · rw [h4] at hr
    simp only at hr
    split at hr
    · rename_i t he
      have hw := guard_wanted hS h1 h2 h3 he hdN
      rw [hw]
      split at hr
      · rename_i htb
        rw [if_pos (by simp [htb])]
        exact .inl (step_sound hS hc hr hK hP)
      · rename_i htb
        rw [if_neg (by simp [htb]), hd]
        exact hK _ _ _ _ _ (hS.junk c.dst) hr
    · rename_i t he
      rw [guard_not hS h1 h2 h3 he hdN, if_neg (by simp), hd]
      exact hK _ _ _ _ _ (hS.junk c.dst) hr
    · exact hr.elim

theorem any_order {ops : Array Oper} {lc : List CO} (hops : ops.toList.mapM (cO P N ops) = some (lc.map CO.er)) {ss : List LS} (hss : ss.map LS.c = lc) {e0 : EM} (hL : Locs P Γ ss e0)
    (hI : indep lc (befs ops) ((ss.map fun s => (s.F, s.W)).reverse) = true) {Q : Exit → Act → World → Prop}
    (hQ : ∀ g w a env m, IS Γ N R g0 w0 m0 g w a env m → (env, m) = thro ss e0 → Q .normal a w) :
    ∀ (fuel : Nat) (listed : Array Bool) (g : Gh) (w : World) (a : Act), listed.size = ops.size → listed.toList.count false = fuel → down (befs ops) (on listed) →
      IS Γ N R g0 w0 m0 g w a (foldS (on listed) 0 ss e0).1 (foldS (on listed) 0 ss e0).2 → wpAny P .any ops Q fuel listed a w := by
  subst hss
  obtain ⟨hlt, hconf⟩ := indep_spec hI
  obtain ⟨hlen, hget⟩ := mapM_get hops
  have hn : ss.length = ops.size := by simpa using hlen.symm
  have hbef : ∀ (i : Nat) o, ops[i]? = some o → (befs ops)[i]? = some ((o.after.toList.filter fun e => Region.binds .any e).map (·.on)) := fun i o ho => by
    unfold befs
    rw [List.getElem?_map, Array.getElem?_toList, ho]
    rfl
  have ready : ∀ (listed : Array Bool), listed.size = ops.size → Region.ready .any ops listed = [] → ∀ j, j < ops.size → on listed j := by
    intro listed hsz hr j
    induction j using Nat.strongRecOn with
    | _ j ih =>
      intro hj
      by_cases hon : on listed j
      · exact hon
      · exfalso
        have hmem : j ∈ Region.ready .any ops listed := by
          refine mem_ready.2 ⟨?_, ops[j], Array.getElem?_eq_getElem hj, fun e he hb => ?_⟩
          · unfold on at hon
            rw [Array.getD_eq_getD_getElem?, Array.getElem?_eq_getElem (by omega)] at hon ⊢
            simpa using hon
          · have hb' := hbef j _ (Array.getElem?_eq_getElem hj)
            have hlt' := hlt j _ hb' e.on (List.mem_map.2 ⟨e, List.mem_filter.2 ⟨by simpa using he, hb⟩, rfl⟩)
            exact ih e.on hlt' (by omega)
        rw [hr] at hmem
        cases hmem
  have fin : ∀ (listed : Array Bool) g w a, listed.size = ops.size → Region.ready .any ops listed = [] → IS Γ N R g0 w0 m0 g w a (foldS (on listed) 0 ss e0).1 (foldS (on listed) 0 ss e0).2 → Q .normal a w := by
    intro listed g w a hsz hr hS
    refine hQ g w a _ _ hS ?_
    exact (thro_fold (on listed) ss 0 e0 (fun n hlt => ready listed hsz hr n (by omega))).symm
  have ready' : ∀ (listed : Array Bool), listed.toList.count false = 0 → Region.ready .any ops listed = [] := by
    intro listed hc
    rw [List.eq_nil_iff_forall_not_mem]
    intro j hj
    obtain ⟨h1, _⟩ := mem_ready.1 hj
    rw [List.count_eq_zero] at hc
    refine hc ?_
    rw [Array.getD_eq_getD_getElem?] at h1
    cases hg : listed[j]? with
    | none => rw [hg] at h1; cases h1
    | some b =>
      rw [hg] at h1
      simp only [Option.getD_some] at h1
      subst h1
      exact Array.mem_def.1 (Array.mem_of_getElem? hg)
  intro fuel
  induction fuel with
  | zero =>
    intro listed g w a hsz hc hd hS
    exact ⟨ready' listed hc, fin listed g w a hsz (ready' listed hc) hS⟩
  | succ fuel ih =>
    intro listed g w a hsz hc hd hS
    refine ⟨fun hr => fin listed g w a hsz hr hS, fun i hi => ?_⟩
    obtain ⟨h0, o, ho, hall⟩ := mem_ready.1 hi
    obtain ⟨c, hci, hco⟩ := hget i o (by simpa using ho)
    rw [List.getElem?_map, List.getElem?_map, Option.map_map] at hci
    obtain ⟨s, hs, rfl⟩ := Option.map_eq_some_iff.1 hci
    have hil : i < listed.size := by rw [hsz]; exact (Array.getElem?_eq_some_iff.1 ho).1
    have hnon : ¬ on listed i := by
      unfold on
      rw [Array.getD_eq_getD_getElem?, Array.getElem?_eq_getElem hil] at h0 ⊢
      simpa using h0
    -- with i the set is still closed
    have hdown : down (befs ops) (on (listed.setIfInBounds i true)) := by
      intro j b hb hj k hk
      rw [on_set hil] at hj ⊢
      rcases hj with rfl | hj
      · rw [hbef _ o ho] at hb
        cases hb
        obtain ⟨e, he, rfl⟩ := List.mem_map.1 hk
        obtain ⟨he1, he2⟩ := List.mem_filter.1 he
        exact .inr (hall e (by simpa using he1) he2)
      · exact .inr (hd j b hb hj k hk)
    obtain ⟨e', hloc, he'⟩ := locs_at hL i s 0 hs
    have he' := he' (fun n => n < i) (fun n => by rw [Nat.zero_add])
    -- what i looks at is as the text has it
    have hdiff : ∀ j t, ss[j]? = some t → ¬ (j < i ↔ on listed j) → ¬ s.conf t ∧ ¬ t.conf s := by
      intro j t ht hne
      by_cases hji : j < i
      · have hnj : ¬ on listed j := fun h => hne ⟨fun _ => h, fun _ => hji⟩
        have h1 := hconf (on (listed.setIfInBounds i true)) hdown j i t s ht hs hji ((on_set hil).2 (.inl rfl))
        have h2 : ¬ t.conf s := h1.resolve_left (fun h => by
          rcases (on_set hil).1 h with h | h
          · omega
          · exact hnj h)
        refine ⟨fun h => h2 ?_, h2⟩
        rcases h with ⟨d, hd, h | h⟩ | ⟨d, hd, h⟩ | ⟨n, hn, h⟩ | ⟨n, hn, h⟩
        · exact .inl ⟨d, h, .inl hd⟩
        · exact .inr (.inl ⟨d, hd, h⟩)
        · exact .inl ⟨d, hd, .inr h⟩
        · exact .inr (.inr (.inr ⟨n, hn, h⟩))
        · exact .inr (.inr (.inl ⟨n, hn, h⟩))
      · have hoj : on listed j := Classical.byContradiction fun h => hne ⟨fun h' => absurd h' hji, fun h' => absurd h' h⟩
        have hne' : j ≠ i := fun h => hnon (h ▸ hoj)
        have h1 := hconf (on listed) hd i j s t hs ht (by omega) hoj
        have h2 : ¬ s.conf t := h1.resolve_left hnon
        refine ⟨h2, fun h => h2 ?_⟩
        rcases h with ⟨d, hd, h | h⟩ | ⟨d, hd, h⟩ | ⟨n, hn, h⟩ | ⟨n, hn, h⟩
        · exact .inl ⟨d, h, .inl hd⟩
        · exact .inr (.inl ⟨d, hd, h⟩)
        · exact .inl ⟨d, hd, .inr h⟩
        · exact .inr (.inr (.inr ⟨n, hn, h⟩))
        · exact .inr (.inr (.inl ⟨n, hn, h⟩))
    have hE : ∀ x ∈ s.c.rd, (foldS (on listed) 0 ss e0).1 x = e'.1 x := fun x hx => by
      rw [he']
      refine foldS_env ss 0 e0 e0 rfl (fun j t ht hne hdst => ?_)
      rw [Nat.zero_add] at hne
      exact (hdiff j t ht hne).1 (.inr (.inl ⟨x, hdst, hx⟩))
    have hM : ∀ n ∈ s.F, (foldS (on listed) 0 ss e0).2 n = e'.2 n := fun n hn => by
      rw [he']
      refine foldS_mem ss 0 e0 e0 rfl (fun j t ht hne hw => ?_)
      rw [Nat.zero_add] at hne
      exact (hdiff j t ht hne).1 (.inr (.inr (.inr ⟨n, hw, hn⟩)))
    have hrun := hloc.run (foldS (on listed) 0 ss e0) hE hM (fun _ _ _ => False) (fun env m => (env, m) = s.next (foldS (on listed) 0 ss e0)) rfl
    refine runOps_one ho hco hS hrun (fun g w a env m hS' heq => ?_) (fun v g w a env m _ h => h.elim)
    have hadd : foldS (on (listed.setIfInBounds i true)) 0 ss e0 = s.next (foldS (on listed) 0 ss e0) := by
      refine foldS_add ss 0 i s e0 hs (by omega) hnon (fun n => on_set hil) hloc.sub (fun j t ht hij hoj => ?_)
      rw [Nat.zero_add] at hoj
      exact (hdiff j t ht (fun h => by have := h.2 hoj; omega)).1
    refine ih (listed.setIfInBounds i true) g w a (by simpa using hsz) ?_ hdown ?_
    · have h1 : listed[i] = false := by
        rw [Array.getD_eq_getD_getElem?, Array.getElem?_eq_getElem hil] at h0
        simpa using h0
      rw [Array.toList_setIfInBounds, List.count_set (by simpa using hil)]
      simp [h1, hc]
    · rw [hadd, ← heq]
      exact hS'

theorem vld_regd (hm : P.follows .mixedOrders = true) {Q : QS} {env : Nat → AV} {m : Mem} {l : List CO} {bef : List (List Nat)}
    (h : runT P Γ l env m [] (fun env m tr => indep l bef tr = true ∧ Q .normal env m)) : Vld P Γ N R (.regd l bef) Q env m := by
  intro c0 hc g0 w0 m0 g w a hS
  simp only [erase] at hc
  cases c0 with
  | region id ops dr =>
    simp only [cC] at hc
    obtain ⟨l', hl', hl⟩ := Option.map_eq_some_iff.1 hc
    split at hl
    · rename_i hdr
      simp only [CC.regd.injEq] at hl
      obtain ⟨rfl, rfl⟩ := hl
      subst hdr
      obtain ⟨ss, h1, h2, h3, h4⟩ := run_loc h
      rw [List.append_nil] at h3
      refine wp_region_any hm (any_order hl' h1 h2 h3 (Q := Lift Γ N R g0 w0 m0 Q) (g0 := g0) (w0 := w0) (m0 := m0) (R := R) (fun g w a env m hS' he => ?_) ops.size _ g _ a (by simp) (by simp) ?_ ?_)
      · refine ⟨g, env, m, hS', ?_⟩
        have e1 : env = (thro ss (_, _)).1 := congrArg Prod.fst he
        have e2 : m = (thro ss (_, _)).2 := congrArg Prod.snd he
        rw [e1, e2]
        exact h4
      · intro j b _ hj
        unfold on at hj
        rw [Array.getD_eq_getD_getElem?] at hj
        simp only [Array.getElem?_replicate] at hj
        split at hj <;> simp at hj
      · have none : ∀ (l : List LS) (k : Nat) (e : EM), foldS (on (Array.replicate ops.size false)) k l e = e := by
          intro l
          induction l with
          | nil => intro _ _; rfl
          | cons t l ih =>
            intro k e
            simp only [foldS]
            rw [if_neg (fun h => ?_), ih]
            unfold on at h
            rw [Array.getD_eq_getD_getElem?] at h
            simp only [Array.getElem?_replicate] at h
            split at h <;> simp at h
        rw [none]
        have ho := hS.rel.rel.same (w' := { w with drawn := w.drawn + 1 }) rfl ⟨rfl, rfl, rfl⟩
        exact ⟨⟨ho.rel, hS.rel.size, hS.rel.env⟩, hS.st.trans ho.st, hS.nm, hS.dfs⟩
    · cases hl
  | seq x y => simp only [cC] at hc; split at hc <;> cases hc
  | cond x y z => simp only [cC] at hc; split at hc <;> cases hc
  | block i x => simp only [cC] at hc; obtain ⟨_, _, hl⟩ := Option.map_eq_some_iff.1 hc; cases hl
  | loop x => simp only [cC] at hc; obtain ⟨_, _, hl⟩ := Option.map_eq_some_iff.1 hc; cases hl
  | _ => cases hc
end
end Go.Shade
