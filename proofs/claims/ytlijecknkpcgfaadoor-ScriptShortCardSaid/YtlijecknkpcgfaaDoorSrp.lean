/- A region that draws its order and whose last operation waits for all the others: the last one may panic. Own work. -/
import Derived.Test.YtlijecknkpcgfaaDoorZ3
namespace Go.Shade
open Go

section
variable {P : Program} {N : Nat} {Γ : Globs} {R : RD} {g0 : Gh} {w0 : World} {m0 : Mem}

/-- Each of the first n is waited for by a later one of the first n + 1. -/
def waited (bef : List (List Nat)) (n : Nat) : Bool :=
  (List.range n).all fun j => (List.range (n + 1)).any fun k => decide (j < k) && (bef.getD k []).contains j
theorem waited_spec {bef : List (List Nat)} {n : Nat} (h : waited bef n = true) {T : Nat → Prop} (hT : down bef T) (hn : T n) : ∀ j, j ≤ n → T j := by
  have : ∀ d j, j ≤ n → n - j = d → T j := by
    intro d
    induction d using Nat.strongRecOn with
    | _ d ih =>
      intro j hj hd
      by_cases e : j = n
      · subst e; exact hn
      · have h1 := List.all_eq_true.1 h j (by simp; omega)
        obtain ⟨k, hk, hk'⟩ := List.any_eq_true.1 h1
        simp only [Bool.and_eq_true, decide_eq_true_eq] at hk'
        obtain ⟨hjk, hc⟩ := hk'
        have hkn : k ≤ n := by simp at hk; omega
        have hTk := ih (n - k) (by omega) k hkn rfl
        have hmem : j ∈ bef.getD k [] := by simpa using hc
        rw [List.getD_eq_getElem?_getD] at hmem
        cases hb : bef[k]? with
        | none => rw [hb] at hmem; simp at hmem
        | some b => rw [hb] at hmem; exact hT k b hb hTk j (by simpa using hmem)
  intro j hj
  exact this (n - j) j hj rfl

theorem any_last {ops : Array Oper} {l0 : List CO} {cl : CO} (hops : ops.toList.mapM (cO P N ops) = some ((l0 ++ [cl]).map CO.er)) {ss : List LS} (hss : ss.map LS.c = l0) {e0 : EM} (hL : Locs P Γ ss e0)
    {bef0 : List (List Nat)} (hb0 : (befs ops).take ss.length = bef0) (hlast : waited (befs ops) ss.length = true) (hself : ∀ b, (befs ops)[ss.length]? = some b → ∀ k ∈ b, k < ss.length)
    (hI : indep l0 bef0 ((ss.map fun s => (s.F, s.W)).reverse) = true) {Q : Exit → Act → World → Prop} {pn : Value → (Nat → AV) → Mem → Prop} {K' : (Nat → AV) → Mem → Prop}
    (hrunL : runOps P Γ pn [cl] (thro ss e0).1 (thro ss e0).2 K')
    (hQ : ∀ g w a env m, IS Γ N R g0 w0 m0 g w a env m → K' env m → Q .normal a w)
    (hP : ∀ v g w a env m, IS Γ N R g0 w0 m0 g w a env m → pn v env m → Q (.panic [{ v := v, recovered := false }]) a w) :
    ∀ (fuel : Nat) (listed : Array Bool) (g : Gh) (w : World) (a : Act), listed.size = ops.size → listed.toList.count false = fuel → down (befs ops) (on listed) → ¬ on listed ss.length →
      IS Γ N R g0 w0 m0 g w a (foldS (on listed) 0 ss e0).1 (foldS (on listed) 0 ss e0).2 → wpAny P .any ops Q fuel listed a w := by
  subst hss
  subst hb0
  obtain ⟨hlt0, hconf⟩ := indep_spec hI
  obtain ⟨hlen, hget⟩ := mapM_get hops
  have hn : ss.length + 1 = ops.size := by simpa using hlen.symm
  have hbl : (befs ops).length = ops.size := by simp [befs]
  have hlt : ∀ (j : Nat) b, (befs ops)[j]? = some b → ∀ k ∈ b, k < j := by
    intro j b hb k hk
    by_cases hj : j < ss.length
    · exact hlt0 j b (by rw [List.getElem?_take, if_pos hj]; exact hb) k hk
    · have hj2 : j < ops.size := by
        have := (List.getElem?_eq_some_iff.1 hb).1
        omega
      have : j = ss.length := by omega
      subst this
      exact hself b hb k hk
  have hdown0 : ∀ T, down (befs ops) T → down ((befs ops).take ss.length) T := by
    intro T hT j b hb
    rw [List.getElem?_take] at hb
    split at hb
    · exact hT j b hb
    · cases hb
  have hbef : ∀ (i : Nat) o, ops[i]? = some o → (befs ops)[i]? = some ((o.after.toList.filter fun e => Region.binds .any e).map (·.on)) := fun i o ho => by
    unfold befs
    rw [List.getElem?_map, Array.getElem?_toList, ho]
    rfl
  have ready : ∀ (listed : Array Bool), listed.size = ops.size → Region.ready .any ops listed = [] → ∀ j, j < ops.size → on listed j := by
    intro listed hsz hr j
    induction j using Nat.strongRecOn with
    | _ j ih =>
      intro hj
      by_cases hon : on listed j
      · exact hon
      · exfalso
        have hmem : j ∈ Region.ready .any ops listed := by
          refine mem_ready.2 ⟨?_, ops[j], Array.getElem?_eq_getElem hj, fun e he hb => ?_⟩
          · unfold on at hon
            rw [Array.getD_eq_getD_getElem?, Array.getElem?_eq_getElem (by omega)] at hon ⊢
            simpa using hon
          · have hb' := hbef j _ (Array.getElem?_eq_getElem hj)
            have hlt' := hlt j _ hb' e.on (List.mem_map.2 ⟨e, List.mem_filter.2 ⟨by simpa using he, hb⟩, rfl⟩)
            exact ih e.on hlt' (by omega)
        rw [hr] at hmem
        cases hmem
  have full : ∀ (listed : Array Bool), listed.size = ops.size → (∀ j, j < ops.size → on listed j) → Region.ready .any ops listed = [] := by
    intro listed hsz hall
    rw [List.eq_nil_iff_forall_not_mem]
    intro j hj
    obtain ⟨h1, o, ho, _⟩ := mem_ready.1 hj
    have hjs := (Array.getElem?_eq_some_iff.1 ho).1
    have h2 := hall j hjs
    unfold on at h2
    rw [Array.getD_eq_getD_getElem?, Array.getElem?_eq_getElem (by omega)] at h1 h2
    simp only [Option.getD_some] at h1 h2
    rw [h1] at h2
    cases h2
  intro fuel
  induction fuel with
  | zero =>
    intro listed g w a hsz hc hd hno hS
    exfalso
    have hl : ss.length < listed.size := by omega
    have hmem : listed[ss.length] ∈ listed.toList := Array.mem_def.1 (Array.getElem_mem hl)
    rw [List.count_eq_zero] at hc
    unfold on at hno
    rw [Array.getD_eq_getD_getElem?, Array.getElem?_eq_getElem hl] at hno
    simp only [Option.getD_some, Bool.not_eq_true] at hno
    rw [hno] at hmem
    exact hc hmem
  | succ fuel ih =>
    intro listed g w a hsz hc hd hno hS
    refine ⟨fun hr => (hno (ready listed hsz hr _ (by omega))).elim, fun i hi => ?_⟩
    obtain ⟨h0, o, ho, hall⟩ := mem_ready.1 hi
    have hil : i < listed.size := by rw [hsz]; exact (Array.getElem?_eq_some_iff.1 ho).1
    have hnon : ¬ on listed i := by
      unfold on
      rw [Array.getD_eq_getD_getElem?, Array.getElem?_eq_getElem hil] at h0 ⊢
      simpa using h0
    have hdown : down (befs ops) (on (listed.setIfInBounds i true)) := by
      intro j b hb hj k hk
      rw [on_set hil] at hj ⊢
      rcases hj with rfl | hj
      · rw [hbef _ o ho] at hb
        cases hb
        obtain ⟨e, he, rfl⟩ := List.mem_map.1 hk
        obtain ⟨he1, he2⟩ := List.mem_filter.1 he
        exact .inr (hall e (by simpa using he1) he2)
      · exact .inr (hd j b hb hj k hk)
    by_cases hin : i = ss.length
    · -- the last one: all the others went ahead
      subst hin
      have hallon : ∀ j, j ≤ ss.length → on (listed.setIfInBounds ss.length true) j := waited_spec hlast hdown ((on_set hil).2 (.inl rfl))
      have hon : ∀ j, j < ss.length → on listed j := fun j hj => ((on_set hil).1 (hallon j (by omega))).resolve_left (by omega)
      obtain ⟨c, hci, hco⟩ := hget ss.length o (by simpa using ho)
      rw [List.getElem?_map, List.getElem?_append_right (by simp)] at hci
      simp only [List.length_map, Nat.sub_self, List.getElem?_cons_zero, Option.map_some, Option.some.injEq] at hci
      subst hci
      have hth : thro ss e0 = foldS (on listed) 0 ss e0 := thro_fold (on listed) ss 0 e0 (fun n hlt => hon n (by omega))
      rw [← hth] at hS
      have hrd : Region.ready .any ops (listed.setIfInBounds ss.length true) = [] := full _ (by simpa using hsz) (fun j hj => hallon j (by omega))
      have fin : ∀ (a : Act) (w : World), Q .normal a w → wpAny P .any ops Q fuel (listed.setIfInBounds ss.length true) a w := by
        intro a w hq
        cases fuel with
        | zero => exact ⟨hrd, hq⟩
        | succ f => exact ⟨fun _ => hq, fun i hi => by rw [hrd] at hi; cases hi⟩
      exact runOps_one ho hco hS hrunL (fun g w a env m hS' hk => fin a w (hQ g w a env m hS' hk)) hP
    have hi0 : i < ss.length := by omega
    obtain ⟨c, hci, hco⟩ := hget i o (by simpa using ho)
    rw [List.getElem?_map, List.getElem?_append_left (by simpa using hi0), List.getElem?_map, Option.map_map] at hci
    obtain ⟨s, hs, rfl⟩ := Option.map_eq_some_iff.1 hci
    obtain ⟨e', hloc, he'⟩ := locs_at hL i s 0 hs
    have he' := he' (fun n => n < i) (fun n => by rw [Nat.zero_add])
    have hdiff : ∀ j t, ss[j]? = some t → ¬ (j < i ↔ on listed j) → ¬ s.conf t ∧ ¬ t.conf s := by
      intro j t ht hne
      by_cases hji : j < i
      · have hnj : ¬ on listed j := fun h => hne ⟨fun _ => h, fun _ => hji⟩
        have h1 := hconf (on (listed.setIfInBounds i true)) (hdown0 _ hdown) j i t s ht hs hji ((on_set hil).2 (.inl rfl))
        have h2 : ¬ t.conf s := h1.resolve_left (fun h => by
          rcases (on_set hil).1 h with h | h
          · omega
          · exact hnj h)
        refine ⟨fun h => h2 ?_, h2⟩
        rcases h with ⟨d, hd, h | h⟩ | ⟨d, hd, h⟩ | ⟨n, hn, h⟩ | ⟨n, hn, h⟩
        · exact .inl ⟨d, h, .inl hd⟩
        · exact .inr (.inl ⟨d, hd, h⟩)
        · exact .inl ⟨d, hd, .inr h⟩
        · exact .inr (.inr (.inr ⟨n, hn, h⟩))
        · exact .inr (.inr (.inl ⟨n, hn, h⟩))
      · have hoj : on listed j := Classical.byContradiction fun h => hne ⟨fun h' => absurd h' hji, fun h' => absurd h' h⟩
        have hne' : j ≠ i := fun h => hnon (h ▸ hoj)
        have h1 := hconf (on listed) (hdown0 _ hd) i j s t hs ht (by omega) hoj
        have h2 : ¬ s.conf t := h1.resolve_left hnon
        refine ⟨h2, fun h => h2 ?_⟩
        rcases h with ⟨d, hd, h | h⟩ | ⟨d, hd, h⟩ | ⟨n, hn, h⟩ | ⟨n, hn, h⟩
        · exact .inl ⟨d, h, .inl hd⟩
        · exact .inr (.inl ⟨d, hd, h⟩)
        · exact .inl ⟨d, hd, .inr h⟩
        · exact .inr (.inr (.inr ⟨n, hn, h⟩))
        · exact .inr (.inr (.inl ⟨n, hn, h⟩))
    have hE : ∀ x ∈ s.c.rd, (foldS (on listed) 0 ss e0).1 x = e'.1 x := fun x hx => by
      rw [he']
      refine foldS_env ss 0 e0 e0 rfl (fun j t ht hne hdst => ?_)
      rw [Nat.zero_add] at hne
      exact (hdiff j t ht hne).1 (.inr (.inl ⟨x, hdst, hx⟩))
    have hM : ∀ n ∈ s.F, (foldS (on listed) 0 ss e0).2 n = e'.2 n := fun n hn => by
      rw [he']
      refine foldS_mem ss 0 e0 e0 rfl (fun j t ht hne hw => ?_)
      rw [Nat.zero_add] at hne
      exact (hdiff j t ht hne).1 (.inr (.inr (.inr ⟨n, hw, hn⟩)))
    have hrun := hloc.run (foldS (on listed) 0 ss e0) hE hM (fun _ _ _ => False) (fun env m => (env, m) = s.next (foldS (on listed) 0 ss e0)) rfl
    refine runOps_one ho hco hS hrun (fun g w a env m hS' heq => ?_) (fun v g w a env m _ h => h.elim)
    have hadd : foldS (on (listed.setIfInBounds i true)) 0 ss e0 = s.next (foldS (on listed) 0 ss e0) := by
      refine foldS_add ss 0 i s e0 hs (by omega) hnon (fun n => on_set hil) hloc.sub (fun j t ht hij hoj => ?_)
      rw [Nat.zero_add] at hoj
      exact (hdiff j t ht (fun h => by have := h.2 hoj; omega)).1
    refine ih (listed.setIfInBounds i true) g w a (by simpa using hsz) ?_ hdown ?_ ?_
    · have h1 : listed[i] = false := by
        rw [Array.getD_eq_getD_getElem?, Array.getElem?_eq_getElem hil] at h0
        simpa using h0
      rw [Array.toList_setIfInBounds, List.count_set (by simpa using hil)]
      simp [h1, hc]
    · rw [on_set hil]
      rintro (h | h)
      · omega
      · exact hno h
    · rw [hadd, ← heq]
      exact hS'

theorem vld_last0 (hm : P.follows .mixedOrders = true) {Q : QS} {env : Nat → AV} {m : Mem} {l0 : List CO} {cl : CO} {bef : List (List Nat)} (hw : waited bef l0.length = true) (hself : (bef.getD l0.length []).all (fun k => decide (k < l0.length)) = true)
    (h : runT P Γ l0 env m [] (fun env m tr => indep l0 (bef.take l0.length) tr = true ∧ runOps P Γ (fun v env m => Q (.pan v) env m) [cl] env m (fun env m => Q .normal env m))) : Vld P Γ N R (.regd (l0 ++ [cl]) bef) Q env m := by
  intro c0 hc g0 w0 m0 g w a hS
  simp only [erase] at hc
  cases c0 with
  | region id ops dr =>
    simp only [cC] at hc
    obtain ⟨l', hl', hl⟩ := Option.map_eq_some_iff.1 hc
    split at hl
    · rename_i hdr
      simp only [CC.regd.injEq] at hl
      obtain ⟨rfl, rfl⟩ := hl
      subst hdr
      obtain ⟨ss, h1, h2, h3, h4⟩ := run_loc h
      rw [List.append_nil] at h3
      have hsl : ss.length = l0.length := by rw [← h1]; simp
      have hself' : ∀ b, (befs ops)[ss.length]? = some b → ∀ k ∈ b, k < ss.length := by
        intro b hb k hk
        rw [hsl] at hb ⊢
        rw [List.getD_eq_getElem?_getD, hb] at hself
        simpa using List.all_eq_true.1 hself k hk
      rw [← hsl] at h3 hw
      refine wp_region_any hm (any_last hl' h1 h2 rfl hw hself' h3 (Q := Lift Γ N R g0 w0 m0 Q) (g0 := g0) (w0 := w0) (m0 := m0) (R := R) h4 (fun g w a env m hS' he => ⟨g, env, m, hS', he⟩)
        (fun v g w a env m hS' he => ⟨v, g, env, m, rfl, hS', he⟩) ops.size _ g _ a (by simp) (by simp) ?_ ?_ ?_)
      · intro j b _ hj
        unfold on at hj
        rw [Array.getD_eq_getD_getElem?] at hj
        simp only [Array.getElem?_replicate] at hj
        split at hj <;> simp at hj
      · intro hj
        unfold on at hj
        rw [Array.getD_eq_getD_getElem?] at hj
        simp only [Array.getElem?_replicate] at hj
        split at hj <;> simp at hj
      · have none : ∀ (l : List LS) (k : Nat) (e : EM), foldS (on (Array.replicate ops.size false)) k l e = e := by
          intro l
          induction l with
          | nil => intro _ _; rfl
          | cons t l ih =>
            intro k e
            simp only [foldS]
            rw [if_neg (fun h => ?_), ih]
            unfold on at h
            rw [Array.getD_eq_getD_getElem?] at h
            simp only [Array.getElem?_replicate] at h
            split at h <;> simp at h
        rw [none]
        have ho := hS.rel.rel.same (w' := { w with drawn := w.drawn + 1 }) rfl ⟨rfl, rfl, rfl⟩
        exact ⟨⟨ho.rel, hS.rel.size, hS.rel.env⟩, hS.st.trans ho.st, hS.nm, hS.dfs⟩
    · cases hl
  | seq x y => simp only [cC] at hc; split at hc <;> cases hc
  | cond x y z => simp only [cC] at hc; split at hc <;> cases hc
  | block i x => simp only [cC] at hc; obtain ⟨_, _, hl⟩ := Option.map_eq_some_iff.1 hc; cases hl
  | loop x => simp only [cC] at hc; obtain ⟨_, _, hl⟩ := Option.map_eq_some_iff.1 hc; cases hl
  | _ => cases hc
end

section
variable {P : Program} {Γ : Globs} {N : Nat} {R : RD} {Q : QE} {L : EL} {M : ML} {fs : List Fr}
def lastQ (P : Program) (Γ : Globs) (N : Nat) (R : RD) (Q : QE) (cl : CO) (fs : List Fr) : QE
  | .normal, L, M => opsS P Γ N R Q [cl] fs L M
  | _, _, _ => False
theorem last_n {cl : CO} {R' : RD} : exS P Γ N R' (lastQ P Γ N R Q cl fs) .normal [] L M = opsS P Γ N R Q [cl] fs L M := nd rfl
theorem vld_last (hm : P.follows .mixedOrders = true) {l : List CO} (l0 : List CO) (cl : CO) {bef : List (List Nat)} (bef0 : List (List Nat)) (e1 : l = l0 ++ [cl]) (e2 : bef.take l0.length = bef0) (hw : waited bef l0.length = true)
    (hself : (bef.getD l0.length []).all (fun k => decide (k < l0.length)) = true) (h : opsT P Γ N R (lastQ P Γ N R Q cl fs) ⟨l0, bef0⟩ [] l0 [] L M) : codeS P Γ N R Q (.vld (.regd l bef)) fs L M := by
  subst e1
  subst e2
  show Vld P Γ N R (.regd (l0 ++ [cl]) bef) (toQ (QF P Γ N R Q fs)) (look L) (memL M)
  refine vld_last0 hm hw hself (runT_mono ?_ (runTE_sound h))
  rintro env m t ⟨L, M, rfl, rfl, h1, h2⟩
  have h2 : opsS P Γ N R Q [cl] fs L M := h2
  exact ⟨h1, runE_sound h2⟩
theorem vld_go (hm : P.follows .mixedOrders = true) {c : CC} (h : codeS P Γ N R Q c fs L M) : codeS P Γ N R Q (.vld c) fs L M := wlE_sound hm h
/-- The same of eight operations. -/
theorem vld_last8 (hm : P.follows .mixedOrders = true) {o0 o1 o2 o3 o4 o5 o6 o7 : CO} {bef : List (List Nat)} (hw : waited bef 7 = true) (hself : (bef.getD 7 []).all (fun k => decide (k < 7)) = true)
    (h : opsT P Γ N R (lastQ P Γ N R Q o7 fs) ⟨[o0, o1, o2, o3, o4, o5, o6], bef.take 7⟩ [] [o0, o1, o2, o3, o4, o5, o6] [] L M) : codeS P Γ N R Q (.vld (.regd [o0, o1, o2, o3, o4, o5, o6, o7] bef)) fs L M := vld_last hm [o0, o1, o2, o3, o4, o5, o6] o7 (bef.take 7) rfl rfl hw hself h
end
attribute [go_sem ↓] last_n
end Go.Shade
