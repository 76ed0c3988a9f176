/- A nil slice may be taken for an empty one of one's own. Own work. -/
import Derived.Test.YtnhkcalanpepoaaSx
namespace Go.Shade
open Go

theorem owns_upd_box {g : Gh} {m : Mem} {n : Nat} {cs cs' : List AV} (hm : m n = some (.box cs false)) {i k : Nat} (h : Owns g (upd m n (some (.box cs' false))) i k) : Owns g m i k := by
  by_cases hi : i = n
  · subst hi
    rcases h with ⟨_, _, h'⟩ | ⟨h, _⟩
    · exact .inl ⟨cs, hm, h'⟩
    · simp at h
  · rcases h with ⟨c, h, h'⟩ | ⟨h, e, h'⟩
    · rw [upd_ne _ _ hi] at h; exact .inl ⟨c, h, h'⟩
    · rw [upd_ne _ _ hi] at h; exact .inr ⟨h, e, h'⟩
/-- A box's cells read otherwise. -/
theorem Rel.rebox {Γ : Globs} {g : Gh} {w : World} {m : Mem} (hR : Rel Γ g w m) {n : Nat} {cs cs' : List AV} (hm : m n = some (.box cs false)) (hl : cs'.length = cs.length)
    (hv : ∀ (i : Nat) a a' v, cs[i]? = some a → cs'[i]? = some a' → VR g w.heap a v → VR g w.heap a' v) : Out Γ g w m g w (upd m n (some (.box cs' false))) := by
  have hb : Pers g.U w.heap g.U w.heap := Pers.refl _ _
  refine ⟨hR.update (GhLe.refl _) hb (fun i => i = n) (fun _ => False) (fun i hi => upd_ne _ _ hi) (fun _ _ => rfl) (fun _ _ => rfl) ?_ ?_ ?_ ?_ ?_ ?_ hR.ulen, ?_, GhLe.refl _, fun _ _ => ⟨rfl, rfl⟩, fun i hi => upd_dom hi⟩
  · intro k _ _; exact ⟨rfl, rfl⟩
  · intro i k _ _ hD; exact hD
  · intro i hi h; subst hi; simp at h
  · intro i c fz hi h
    subst hi
    simp only [upd_same, Option.some.injEq, Res.box.injEq] at h
    obtain ⟨rfl, rfl⟩ := h
    obtain ⟨k, vs, T, h1, h2, h3, h4, h5⟩ := hR.box i cs false hm
    refine ⟨k, vs, T, h1, h2, by rw [hl]; exact h3, fun j a' v ha hv' => ?_, h5⟩
    have hj : j < cs.length := by rw [← hl]; exact (List.getElem?_eq_some_iff.1 ha).1
    exact hv j _ a' v (List.getElem?_eq_getElem hj) ha (h4 j _ v (List.getElem?_eq_getElem hj) hv')
  · intro i hi h; subst hi; simp at h
  · intro i i' k _ h1 h2; exact hR.inj i i' k (holds_upd_box hm h1) (holds_upd_box hm h2)
  · exact ⟨rfl, rfl, rfl, fun _ _ _ => rfl, Nat.le_refl _, fun k _ _ => ⟨rfl, rfl⟩, hb, fun i k _ ho => ⟨i, owns_upd_box hm ho⟩, fun i k _ ho => ⟨i, holds_upd_box hm ho⟩⟩

abbrev nilP : AV := .p (.s (.slice none 0 0))
inductive Gho : EL → ML → EL → ML → Prop
  | refl (L : EL) (M : ML) : Gho L M L M
  | nil {L L' : EL} {M M' : ML} (i n sz : Nat) (h : look L i = nilP) (hf : memL M n = none) (t : Gho ((i, .own n sz []) :: L) ((n, .tok) :: M) L' M') : Gho L M L' M'
  | frz {L L' : EL} {M M' : ML} (i b off sz n : Nat) (cs : List AV) (fz : Bool) (xs : List (List PV)) (h : look L i = .bsl b off sz n) (hb : memL M b = some (.box cs fz)) (hx : (cs.drop off).take (n * sz) = xs.flatten.map AV.p) (hn : xs.length = n) (hsz : ∀ x ∈ xs, x.length = sz)
      (ho : xs.flatten.all PV.oneCell = true) (t : Gho ((i, .p (.sl sz xs)) :: L) ((b, .box cs true) :: M) L' M') : Gho L M L' M'

  | nilB {L L' : EL} {M M' : ML} (b i n sz : Nat) (cs : List AV) (hb : memL M b = some (.box cs false)) (hi : cs[i]? = some nilP) (hf : memL M n = none) (t : Gho L ((b, .box (cs.set i (.own n sz [])) false) :: (n, .tok) :: M) L' M') : Gho L M L' M'

section
variable {P : Program} {N : Nat} {Γ : Globs} {R : RD} {g0 g : Gh} {w0 w : World} {m0 : Mem} {a : Act} {L L' : EL} {M M' : ML}

theorem IS.gho (hG : Gho L M L' M') : ∀ {g : Gh}, IS Γ N R g0 w0 m0 g w a (look L) (memL M) → ∃ g', IS Γ N R g0 w0 m0 g' w a (look L') (memL M') := by
  induction hG with
  | refl L M => exact fun hS => ⟨_, hS⟩
  | nil i n sz h hf t ih =>
    rename_i L L' M M'
    intro g hS
    have ho := hS.rel.rel.nilTok (w' := w) hf rfl ⟨rfl, rfl, rfl⟩
    rw [← memL_cons] at ho
    refine ih (g := { g with τ := upd g.τ n (some none) }) ⟨⟨ho.rel, hS.rel.size, fun k v hv => ?_⟩, hS.st.trans ho.st, fun k hk => ?_, hS.dfs⟩
    · rw [look]
      split
      · rename_i e
        subst e
        have h1 := hS.rel.env k v hv
        rw [h] at h1
        have h2 := vr_s h1
        subst h2
        refine .own (.sl (fun _ => undef) rfl (Nat.le_refl _) (Nat.zero_le _) (Nat.zero_le _) (by simp) (fun h => absurd h (by simp)) (by simp)) (.inl ⟨rfl, rfl, none, by simp⟩)
      · exact ho.vr (hS.rel.env k v hv)
    · obtain ⟨h1, h2, h3⟩ := hS.nm k hk
      exact ⟨ho.dom k h1, (ho.names k h1).1.trans h2, (ho.names k h1).2.trans h3⟩
  | frz i b off sz n cs fz xs h hb hx hn hsz ho t ih =>
    rename_i L L' M M'
    intro g hS
    obtain ⟨k, vs, T, hk, hh, hl, hvs, hU⟩ := hS.rel.rel.box b cs fz hb
    have hout := hS.rel.rel.freeze hb hk
    rw [← memL_cons] at hout
    refine ih (g := { g with U := upd g.U k (some cs.length) }) ⟨⟨hout.rel, hS.rel.size, fun q v hv => ?_⟩, hS.st.trans hout.st, fun q hq => ?_, hS.dfs⟩
    · rw [look]
      split
      · rename_i e
        subst e
        have h1 := hS.rel.env q v hv
        rw [h] at h1
        obtain ⟨k', c, hk', rfl, hnc, hcm, hm48⟩ := vr_bsl h1
        rw [hk] at hk'
        cases hk'
        have hfl := flatten_length hsz
        rw [hn] at hfl
        have hlen : ((cs.drop off).take (n * sz)).length = n * sz := by rw [hx, List.length_map, hfl]
        have hle : n * sz ≤ (cs.drop off).length := by rw [List.length_take] at hlen; omega
        have hvl := ((vp_of hl hvs).drop off).take hle
        rw [hx] at hvl
        have hpl : PL g.U w.heap xs.flatten ((vs.toList.drop off).take (n * sz)) := by
          have := vrs_pl (vs := ((vs.toList.drop off).take (n * sz)).toArray) (ps := xs.flatten) hvl.arr ho
          simpa using this
        rcases Nat.eq_zero_or_pos (n * sz) with h0 | h0
        · have hxf : xs.flatten = [] := List.eq_nil_of_length_eq_zero (by omega)
          exact .p (.sl (fun _ => undef) hn hnc hm48 hcm hsz (fun hp => by rw [hxf] at hp; simp at hp) (fun j p hp => by rw [hxf] at hp; simp at hp))
        · rw [List.length_drop] at hle
          have := PL.slice (sz := sz) (xs := xs) (hpl.mono hout.st.pers) hsz (ad := ⟨k, off, none⟩) (vs := vs) (T := T) (fr := (0, 0)) (u := cs.length) (c := c) rfl hh (by simp) (by rw [hn]; simp only; omega) (by rw [hn]; exact hnc) (by rw [hn]; exact hm48) hcm (fun j hj => by
            rw [hn] at hj
            rw [List.getElem?_take, if_pos hj, List.getElem?_drop, Array.getElem?_toList])
          rw [hn] at this
          exact .p this
      · exact hout.vr (hS.rel.env q v hv)
    · obtain ⟨h1, h2, h3⟩ := hS.nm q hq
      exact ⟨hout.dom q h1, (hout.names q h1).1.trans h2, (hout.names q h1).2.trans h3⟩

  | nilB b i n sz cs hb hi hf t ih =>
    rename_i L L' M M'
    intro g hS
    have ho := hS.rel.rel.nilTok (w' := w) hf rfl ⟨rfl, rfl, rfl⟩
    rw [← memL_cons] at ho
    have hne : b ≠ n := fun e => by subst e; rw [hf] at hb; cases hb
    have hb' : memL ((n, Res.tok) :: M) b = some (.box cs false) := by rw [memL_cons, upd_ne _ _ hne]; exact hb
    have h2 := ho.rel.rebox (cs' := cs.set i (.own n sz [])) hb' (by simp) (fun j a a' v ha ha' hr => by
      rw [List.getElem?_set] at ha'
      by_cases hj : i = j
      · subst hj
        rw [if_pos rfl, if_pos (List.getElem?_eq_some_iff.1 hi).1] at ha'
        cases ha'
        rw [hi] at ha
        cases ha
        have h3 := vr_s hr
        subst h3
        exact .own (.sl (fun _ => undef) rfl (Nat.le_refl _) (Nat.zero_le _) (Nat.zero_le _) (by simp) (fun h => absurd h (by simp)) (by simp)) (.inl ⟨rfl, rfl, none, by simp⟩)
      · rw [if_neg hj] at ha'
        rw [ha] at ha'
        cases ha'
        exact hr)
    rw [← memL_cons] at h2
    have ho2 := ho.trans h2
    refine ih (g := { g with τ := upd g.τ n (some none) }) ⟨⟨ho2.rel, hS.rel.size, fun k v hv => ho2.vr (hS.rel.env k v hv)⟩, hS.st.trans ho2.st, fun k hk => ?_, hS.dfs⟩
    obtain ⟨h1, h4, h3⟩ := hS.nm k hk
    exact ⟨ho2.dom k h1, (ho2.names k h1).1.trans h4, (ho2.names k h1).2.trans h3⟩

/-! Loops -/
def WeakG (R : RD) (L : EL) (M : ML) (L' : EL) (M' : ML) : Prop := ∃ L1 M1, Gho L M L1 M1 ∧ WeakE R L1 M1 L' M'
theorem weakG_go (h : WeakE R L M L' M') : WeakG R L M L' M' := ⟨L, M, .refl _ _, h⟩
theorem weakG_nil (i n sz : Nat) (h : look L i = nilP) (hf : memL M n = none) (t : WeakG R ((i, .own n sz []) :: L) ((n, .tok) :: M) L' M') : WeakG R L M L' M' := by
  obtain ⟨L1, M1, h1, h2⟩ := t
  exact ⟨L1, M1, .nil i n sz h hf h1, h2⟩

theorem weakG_nilB (b i n sz : Nat) (cs : List AV) (hb : memL M b = some (.box cs false)) (hi : cs[i]? = some nilP) (hf : memL M n = none) (t : WeakG R L ((b, .box (cs.set i (.own n sz [])) false) :: (n, .tok) :: M) L' M') : WeakG R L M L' M' := by
  obtain ⟨L1, M1, h1, h2⟩ := t
  exact ⟨L1, M1, .nilB b i n sz cs hb hi hf h1, h2⟩

theorem IS.weakG (hS : IS Γ N R g0 w0 m0 g w a (look L) (memL M)) (h : WeakG R L M L' M') : ∃ g', IS Γ N R g0 w0 m0 g' w a (look L') (memL M') := by
  obtain ⟨L1, M1, h1, ⟨ρ, h2⟩⟩ := h
  obtain ⟨g', hS'⟩ := hS.gho h1
  exact ⟨_, hS'.weak h2⟩

theorem loopE_byG (hm : P.follows .mixedOrders = true) {c : CC} {Q : QE} (J : Nat → EL → ML → Prop) {n : Nat} (h0 : ∃ L' M', J n L' M' ∧ WeakG R L M L' M')
    (round : ∀ n L M, J n L M → wlE P Γ N R c (thenE (fun L M => ∃ k L' M', k < n ∧ J k L' M' ∧ WeakG R L M L' M') Q) L M) : loopE P Γ N R c Q L M := by
  obtain ⟨L', M', hJ, hw⟩ := h0
  intro c0 hc g0 w0 m0 g w a hS
  simp only [erase] at hc
  cases c0 with
  | loop x =>
    simp only [cC] at hc
    obtain ⟨cx, hx, hl⟩ := Option.map_eq_some_iff.1 hc
    cases hl
    obtain ⟨g', hS'⟩ := hS.weakG hw
    refine wp_loop_n (fun k a w => ∃ g L M, IS Γ N R g0 w0 m0 g w a (look L) (memL M) ∧ J k L M) (fun k a w hk => ?_) ⟨g', L', M', hS', hJ⟩
    obtain ⟨g, L, M, hS', hJ⟩ := hk
    refine wp_mono (wlE_sound hm (round k L M hJ) x hx g0 w0 m0 g w a hS') (fun e a' w' h => ?_)
    cases e with
    | normal =>
      obtain ⟨g, env, m, h1, L1, M1, rfl, rfl, k', L2, M2, hlt, h2, h3⟩ := h
      obtain ⟨g'', h4⟩ := h1.weakG h3
      exact ⟨k', hlt, g'', L2, M2, h4, h2⟩
    | exit i =>
      obtain ⟨g, env, m, h1, L1, M1, rfl, rfl, h2⟩ := h
      exact ⟨g, _, _, h1, L1, M1, rfl, rfl, h2⟩
    | goto l => exact h.elim
    | ret =>
      obtain ⟨g, env, m, h1, L1, M1, rfl, rfl, h2⟩ := h
      exact ⟨g, _, _, h1, L1, M1, rfl, rfl, h2⟩
    | panic ch =>
      obtain ⟨v, g, env, m, h0, h1, L1, M1, rfl, rfl, h2⟩ := h
      exact ⟨v, g, _, _, h0, h1, L1, M1, rfl, rfl, h2⟩
    | outgrown => exact h.elim
  | region id ops dr =>
    simp only [cC] at hc
    obtain ⟨l, _, hl⟩ := Option.map_eq_some_iff.1 hc
    split at hl <;> cases hl
  | seq x y => simp only [cC] at hc; split at hc <;> cases hc
  | cond x y z => simp only [cC] at hc; split at hc <;> cases hc
  | block i x => simp only [cC] at hc; obtain ⟨_, _, hl⟩ := Option.map_eq_some_iff.1 hc; cases hl
  | _ => cases hc

/-! Ends -/
def finY (rs : List RV) (pre : ML) (e : AE) (post : ML) (L : EL) (M : ML) : Prop := ∃ L' M', Gho L M L' M' ∧ bindO (rvsE L' M' rs) fun l => endE pre e post (oneE l) M'
theorem finY_go {rs : List RV} {pre post : ML} {e : AE} (h : bindO (rvsE L M rs) fun l => endE pre e post (oneE l) M) : finY rs pre e post L M := ⟨L, M, .refl _ _, h⟩
theorem finY_nil {rs : List RV} {pre post : ML} {e : AE} (i n sz : Nat) (h : look L i = nilP) (hf : memL M n = none) (t : finY rs pre e post ((i, .own n sz []) :: L) ((n, .tok) :: M)) : finY rs pre e post L M := by
  obtain ⟨L1, M1, h1, h2⟩ := t
  exact ⟨L1, M1, .nil i n sz h hf h1, h2⟩
theorem finY_frz {rs : List RV} {pre post : ML} {e : AE} (i b off sz n : Nat) (cs : List AV) (fz : Bool) (xs : List (List PV)) (h : look L i = .bsl b off sz n) (hb : memL M b = some (.box cs fz)) (hx : (cs.drop off).take (n * sz) = xs.flatten.map AV.p) (hn : xs.length = n) (hsz : ∀ x ∈ xs, x.length = sz)
      (ho : xs.flatten.all PV.oneCell = true) (t : finY rs pre e post ((i, .p (.sl sz xs)) :: L) ((b, .box cs true) :: M)) : finY rs pre e post L M := by
  obtain ⟨L1, M1, h1, h2⟩ := t
  exact ⟨L1, M1, .frz i b off sz n cs fz xs h hb hx hn hsz ho h1, h2⟩
theorem finY_nilB {rs : List RV} {pre post : ML} {e : AE} (b i n sz : Nat) (cs : List AV) (hb : memL M b = some (.box cs false)) (hi : cs[i]? = some nilP) (hf : memL M n = none) (t : finY rs pre e post L ((b, .box (cs.set i (.own n sz [])) false) :: (n, .tok) :: M)) : finY rs pre e post L M := by
  obtain ⟨L1, M1, h1, h2⟩ := t
  exact ⟨L1, M1, .nilB b i n sz cs hb hi hf h1, h2⟩
def finG (pre : ML) (rs : List RV) (e : AE) (post : ML) : QE
  | .normal, L, M | .ret, L, M => finY rs pre e post L M
  | .pan v, L, M => finE pre rs e post (.pan v) L M
  | .exit _, _, _ => False

theorem good_byG (hm : P.follows .mixedOrders = true) {f : FuncId} {cc : CC} {rs : List RV} {np : Nat} (hF : Fun P f N cc rs np) {args : List AV} {pre post : ML} {e : AE} (hnp : args.length = np)
    (hn : namesIn pre (namesL args) = true ∧ namesIn pre (pre.flatMap fun p => p.2.names) = true ∧ namesIn post e.names = true ∧ namesIn post (post.flatMap fun p => p.2.names) = true ∧ namesIn post (keys pre) = true)
    (h : wlE P Γ N (rd pre) cc (finG pre rs e post) (argE args) pre) : Good P Γ f args pre e post := by
  obtain ⟨h1, h2, h3, h4, h5⟩ := hn
  refine good_of hF hnp (namesIn_spec h1) (fun p hp k hk => namesIn_spec h2 k (List.mem_flatMap.2 ⟨p, hp, hk⟩)) (namesIn_spec h3) (fun p hp k hk => namesIn_spec h4 k (List.mem_flatMap.2 ⟨p, hp, hk⟩)) (fun n hn => namesIn_spec h5 n (memL_keys.1 hn)) ?_
  intro c0 hc g0 w0 m0 g w a hS
  refine wp_mono (wlE_sound hm h c0 hc g0 w0 m0 g w a hS) (fun ex a w hl => ?_)
  have go : ∀ g L M, IS Γ N (rd pre) g0 w0 m0 g w a (look L) (memL M) → finY rs pre e post L M → ∃ g' env m, IS Γ N (rd pre) g0 w0 m0 g' w a env m ∧ finQ (rd pre) rs e post .ret env m := by
    rintro g L M hS ⟨L', M', hg, hb⟩
    obtain ⟨g', hS'⟩ := hS.gho hg
    exact ⟨g', _, _, hS', finE_sound (ex := .ret) ⟨L', M', rfl, rfl, hb⟩⟩
  cases ex with
  | normal =>
    obtain ⟨g, env, m, h1, L, M, rfl, rfl, h2⟩ := hl
    exact go g L M h1 h2
  | ret =>
    obtain ⟨g, env, m, h1, L, M, rfl, rfl, h2⟩ := hl
    exact go g L M h1 h2
  | exit id =>
    obtain ⟨g, env, m, h1, L, M, rfl, rfl, h2⟩ := hl
    exact h2.elim
  | goto l => exact hl.elim
  | panic ch =>
    obtain ⟨v, g, env, m, h0, h1, L, M, rfl, rfl, h2⟩ := hl
    exact ⟨v, g, _, _, h0, h1, finE_sound (ex := .pan v) ⟨L, M, rfl, rfl, h2⟩⟩
  | outgrown => exact hl.elim
end
end Go.Shade
