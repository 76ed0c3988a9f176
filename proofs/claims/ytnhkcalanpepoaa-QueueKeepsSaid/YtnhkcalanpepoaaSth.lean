/- What a function hands back of its own, to be written by the caller. Own work. -/
import Derived.Test.YtnhkcalanpepoaaSub
namespace Go.Shade
open Go
variable {P : Program} {Γ : Globs} {f : FuncId} {args : List AV} {post : ML}

/-- A token, an element's size, the elements. -/
abbrev TS := List (Nat × Nat × List (List PV))
mutual
/-- An answer with rows of one's own, and the same one with slices of boxes. -/
def Th (S : TS) (off : Nat → Nat) : AV → AV → Prop
  | .own t sz xs, .bsl t' o sz' n => t' = t ∧ o = off t ∧ sz' = sz ∧ n = xs.length ∧ (t, sz, xs) ∈ S
  | .own _ sz xs, .p (.sl sz' ys) => sz' = sz ∧ xs = [] ∧ ys = []
  | .p (.s v), .p (.s u) => u = v
  | .agg as, .agg bs => Ths S off as bs
  | .tup as, .tup bs => Ths S off as bs
  | _, _ => False
def Ths (S : TS) (off : Nat → Nat) : List AV → List AV → Prop
  | [], [] => True
  | a :: as, b :: bs => Th S off a b ∧ Ths S off as bs
  | _, _ => False
end
theorem th_p {S : TS} {off : Nat → Nat} {x : PV} {b : AV} (h : Th S off (.p x) b) : ∃ u, x = .s u ∧ b = .p (.s u) := by
  unfold Th at h
  split at h
  · rename_i e; cases e
  · rename_i e; cases e
  · rename_i e; cases e; exact ⟨_, rfl, by rw [h]⟩
  · rename_i e; cases e
  · rename_i e; cases e
  · exact h.elim
theorem th_own {S : TS} {off : Nat → Nat} {t sz : Nat} {xs : List (List PV)} {b : AV} (h : Th S off (.own t sz xs) b) : (b = .bsl t (off t) sz xs.length ∧ (t, sz, xs) ∈ S) ∨ (xs = [] ∧ b = .p (.sl sz [])) := by
  unfold Th at h
  split at h
  · rename_i e; cases e; obtain ⟨rfl, rfl, rfl, rfl, h⟩ := h; exact .inl ⟨rfl, h⟩
  · rename_i e; cases e; obtain ⟨rfl, rfl, rfl⟩ := h; exact .inr ⟨rfl, rfl⟩
  · rename_i e; cases e
  · rename_i e; cases e
  · rename_i e; cases e
  · exact h.elim
theorem th_agg {S : TS} {off : Nat → Nat} {as : List AV} {b : AV} (h : Th S off (.agg as) b) : ∃ bs, b = .agg bs ∧ Ths S off as bs := by
  unfold Th at h
  split at h
  · rename_i e; cases e
  · rename_i e; cases e
  · rename_i e; cases e
  · rename_i e; cases e; exact ⟨_, rfl, h⟩
  · rename_i e; cases e
  · exact h.elim
theorem th_tup {S : TS} {off : Nat → Nat} {as : List AV} {b : AV} (h : Th S off (.tup as) b) : ∃ bs, b = .tup bs ∧ Ths S off as bs := by
  unfold Th at h
  split at h
  · rename_i e; cases e
  · rename_i e; cases e
  · rename_i e; cases e
  · rename_i e; cases e
  · rename_i e; cases e; exact ⟨_, rfl, h⟩
  · exact h.elim
theorem ths_len {S : TS} {off : Nat → Nat} : ∀ {as bs : List AV}, Ths S off as bs → as.length = bs.length
  | [], [], _ => rfl
  | _ :: as, _ :: bs, h => by rw [List.length_cons, List.length_cons, ths_len (by rw [Ths] at h; exact h.2)]
theorem ths_get {S : TS} {off : Nat → Nat} : ∀ {as bs : List AV}, Ths S off as bs → ∀ (i : Nat) b, bs[i]? = some b → ∃ a, as[i]? = some a ∧ Th S off a b
  | [], [], _, i, b, h => by simp at h
  | a :: as, c :: bs, h, 0, b, hb => by rw [Ths] at h; cases hb; exact ⟨a, rfl, h.1⟩
  | a :: as, c :: bs, h, i + 1, b, hb => by
    rw [Ths] at h
    exact ths_get h.2 i b (by simpa using hb)
/-- The boxes. -/
def posts (S : TS) (off : Nat → Nat) : ML := S.map fun p => (p.1, Res.box (List.replicate (off p.1) .junk ++ p.2.2.flatten.map AV.p) false)
/-- Is an element a plain value? -/
def plainP : PV → Bool
  | .s _ => true
  | _ => false
/-- Where a token's row is. -/
structure At (g : Gh) (h : Array Obj) (t : Nat) (xs : List (List PV)) (k o : Nat) : Prop where
  at_ : ∃ e vs T, g.τ t = some (some (k, e)) ∧ e = o + xs.flatten.length ∧ h[k]? = some (.cells vs T (0, 0)) ∧ o + xs.flatten.length ≤ vs.size ∧ ∀ j v, xs.flatten[j]? = some (.s v) → vs[o + j]? = some v
theorem own_at {g : Gh} {w : World} {m : Mem} (hR : Rel Γ g w m) {t sz : Nat} {xs : List (List PV)} {v : Value} (hm : m t = some .tok) (hne : xs.flatten ≠ []) (h : VR g w.heap (.own t sz xs) v) :
    ∃ k o c, v = .slice (some ⟨k, o, none⟩) xs.length c ∧ xs.length ≤ c ∧ c ≤ maxLen ∧ xs.length ≤ 281474976710656 ∧ At g w.heap t xs k o := by
  cases h with
  | own hr ht =>
    rename_i A n c
    cases hr with
    | sl q hn hc hm48 hcm hsz hp hq =>
      have hpos : 0 < xs.flatten.length := List.length_pos_iff.2 hne
      obtain ⟨ad, vs, T, fr, u, rfl, hs, hh, hu, hle, hv⟩ := hp hpos
      have hn0 : n ≠ 0 := fun h0 => by
        rw [h0] at hn
        have := List.eq_nil_of_length_eq_zero hn
        rw [this] at hne
        exact hne rfl
      rcases ht with ⟨h0, _⟩ | ⟨ad', vs', T', fr', u', he, hs', hh', hu', hc', hτ⟩
      · exact absurd h0 hn0
      · cases he
        have hfr : fr = (0, 0) := by
          rcases hR.tok t hm with h1 | ⟨k2, e2, vs2, T2, h1, h2, _⟩
          · rw [hτ] at h1; cases h1
          · rw [hτ] at h1
            cases h1
            rw [hh] at h2
            cases h2
            rfl
        subst hfr
        obtain ⟨b, o, sp⟩ := ad
        simp only at hs hh hle hv hτ
        subst hs
        refine ⟨b, o, c, by rw [hn], by rw [hn]; exact hc, hcm, by rw [hn]; exact hm48, ⟨_, vs, T, hτ, ?_, hh, ?_, fun j v hj => ?_⟩⟩
        · rw [flatten_length hsz, hn]
        · obtain ⟨vs3, T3, fr3, h3, h4⟩ := hR.ulen b u hu
          rw [hh] at h3
          cases h3
          omega
        · have hjl : j < xs.flatten.length := (List.getElem?_eq_some_iff.1 hj).1
          have h1 := (hv j hjl).1
          have h2 := hq j _ hj
          cases h2
          exact h1
mutual
/-- The rows of one's own in an answer. -/
def owns : AV → TS
  | .own t sz xs => [(t, sz, xs)]
  | .agg as => ownsL as
  | .tup as => ownsL as
  | _ => []
def ownsL : List AV → TS
  | [] => []
  | a :: as => owns a ++ ownsL as
end
theorem ownsL_mem {p : Nat × Nat × List (List PV)} : ∀ {as : List AV}, p ∈ ownsL as → ∃ (i : Nat) (a : AV), as[i]? = some a ∧ p ∈ owns a
  | [], h => by rw [ownsL] at h; cases h
  | a :: as, h => by
    rw [ownsL] at h
    rcases List.mem_append.1 h with h | h
    · exact ⟨0, a, rfl, h⟩
    · obtain ⟨i, b, hb, hp⟩ := ownsL_mem h
      exact ⟨i + 1, b, by simpa using hb, hp⟩
theorem owns_vr {g : Gh} {h : Array Obj} {a : AV} {v : Value} (hv : VR g h a v) : ∀ p ∈ owns a, ∃ u, VR g h (.own p.1 p.2.1 p.2.2) u := by
  induction hv with
  | own hr ht => intro p hp; rw [owns, List.mem_singleton] at hp; subst hp; exact ⟨_, .own hr ht⟩
  | agg hl hr ih =>
    intro p hp
    rw [owns] at hp
    obtain ⟨i, b, hb, hpb⟩ := ownsL_mem hp
    have hlt := (List.getElem?_eq_some_iff.1 hb).1
    rw [hl] at hlt
    exact ih i b _ hb (Array.getElem?_eq_getElem hlt) p hpb
  | tup hl hr ih =>
    intro p hp
    rw [owns] at hp
    obtain ⟨i, b, hb, hpb⟩ := ownsL_mem hp
    have hlt := (List.getElem?_eq_some_iff.1 hb).1
    rw [hl] at hlt
    exact ih i b _ hb (Array.getElem?_eq_getElem hlt) p hpb
  | _ => intro p hp; simp [owns] at hp
theorem mem_posts {S : TS} {off : Nat → Nat} {n : Nat} {q : Res} (h : memL (posts S off) n = some q) : ∃ p ∈ S, p.1 = n ∧ q = .box (List.replicate (off p.1) .junk ++ p.2.2.flatten.map AV.p) false := by
  unfold posts at h
  induction S with
  | nil => simp [memL] at h
  | cons x S ih =>
    rw [List.map_cons, memL] at h
    split at h
    · rename_i e
      cases h
      exact ⟨x, by simp, e.symm, rfl⟩
    · obtain ⟨p, hp, h2⟩ := ih h
      exact ⟨p, by simp [hp], h2⟩
theorem posts_none {S : TS} {off : Nat → Nat} {n : Nat} (h : memL (posts S off) n = none) : ∀ p ∈ S, p.1 ≠ n := by
  unfold posts at h
  induction S with
  | nil => intro p hp; cases hp
  | cons x S ih =>
    rw [List.map_cons, memL] at h
    split at h
    · cases h
    · rename_i e
      intro p hp
      rcases List.mem_cons.1 hp with rfl | hp
      · exact fun h2 => e h2.symm
      · exact ih h p hp
section
open Classical
variable {S : TS} {g : Gh}
/-- Its block. -/
noncomputable def blkOf (g : Gh) (t : Nat) : Nat := match g.τ t with
  | some (some (k, _)) => k
  | _ => 0
noncomputable def offOf (S : TS) (g : Gh) (t : Nat) : Nat := match g.τ t, S.find? (fun p => p.1 == t) with
  | some (some (_, e)), some p => e - p.2.2.flatten.length
  | _, _ => 0
noncomputable def ghT (S : TS) (g : Gh) : Gh where
  σ := fun n => if ∃ p ∈ S, p.1 = n then some (blkOf g n) else none
  τ := fun _ => none
  U := fun i => if ∃ p ∈ S, blkOf g p.1 = i then none else g.U i
theorem find_self (hnd : injB (S.map (·.1)) = true) {p : Nat × Nat × List (List PV)} (hp : p ∈ S) : S.find? (fun q => q.1 == p.1) = some p := by
  induction S with
  | nil => cases hp
  | cons x S ih =>
    rw [List.map_cons, injB, Bool.and_eq_true] at hnd
    rw [List.find?_cons]
    rcases List.mem_cons.1 hp with rfl | hp
    · simp
    · have hne : (x.1 == p.1) = false := by
        have h1 := hnd.1
        cases hb : (x.1 == p.1) with
        | false => rfl
        | true =>
          have he : x.1 = p.1 := by simpa using hb
          simp only [Bool.not_eq_true', List.contains_eq_mem] at h1
          have : x.1 ∈ S.map (·.1) := by rw [he]; exact List.mem_map_of_mem hp
          simp [this] at h1
      rw [hne]
      exact ih hnd.2 hp
theorem at_blk {h : Array Obj} {t : Nat} {xs : List (List PV)} {k o : Nat} (ha : At g h t xs k o) : blkOf g t = k := by
  obtain ⟨e, vs, T, h1, _⟩ := ha.at_
  unfold blkOf
  rw [h1]
theorem at_off (hnd : injB (S.map (·.1)) = true) {h : Array Obj} {t sz : Nat} {xs : List (List PV)} {k o : Nat} (hp : (t, sz, xs) ∈ S) (ha : At g h t xs k o) : offOf S g t = o := by
  obtain ⟨e, vs, T, h1, h2, _⟩ := ha.at_
  unfold offOf
  rw [h1, find_self hnd hp, h2]
  simp
end
/-- What is nobody else's may be written by who gets it. -/
theorem good_thaw (S : TS) (hnd : injB (S.map (·.1)) = true) {r : AV} {r' : (Nat → Nat) → AV} (hS : ∀ p ∈ S, memL post p.1 = some .tok ∧ p.2.2.flatten ≠ [] ∧ p ∈ owns r) (hpl : ∀ p ∈ S, p.2.2.flatten.all plainP = true) (hr : ∀ off, Th S off r (r' off)) (han : namesL args = [])
    (hrn : ∀ off, ∀ n ∈ (r' off).names, memL (posts S off) n ≠ none) (hG : Good P Γ f args [] (.ret r) post) : GoodI P Γ f args [] r' (posts S) := by
  classical
  refine ⟨fun off => ⟨hG.call, fun n hn => (by rw [han] at hn; cases hn), fun n q hq => (by simp [memL] at hq), hrn off, fun n q hq k hk => ?_, fun n hn => (by simp [memL] at hn)⟩, fun g w cargs hR hv => (hG.run g w cargs hR hv).mono (fun en w' hp => ?_)⟩
  · obtain ⟨p, hp, rfl, rfl⟩ := mem_posts hq
    rw [Res.names] at hk
    obtain ⟨a, ha, hka⟩ := mem_namesL.1 hk
    rcases List.mem_append.1 ha with ha | ha
    · rw [(List.mem_replicate.1 ha).2] at hka; simp [AV.names] at hka
    · obtain ⟨y, _, rfl⟩ := List.mem_map.1 ha
      simp [AV.names] at hka
  cases en with
  | panicked ch =>
    obtain ⟨v, g', he, _⟩ := hp
    cases he
  | outgrown => exact hp.elim
  | returned v =>
    obtain ⟨q, g', he, hf, hvr⟩ := hp
    cases he
    have hR' := hf.rel
    have hat : ∀ p ∈ S, ∃ (k o c : Nat) (u : Value), u = .slice (some ⟨k, o, none⟩) p.2.2.length c ∧ p.2.2.length ≤ c ∧ c ≤ maxLen ∧ p.2.2.length ≤ 281474976710656 ∧ At g' w'.heap p.1 p.2.2 k o := fun p hp => by
      obtain ⟨h1, h2, h3⟩ := hS p hp
      obtain ⟨u, hu⟩ := owns_vr hvr p h3
      obtain ⟨k, o, c, h4, h5, h6, h7, h8⟩ := own_at hR' h1 h2 hu
      exact ⟨k, o, c, u, h4, h5, h6, h7, h8⟩
    have hown : ∀ p ∈ S, ∀ k o, At g' w'.heap p.1 p.2.2 k o → Owns g' (memL post) p.1 k := fun p hp k o ha => by
      obtain ⟨e, vs, T, h1, _⟩ := ha.at_
      exact .inr ⟨(hS p hp).1, e, h1⟩
    have hfresh : ∀ p ∈ S, w.heap.size ≤ blkOf g' p.1 := fun p hp => by
      obtain ⟨k, o, c, u, _, _, _, _, ha⟩ := hat p hp
      rw [at_blk ha]
      rcases Nat.lt_or_ge k w.heap.size with hlt | hge
      · obtain ⟨n', h⟩ := hf.st.ownm _ _ hlt (hown p hp k o ha)
        rcases h with ⟨_, h, _⟩ | ⟨h, _⟩ <;> simp [memL] at h
      · exact hge
    have hUold : ∀ i, i < w.heap.size → (ghT S g').U i = g'.U i := fun i hi => by
      unfold ghT
      simp only
      rw [if_neg]
      rintro ⟨p, hp, he⟩
      have := hfresh p hp
      omega
    have hpers : Pers g.U w.heap (ghT S g').U w'.heap := by
      refine ⟨fun k u vs T fr hu hh => ?_, hf.st.pers.mp⟩
      obtain ⟨u', vs', fr', h1, h2⟩ := hf.st.pers.go k u vs T fr hu hh
      exact ⟨u', vs', fr', by rw [hUold k (lt_size hh)]; exact h1, h2⟩
    have hinj : ∀ p ∈ S, ∀ q ∈ S, blkOf g' p.1 = blkOf g' q.1 → p.1 = q.1 := fun p hp q hq he => by
      obtain ⟨k, o, c, u, _, _, _, _, ha⟩ := hat p hp
      obtain ⟨k2, o2, c2, u2, _, _, _, _, hb⟩ := hat q hq
      rw [at_blk ha, at_blk hb] at he
      subst he
      exact hR'.inj _ _ _ (hown p hp k o ha).holds (hown q hq k o2 hb).holds
    refine ⟨offOf S g', r' (offOf S g'), ghT S g', rfl, ⟨?_, ?_, fun n hn => (by simp [memL] at hn)⟩, ?_⟩
    · -- the relation
      refine ⟨fun n hn => ⟨?_, rfl⟩, fun n cs fz hn => ?_, fun n hn => ?_, fun n n' k h1 h2 => ?_, fun k u hu => ?_, hR.glob.mono hpers⟩
      · unfold ghT
        simp only
        rw [if_neg]
        rintro ⟨p, hp, he⟩
        exact posts_none hn p hp he
      · obtain ⟨p, hp, rfl, he⟩ := mem_posts hn
        cases he
        obtain ⟨k, o, c, u, _, _, _, _, ha⟩ := hat p hp
        obtain ⟨e, vs, T, h1, h2, h3, h4, h5⟩ := ha.at_
        have ho : offOf S g' p.1 = o := at_off hnd (sz := p.2.1) (xs := p.2.2) hp ha
        refine ⟨k, vs, T, ?_, h3, ?_, fun i a v hi hv2 => ?_, ?_⟩
        · unfold ghT
          simp only
          rw [if_pos ⟨p, hp, rfl⟩, at_blk ha]
        · rw [List.length_append, List.length_replicate, List.length_map, ho]; exact h4
        · rw [ho] at hi
          by_cases hio : i < o
          · rw [List.getElem?_append_left (by rw [List.length_replicate]; exact hio), List.getElem?_replicate, if_pos hio] at hi
            cases hi
            exact .junk
          · rw [List.getElem?_append_right (by rw [List.length_replicate]; omega), List.length_replicate, List.getElem?_map] at hi
            obtain ⟨y, hy, rfl⟩ := Option.map_eq_some_iff.1 hi
            have hyp := List.all_eq_true.1 (hpl p hp) y (List.mem_of_getElem? hy)
            cases y with
            | s z =>
              have h6 := h5 (i - o) z hy
              rw [show o + (i - o) = i by omega] at h6
              rw [h6] at hv2
              cases hv2
              exact .p (.s _)
            | sl _ _ => simp [plainP] at hyp
        · unfold ghT
          simp only
          rw [if_pos ⟨p, hp, at_blk ha⟩]
          rfl
      · obtain ⟨p, hp, rfl, he⟩ := mem_posts hn
        cases he
      · have hb : ∀ n k, Holds (ghT S g') (memL (posts S (offOf S g'))) n k → ∃ p ∈ S, p.1 = n ∧ blkOf g' p.1 = k := fun n k h => by
          rcases h with ⟨cs, fz, h, h'⟩ | ⟨_, e, h'⟩
          · obtain ⟨p, hp, rfl, _⟩ := mem_posts h
            unfold ghT at h'
            simp only at h'
            rw [if_pos ⟨p, hp, rfl⟩] at h'
            cases h'
            exact ⟨p, hp, rfl, rfl⟩
          · cases h'
        obtain ⟨p, hp, rfl, e1⟩ := hb n k h1
        obtain ⟨q, hq, rfl, e2⟩ := hb n' k h2
        exact hinj p hp q hq (e1.trans e2.symm)
      · unfold ghT at hu
        simp only at hu
        split at hu
        · cases hu
        · exact hR'.ulen k u hu
    · refine ⟨hf.st.os, hf.st.tape, hf.st.output, hf.st.fz, hf.st.size, fun k hk hno => ⟨(hf.st.frame k hk hno).1, by rw [hUold k hk]; exact (hf.st.frame k hk hno).2⟩, hpers, fun n k hk ho => ?_, fun n k hk ho => ?_⟩
      · exfalso
        rcases ho with ⟨cs, h, h'⟩ | ⟨_, e, h'⟩
        · obtain ⟨p, hp, rfl, _⟩ := mem_posts h
          unfold ghT at h'
          simp only at h'
          rw [if_pos ⟨p, hp, rfl⟩] at h'
          cases h'
          have := hfresh p hp
          omega
        · cases h'
      · exfalso
        rcases ho with ⟨cs, fz, h, h'⟩ | ⟨_, e, h'⟩
        · obtain ⟨p, hp, rfl, _⟩ := mem_posts h
          unfold ghT at h'
          simp only at h'
          rw [if_pos ⟨p, hp, rfl⟩] at h'
          cases h'
          have := hfresh p hp
          omega
        · cases h'
    · -- the answer
      have key : ∀ (a : AV) (v : Value), VR g' w'.heap a v → ∀ b, Th S (offOf S g') a b → VR (ghT S g') w'.heap b v := by
        intro a v hv
        induction hv with
        | p hr =>
          intro b hb
          obtain ⟨u, rfl, rfl⟩ := th_p hb
          cases hr
          exact .p (.s _)
        | own hr0 ht0 =>
          intro b hb
          rename_i t sz xs A n c
          rcases th_own hb with ⟨rfl, hp⟩ | ⟨rfl, rfl⟩
          · obtain ⟨k, o, c', h4, h5, h6, h7, h8⟩ := own_at hR' (hS _ hp).1 (hS _ hp).2.1 (VR.own hr0 ht0)
            rw [h4, at_off hnd hp h8]
            refine .bsl ?_ h5 h6 h7
            unfold ghT
            simp only
            rw [if_pos ⟨_, hp, rfl⟩, at_blk h8]
          · cases hr0 with
            | sl q hn hc hm48 hcm hsz hp hq => exact .p (.sl q hn hc hm48 hcm hsz (fun h => absurd h (by simp)) (fun j a h => by simp at h))
        | agg hl hr0 ih =>
          intro b hb
          obtain ⟨bs, rfl, hb⟩ := th_agg hb
          refine .agg (by rw [← ths_len hb]; exact hl) (fun i b v hbi hvi => ?_)
          obtain ⟨a, ha, hab⟩ := ths_get hb i b hbi
          exact ih i a v ha hvi b hab
        | tup hl hr0 ih =>
          intro b hb
          obtain ⟨bs, rfl, hb⟩ := th_tup hb
          refine .tup (by rw [← ths_len hb]; exact hl) (fun i b v hbi hvi => ?_)
          obtain ⟨a, ha, hab⟩ := ths_get hb i b hbi
          exact ih i a v ha hvi b hab
        | _ => intro b hb; unfold Th at hb; first | exact hb.elim | (split at hb <;> first | exact hb.elim | (rename_i e; cases e))
      exact key _ _ hvr _ (hr _)
end Go.Shade
