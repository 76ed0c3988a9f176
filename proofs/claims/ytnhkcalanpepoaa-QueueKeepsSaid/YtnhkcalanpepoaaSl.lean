/- append, and slices of arrays. Own work. -/
import Derived.Test.YtnhkcalanpepoaaSk
import Derived.Deep.Upon
namespace Go.Shade
open Go

section
variable {P : Program} {N : Nat} {Γ : Globs} {g : Gh} {w : World} {a : Act} {env : Nat → AV} {m : Mem} {o : Oper} {r : AV} {c : COp}

theorem pl_bytes (U : Nat → Option Nat) (h : Array Obj) : ∀ (l : List UInt8), PL U h (l.map fun b => [PV.s (.int .u8 b.toNat)]).flatten (l.map fun b => Value.int .u8 b.toNat)
  | [] => ⟨rfl, fun i p v h => by simp at h, fun v h => by simp at h⟩
  | b :: l => by
    have h1 : PL U h [PV.s (.int .u8 b.toNat)] [Value.int .u8 b.toNat] := ⟨rfl, fun i p v hp hv => by
      cases i with
      | zero => simp at hp hv; subst hp; subst hv; exact .s _
      | succ i => simp at hp, fun v hv => by simp at hv; subst hv; rfl⟩
    simpa using h1.append (pl_bytes U h l)

/-- What is appended. -/
theorem src_of {u : TypeId} (hk : (∃ e', P.underlying u = some (.slice e')) ∨ P.underlying u = some .string) {b : AV} {v : Value} {sz : Nat} (h0 : sz ≠ 0) {ys : List (List PV)} (hr : VR g w.heap b v) (hs : b.asSrc sz = some ys) :
    ∃ news, Src P sz u v ys.length news w ∧ PL g.U w.heap ys.flatten news ∧ ∀ y ∈ ys, y.length = sz := by
  unfold AV.asSrc at hs
  split at hs
  · rename_i s
    split at hs
    · rename_i h1
      subst h1
      cases hs
      have := vr_s hr
      subst this
      have hl : (s.data.toList.map fun b => [PV.s (.int .u8 b.toNat)]).length = s.size := by rw [List.length_map, Array.length_toList]; rfl
      refine ⟨byteCells s, ⟨hk, fun _ => by rw [hl]; rfl, by rw [hl]; exact firstCells_string s w, by rw [hl]; exact firstCells_string s w.drew, by rw [hl, byteCells_length, Nat.mul_one], fun u hu => ?_⟩, pl_bytes _ _ _, fun y hy => ?_⟩
      · obtain ⟨_, _, rfl⟩ := List.mem_map.1 hu
        rfl
      · obtain ⟨_, _, rfl⟩ := List.mem_map.1 hy
        rfl
    · cases hs
  · obtain ⟨A, n, c, rfl, hp⟩ := vr_asSl hr hs
    obtain ⟨vl, hpl, hn, hc, hm, hcm, hsz, hat⟩ := pr_cells hp
    have hfl := flatten_length hsz
    refine ⟨vl, ?_, hpl, hsz⟩
    rw [hn]
    have hvl : vl.length = n * sz := by rw [← hpl.1, hfl, hn]
    rcases Nat.eq_zero_or_pos n with h | h
    · subst h
      have hv0 : vl = [] := List.eq_nil_of_length_eq_zero (by omega)
      subst hv0
      cases A with
      | none => exact ⟨hk, fun _ => rfl, run_firstCells_none w sz 0 0 c, run_firstCells_none w.drew sz 0 0 c, by simp, fun _ h => by cases h⟩
      | some ad => exact ⟨hk, fun _ => rfl, run_firstCells_some w sz 0 ad 0 c [] (by simp) (fun j v h => by simp at h), run_firstCells_some w.drew sz 0 ad 0 c [] (by simp) (fun j v h => by simp at h), by simp, fun _ h => by cases h⟩
    · obtain ⟨ad, vs, T, fr, u', rfl, hs, hh, hu, hle, hv⟩ := hat (Nat.mul_pos h (Nat.pos_of_ne_zero h0))
      have hcell : ∀ j v, vl[j]? = some v → w.cell? (ad.add j) = some v := fun j v hj => by
        have hjl : j < n * sz := by rw [← hvl]; exact (List.getElem?_eq_some_iff.1 hj).1
        rw [add_spot hs]
        simp [World.cell?, hh, hv j hjl, hj]
      exact ⟨hk, fun _ => rfl, run_firstCells_some w sz n ad n c vl hvl hcell, run_firstCells_some w.drew sz n ad n c vl hvl (fun j v hj => by simpa using hcell j v hj), hvl, hpl.2.2⟩

theorem run_append_there {t u ty e : TypeId} {i : TypeInfo} (ht : P.underlying t = some (.slice e)) (hi : P.info? e = some i) {ad : Addr} (hs : ad.spot = none) {n c : Nat} {x : Value} {k : Nat} {news : List Value} (hsrc : Src P i.size u x k news w) (hroom : n + k ≤ c)
    {vs : Array Value} {T : TypeId} (hh : w.heap[ad.block]? = some (.cells vs T (0, 0))) (hfit : ad.off + c * i.size ≤ vs.size) :
    (Builtin.append_ #[t, u] ty #[.slice (some ad) n c, x]).run P w = .ok (.slice (some ad) (n + k) c) (w.setRow ad.block (vs.toList.take (ad.off + n * i.size) ++ news ++ vs.toList.drop (ad.off + n * i.size + news.length)).toArray) := by
  have hmul : n * i.size + k * i.size ≤ c * i.size := by rw [← Nat.add_mul]; exact Nat.mul_le_mul_right _ hroom
  have hst := run_storeCells_at (P := P) ad.block (ad.off + n * i.size) T news 0 vs w hh (by rw [hsrc.newsLen]; omega) hsrc.one
  simp only [Nat.add_zero] at hst
  rcases hsrc.kind with ⟨e', hk⟩ | hk <;> simp [Builtin.append_, run_underlying ht, run_underlying hk, sizeOf, typeInfo, hi, hsrc.len, hroom, hsrc.cells, add_spot hs, hst]

theorem tok_alt {t sz : Nat} {A : Option Addr} {n c : Nat} (ht : TokR g w.heap t sz A n c) (hR : Rel Γ g w m) (hm : m t = some .tok) (hc : c ≠ 0) :
    ∃ ad vs T, A = some ad ∧ ad.spot = none ∧ w.heap[ad.block]? = some (.cells vs T (0, 0)) ∧ g.U ad.block = some (ad.off + n * sz) ∧ ad.off + c * sz ≤ vs.size ∧ g.τ t = some (some (ad.block, ad.off + n * sz)) := by
  rcases ht with ⟨_, h, _⟩ | ⟨ad, vs, T, fr, u, rfl, hs, hh, hu, hle, hτ⟩
  · exact absurd h hc
  · rcases hR.tok t hm with h | ⟨k, e, vs', T', h, hh', hU⟩
    · rw [hτ] at h; cases h
    · rw [hτ] at h
      cases h
      rw [hh] at hh'
      cases hh'
      exact ⟨ad, vs, T, rfl, hs, hh, hU, hle, hτ⟩

theorem pers_of_out {g' : Gh} {w' : World} {m' : Mem} (h : Out Γ g w m g' w' m') : Pers g.U w.heap g'.U w'.heap := h.st.pers

theorem wlist_take {l : List Value} {off : Nat} {news : List Value} (hle : off + news.length ≤ l.length) (i : Nat) : ((l.take off ++ news ++ l.drop (off + news.length)).toArray)[i]? = if off ≤ i ∧ i < off + news.length then news[i - off]? else l[i]? := by
  rw [List.getElem?_toArray]
  by_cases h1 : i < off
  · rw [if_neg (by omega), List.append_assoc, List.getElem?_append_left (by rw [List.length_take]; omega), List.getElem?_take, if_pos h1]
  · by_cases h2 : i < off + news.length
    · rw [if_pos (by omega), List.append_assoc, List.getElem?_append_right (by rw [List.length_take]; omega), List.getElem?_append_left (by rw [List.length_take]; omega), List.length_take, Nat.min_eq_left (by omega)]
    · rw [if_neg (by omega), List.getElem?_append_right (by rw [List.length_append, List.length_take]; omega), List.getElem?_drop, List.length_append, List.length_take, Nat.min_eq_left (by omega)]
      congr 1
      omega

theorem upd_comm {α : Type} (f : Nat → α) {i j : Nat} (a b : α) (h : i ≠ j) : upd (upd f i a) j b = upd (upd f j b) i a := by
  funext k
  unfold upd
  by_cases h1 : k = i <;> by_cases h2 : k = j <;> simp_all

section
variable {t u ty e : TypeId} {i : TypeInfo} {zero : List PV} {xs ys : List (List PV)} {A : Option Addr} {n cp : Nat} {v : Value} {news : List Value} {nm : Nat}

theorem olds_run {vl : List Value} (h0 : i.size ≠ 0) (hpl : vl.length = n * i.size) (hat : 0 < n * i.size → ∃ ad vs T fr u, A = some ad ∧ ad.spot = none ∧ w.heap[ad.block]? = some (.cells vs T fr) ∧ g.U ad.block = some u ∧ ad.off + n * i.size ≤ u ∧ ∀ j, j < n * i.size → vs[ad.off + j]? = vl[j]?) :
    (Builtin.firstCells i.size n (.slice A n cp)).run P w.drew = .ok vl.toArray w.drew := by
  rcases Nat.eq_zero_or_pos n with h | h
  · subst h
    have hv0 : vl = [] := List.eq_nil_of_length_eq_zero (by omega)
    subst hv0
    cases A with
    | none => exact run_firstCells_none w.drew i.size 0 0 cp
    | some ad => exact run_firstCells_some w.drew i.size 0 ad 0 cp [] (by simp) (fun j v h => by simp at h)
  · obtain ⟨ad, vs, T, fr, u', rfl, hs, hh, _, _, hv⟩ := hat (Nat.mul_pos h (Nat.pos_of_ne_zero h0))
    refine run_firstCells_some w.drew i.size n ad n cp vl hpl (fun j x hj => ?_)
    have hjl : j < n * i.size := by rw [← hpl]; exact (List.getElem?_eq_some_iff.1 hj).1
    rw [add_spot hs, World.cell?_drew]
    simp [World.cell?, hh, hv j hjl, hj]

theorem append_new (hR : Rel Γ g w m) (ht : P.underlying t = some (.slice e)) (hi : P.info? e = some i) (hz : zeroT P e = some zero) (hzl : zero.length = i.size) (h0 : i.size ≠ 0) (hb0 : i.bytes ≠ 0)
    (hp : PR g.U w.heap (.sl i.size xs) (.slice A n cp)) (hsrc : Src P i.size u v ys.length news w) (hpl : PL g.U w.heap ys.flatten news) (hysz : ∀ y ∈ ys, y.length = i.size)
    (hfit : (xs.length + ys.length) * i.bytes ≤ 140737488355328) (hnm : m nm = none) (hgrow : cp < n + ys.length) :
    ∃ v' g' w', (Builtin.append_ #[t, u] ty #[.slice A n cp, v]).run P w = .ok v' w' ∧ Out Γ g w m g' w' (upd m nm (some .tok)) ∧ VR g' w'.heap (.own nm i.size (xs ++ ys)) v' := by
  obtain ⟨vl, hvl, hn, hc, hm, hcm, hsz, hat⟩ := pr_cells hp
  have hfl := flatten_length hsz
  have hvll : vl.length = n * i.size := by rw [← hvl.1, hfl, hn]
  have hold := olds_run (P := P) (w := w) (g := g) (cp := cp) (i := i) h0 hvll hat
  obtain ⟨iz, z, hiz, hz1, hzv⟩ := vrs_zero (g := g) w.heap hz
  rw [hi] at hiz
  cases hiz
  rw [hn] at hfit
  have hpos : 0 < i.bytes := Nat.pos_of_ne_zero hb0
  have hle48 : n + ys.length ≤ 140737488355328 := Nat.le_trans (Nat.le_mul_of_pos_right _ hpos) hfit
  have hrun := run_append_grow_src (P := P) w t u ty e i z ht hi hz1 A n cp vl hold v ys.length news hsrc hgrow (by omega) (growslice_fits hgrow hfit)
  have hcap := grownCap_ge w (n + ys.length) cp e
  have hcapm := grownCap_le_maxLen w (n + ys.length) cp e (by simp only [maxLen]; omega)
  generalize grownCap w (n + ys.length) cp e = C at hrun hcap hcapm
  have hzs : z.cells.size = i.size := by have := hzv.1; simpa [hzl] using this.symm
  have hzc : (Builtin.zeroCells z.cells (C - (n + ys.length))).size = (C - (n + ys.length)) * i.size := by simp [Builtin.zeroCells, hzs]
  have hcells := hvl.append hpl
  have hnews : (vl ++ news).length = (n + ys.length) * i.size := by rw [List.length_append, hvll, hsrc.newsLen, Nat.add_mul]
  have hsize : ((vl ++ news).toArray ++ Builtin.zeroCells z.cells (C - (n + ys.length))).size = C * i.size := by
    rw [Array.size_append, hzc, List.size_toArray, hnews, ← Nat.add_mul]
    congr 1
    omega
  have hle : (n + ys.length) * i.size ≤ C * i.size := Nat.mul_le_mul_right _ hcap
  have hout := hR.newTok hnm ((vl ++ news).toArray ++ Builtin.zeroCells z.cells (C - (n + ys.length))) e ((n + ys.length) * i.size) (by rw [hsize]; exact hle) (w' := w.drew.alloc (.cells ((vl ++ news).toArray ++ Builtin.zeroCells z.cells (C - (n + ys.length))) e)) rfl ⟨rfl, rfl, rfl⟩
  refine ⟨_, _, _, hrun, hout, ?_⟩
  have hsz2 : ∀ x ∈ xs ++ ys, x.length = i.size := fun x hx => by
    rcases List.mem_append.1 hx with h | h
    · exact hsz x h
    · exact hysz x h
  have hlen : (xs ++ ys).length = n + ys.length := by rw [List.length_append, hn]
  have hflat : (xs ++ ys).flatten = xs.flatten ++ ys.flatten := by simp
  have hps := PL.slice (sz := i.size) (xs := xs ++ ys) (by rw [hflat]; exact hcells.mono hout.st.pers) hsz2 (ad := ⟨w.heap.size, 0, none⟩) (vs := (vl ++ news).toArray ++ Builtin.zeroCells z.cells (C - (n + ys.length))) (T := e) (fr := (0, 0)) (u := (n + ys.length) * i.size) (c := C) rfl push_new (by simp)
    (by rw [hlen]; simp) (by rw [hlen]; exact hcap) (by rw [hlen]; omega) hcapm (fun j hj => by
      rw [hlen] at hj
      rw [Nat.zero_add, Array.getElem?_append_left (by rw [List.size_toArray, hnews]; exact hj)]
      simp)
  rw [hlen] at hps
  exact .own hps (.inr ⟨⟨w.heap.size, 0, none⟩, _, e, (0, 0), (n + ys.length) * i.size, rfl, rfl, push_new, by simp, by simp only [Nat.zero_add]; rw [hsize]; exact Nat.le_refl _, by simp⟩)

theorem append_own (hR : Rel Γ g w m) (ht : P.underlying t = some (.slice e)) (hi : P.info? e = some i) (hz : zeroT P e = some zero) (hzl : zero.length = i.size) (h0 : i.size ≠ 0) (hb0 : i.bytes ≠ 0)
    (hp : PR g.U w.heap (.sl i.size xs) (.slice A n cp)) (hsrc : Src P i.size u v ys.length news w) (hpl : PL g.U w.heap ys.flatten news) (hysz : ∀ y ∈ ys, y.length = i.size)
    (hfit : (xs.length + ys.length) * i.bytes ≤ 140737488355328) (hnm : m nm = none) {tk : Nat} (htk : m tk = some .tok) (htok : TokR g w.heap tk i.size A n cp) :
    ∃ v' g' w', (Builtin.append_ #[t, u] ty #[.slice A n cp, v]).run P w = .ok v' w' ∧ Out Γ g w m g' w' (upd (upd m tk (some .dead)) nm (some .tok)) ∧ VR g' w'.heap (.own nm i.size (xs ++ ys)) v' := by
  have hkill := hR.kill (n := tk) (by rw [htk]; simp)
  have hne : nm ≠ tk := fun h => by subst h; rw [hnm] at htk; cases htk
  have hnm' : upd m tk (some Res.dead) nm = none := by rw [upd_ne _ _ hne]; exact hnm
  by_cases hroom : n + ys.length ≤ cp
  · by_cases hc0 : cp = 0
    · have hy0 : ys = [] := List.eq_nil_of_length_eq_zero (by omega)
      subst hy0
      have hn0 : n = 0 := by omega
      subst hc0; subst hn0
      have hv0 : news = [] := List.eq_nil_of_length_eq_zero (by have := hpl.1; simpa using this.symm)
      subst hv0
      have hrun := run_append_nothing (P := P) w t u ty e i ht hi A 0 0 (Nat.le_refl _) v hsrc
      have hout := hkill.trans (hkill.rel.nilTok (w' := w) hnm' rfl ⟨rfl, rfl, rfl⟩)
      refine ⟨_, _, _, hrun, hout, ?_⟩
      rw [List.append_nil]
      exact .own (hp.mono hout.st.pers) (.inl ⟨rfl, rfl, none, by simp⟩)
    · obtain ⟨ad, vs, T, rfl, hs, hh, hU, hle, hτ⟩ := tok_alt htok hR htk hc0
      obtain ⟨vl, hvl, hn, hc, hm, hcm, hsz, hat⟩ := pr_cells hp
      have hfl := flatten_length hsz
      have hfy := flatten_length hysz
      have hrun := run_append_there (P := P) (w := w) (ty := ty) ht hi hs hsrc hroom hh hle
      have hmul : n * i.size + ys.length * i.size ≤ cp * i.size := by rw [← Nat.add_mul]; exact Nat.mul_le_mul_right _ hroom
      have hnl : news.length = ys.length * i.size := hsrc.newsLen
      have hvt : vs.toList.length = vs.size := Array.length_toList
      have hvsl : ad.off + n * i.size + news.length ≤ vs.toList.length := by rw [hvt, hnl]; omega
      have hget := wlist_take (l := vs.toList) (off := ad.off + n * i.size) (news := news) hvsl
      have hsz' : (vs.toList.take (ad.off + n * i.size) ++ news ++ vs.toList.drop (ad.off + n * i.size + news.length)).toArray.size = vs.size := by
        rw [List.size_toArray, List.length_append, List.length_append, List.length_take, List.length_drop]
        omega
      have hout := hR.grow htk hnm hτ hh (vs.toList.take (ad.off + n * i.size) ++ news ++ vs.toList.drop (ad.off + n * i.size + news.length)).toArray hsz' (fun j hj => by rw [hget, if_neg (by omega)]; simp) (ad.off + (n + ys.length) * i.size) (by rw [Nat.add_mul]; omega) (by rw [Nat.add_mul]; omega) (heap_setRow hh) (sameW_setRow _ _ _)
      refine ⟨_, _, _, hrun, hout, ?_⟩
      have hsz2 : ∀ x ∈ xs ++ ys, x.length = i.size := fun x hx => by
        rcases List.mem_append.1 hx with h | h
        · exact hsz x h
        · exact hysz x h
      have hlen : (xs ++ ys).length = n + ys.length := by rw [List.length_append, hn]
      have hflat : (xs ++ ys).flatten = xs.flatten ++ ys.flatten := by simp
      have hvll : vl.length = n * i.size := by rw [← hvl.1, hfl, hn]
      have hheap : (w.setRow ad.block (vs.toList.take (ad.off + n * i.size) ++ news ++ vs.toList.drop (ad.off + n * i.size + news.length)).toArray).heap[ad.block]? = some (.cells (vs.toList.take (ad.off + n * i.size) ++ news ++ vs.toList.drop (ad.off + n * i.size + news.length)).toArray T (0, 0)) := setRow_heap w _ vs _ T (0, 0) hh
      have hps := PL.slice (sz := i.size) (xs := xs ++ ys) (vl := vl ++ news) (by rw [hflat]; exact (hvl.append hpl).mono hout.st.pers) hsz2 (ad := ad) (T := T) (fr := (0, 0)) (u := ad.off + (n + ys.length) * i.size) (c := cp) hs hheap (by simp)
        (by rw [hlen]; exact Nat.le_refl _) (by rw [hlen]; exact hroom) (by
          rw [hlen]
          have hpos : 0 < i.bytes := Nat.pos_of_ne_zero hb0
          rw [hn] at hfit
          have : n + ys.length ≤ 140737488355328 := Nat.le_trans (Nat.le_mul_of_pos_right _ hpos) hfit
          omega) hcm (fun j hj => by
          rw [hlen] at hj
          rw [hget]
          by_cases hjn : j < n * i.size
          · obtain ⟨ad', vs', T', fr', u', h1, h2, h3, h4, h5, h6⟩ := hat (by omega)
            cases h1
            rw [hh] at h3
            cases h3
            rw [if_neg (by omega), Array.getElem?_toList, h6 j hjn, List.getElem?_append_left (by omega)]
          · rw [if_pos (by rw [hnl]; rw [Nat.add_mul] at hj; omega), List.getElem?_append_right (by omega), hvll]
            congr 1
            omega)
      rw [hlen] at hps
      refine .own hps (.inr ⟨ad, _, T, (0, 0), ad.off + (n + ys.length) * i.size, rfl, hs, hheap, by simp, by rw [hsz']; exact hle, by simp⟩)
  · obtain ⟨v', g', w', h1, h2, h3⟩ := append_new (P := P) (u := u) (ty := ty) (v := v) hkill.rel ht hi hz hzl h0 hb0 hp hsrc hpl hysz hfit hnm' (by omega)
    exact ⟨v', g', w', h1, hkill.trans h2, h3⟩

theorem append_nil (hR : Rel Γ g w m) (ht : P.underlying t = some (.slice e)) (hi : P.info? e = some i) (hz : zeroT P e = some zero) (hzl : zero.length = i.size) (h0 : i.size ≠ 0) (hb0 : i.bytes ≠ 0)
    (hsrc : Src P i.size u v ys.length news w) (hpl : PL g.U w.heap ys.flatten news) (hysz : ∀ y ∈ ys, y.length = i.size) (hfit : ys.length * i.bytes ≤ 140737488355328) (hnm : m nm = none) :
    ∃ v' g' w', (Builtin.append_ #[t, u] ty #[.slice none 0 0, v]).run P w = .ok v' w' ∧ Out Γ g w m g' w' (upd m nm (some .tok)) ∧ VR g' w'.heap (.own nm i.size ys) v' := by
  have hp0 : PR g.U w.heap (.sl i.size []) (.slice none 0 0) := .sl (fun _ => default) rfl (Nat.le_refl _) (by omega) (by simp) (fun _ h => by simp at h) (fun hl => by simp at hl) (fun j a h => by simp at h)
  rcases Nat.eq_zero_or_pos ys.length with hy | hy
  · have hy0 : ys = [] := List.eq_nil_of_length_eq_zero hy
    subst hy0
    have hv0 : news = [] := List.eq_nil_of_length_eq_zero (by have := hpl.1; simpa using this.symm)
    subst hv0
    have hrun := run_append_nothing (P := P) w t u ty e i ht hi none 0 0 (Nat.le_refl _) v hsrc
    have hout := hR.nilTok (w' := w) hnm rfl ⟨rfl, rfl, rfl⟩
    exact ⟨_, _, _, hrun, hout, .own (hp0.mono hout.st.pers) (.inl ⟨rfl, rfl, none, by simp⟩)⟩
  · have := append_new (P := P) (u := u) (ty := ty) (v := v) hR ht hi hz hzl h0 hb0 hp0 hsrc hpl hysz (by simpa using hfit) hnm (by omega)
    simpa using this
end

theorem mem_append (hS : RelS Γ N g w a env m) {t u e : TypeId} {i : TypeInfo} {zero : List PV} {args : Array Operand} {ts : Array TypeId} {s x : Operand} {s' x' : X} (ho : o.op = .call { callee := .builtin .append, args, argTypes := ts }) (ha : args.toList = [s, x]) (hts : ts.toList = [t, u])
    (ht : P.underlying t = some (.slice e)) (hi : P.info? e = some i) (hu : (∃ e', P.underlying u = some (.slice e')) ∨ P.underlying u = some .string) (hz : zeroT P e = some zero) (hs : cX N s = some s') (hx : cX N x = some x') {nm : Nat} {m' : Mem}
    (hv : cmem Γ env m nm (.append i.size i.bytes zero s' x') = some (r, m')) : ∃ v g' w', Did P a w o v w' ∧ Out Γ g w m g' w' m' ∧ VR g' w'.heap r v := by
  have ha := list2 ha
  have hts := list2 hts
  subst ha; subst hts
  obtain ⟨cs, hcs⟩ := exec_builtin (P := P) (a := a) (w := w) ho
  have hexec : ∀ {S V v' : Value} {w' : World}, a.eval s = S → a.eval x = V → (Builtin.append_ #[t, u] o.type #[S, V]).run P w = .ok v' w' → Did P a w o v' w' := by
    intro S V v' w' h1 h2 h3
    refine .inl ?_
    rw [hcs]
    simp [builtin, h1, h2, h3]
  simp only [cmem] at hv
  split at hv
  · rename_i ys xs hm hys hxs
    split at hv
    · rename_i hc
      obtain ⟨hzl, h0, hb0, _, hfit⟩ := hc
      obtain ⟨news, hsrc, hpl, hysz⟩ := src_of (P := P) hu h0 (cX_sound hS hx) hys
      have hsv := cX_sound hS hs
      split at hv
      · rename_i tk sz' xs' hev
        split at hv
        · rename_i htk
          cases hv
          rw [hev] at hsv hxs
          have hsz' : sz' = i.size ∧ xs' = xs := by
            simp only [AV.asSl] at hxs
            split at hxs
            · rename_i h; cases hxs; exact ⟨h, rfl⟩
            · cases hxs
          obtain ⟨rfl, rfl⟩ := hsz'
          generalize hS' : a.eval s = S at hsv
          cases hsv with
          | own h1 h2 =>
            obtain ⟨v', g', w', h3, h4, h5⟩ := append_own (P := P) (u := u) (ty := o.type) hS.rel ht hi hz hzl h0 hb0 h1 hsrc hpl hysz hfit hm htk h2
            exact ⟨v', g', w', hexec hS' rfl h3, h4, h5⟩
        · cases hv
      · rename_i hev
        cases hv
        rw [hev] at hsv hxs
        simp only [AV.asSl, Option.some.injEq] at hxs
        subst hxs
        obtain ⟨v', g', w', h3, h4, h5⟩ := append_nil (P := P) (u := u) (ty := o.type) hS.rel ht hi hz hzl h0 hb0 hsrc hpl hysz (by simpa using hfit) hm
        exact ⟨v', g', w', hexec (vr_s hsv) rfl h3, h4, h5⟩
      · cases hv
    · cases hv
  · cases hv

theorem flatten_ones {α : Type} : ∀ (l : List α), (l.map fun p => [p]).flatten = l
  | [] => rfl
  | x :: l => by rw [List.map_cons, List.flatten_cons, flatten_ones l]; rfl

theorem mem_aslice (hS : RelS Γ N g w a env m) {t e : TypeId} {n sz : Nat} {x : Operand} {lo hi : Option Operand} {x' : X} {lo' hi' : Option X} (ho : o.op = .slice t x lo hi none) (hu : P.underlying t = some (.array n e)) (hsz : sizeT P e = some sz)
    (hx : cX N x = some x') (hlo : cXo N lo = some lo') (hhi : cXo N hi = some hi') {nm : Nat} {m' : Mem} (hv : cmem Γ env m nm (.aslice sz n x' lo' hi') = some (r, m')) : ∃ v g' w', Did P a w o v w' ∧ Out Γ g w m g' w' m' ∧ VR g' w'.heap r v := by
  simp only [cmem] at hv
  split at hv
  · rename_i b off h1
    split at hv
    · rename_i cs fz hm
      simp only [bind, Option.bind_eq_some_iff] at hv
      obtain ⟨i, hi1, j, hj1, ⟨l, h⟩, hb, ps, hps, hv⟩ := hv
      simp only at hv hps
      split at hv
      · rename_i hc
        cases hv
        obtain ⟨rfl, hle, hone, hn48⟩ := hc
        have hxv := cX_sound hS hx
        rw [h1] at hxv
        obtain ⟨k, hk, he⟩ := vr_ptr hxv
        obtain ⟨k', vs, T, hk', hh, hl, hvs, _⟩ := hS.rel.box b cs fz hm
        rw [hk] at hk'
        cases hk'
        obtain ⟨hrun, hlh, hhn⟩ := run_sliceBounds (P := P) hS hlo hhi hi1 hj1 hb (Nat.le_refl n) false w
        have hout := hS.rel.freeze hm hk
        have hvl : VL g w.heap ((cs.drop (off + l)).take (h - l)) ((vs.toList.drop (off + l)).take (h - l)) := ((vp_of hl hvs).drop _).take (by rw [List.length_drop]; omega)
        have hpl := vrs_toPL hvl.arr hps hone
        have hpl' : PL g.U w.heap (ps.map fun p => [p]).flatten ((vs.toList.drop (off + l)).take (h - l)) := by rw [flatten_ones]; simpa using hpl
        have hpsl : ps.length = h - l := by
          rw [hpl.1]
          have hvt : vs.toList.length = vs.size := Array.length_toList
          simp
          omega
        have hlen : (ps.map fun p => [p]).length = h - l := by simp [hpsl]
        have hvt : vs.toList.length = vs.size := Array.length_toList
        refine ⟨.slice (some (if n = l then ⟨k, off, none⟩ else (⟨k, off, none⟩ : Addr).add (l * 1))) (h - l) (n - l), _, w, .inl ?_, hout, .p ?_⟩
        · unfold execOp
          simp only [ho, he]
          refine exec_val' ?_
          simp [Instr.sliceAt, run_underlying hu, Instr.sureAddr, hrun, run_sizeOf hsz]
        · by_cases hnl : n = l
          · have h0 : ps = [] := List.eq_nil_of_length_eq_zero (by omega)
            subst h0
            have hhl : h - l = 0 := by omega
            rw [hhl]
            exact .sl (fun _ => default) rfl (Nat.zero_le _) (by omega) (by simp only [maxLen]; omega) (by simp) (fun hl => by simp at hl) (fun j a h => by simp at h)
          · rw [if_neg hnl, Nat.mul_one, add_spot rfl]
            have := PL.slice (sz := 1) (xs := ps.map fun p => [p]) (hpl'.mono hout.st.pers) (fun x hx => by obtain ⟨_, _, rfl⟩ := List.mem_map.1 hx; rfl) (ad := ⟨k, off + l, none⟩) (vs := vs) (T := T) (fr := (0, 0)) (u := cs.length) (c := n - l) rfl hh (by simp)
              (by rw [hlen]; simp only; omega) (by rw [hlen]; omega) (by rw [hlen]; omega) (by simp only [maxLen]; omega) (fun j hj => by
                rw [hlen] at hj
                rw [List.getElem?_take, if_pos (by omega), List.getElem?_drop, Array.getElem?_toList])
            rw [hlen] at this
            exact this
      · cases hv
    · cases hv
  · cases hv

/-- Whether an operation makes a name. -/
theorem mem_sound (hS : RelS Γ N g w a env m) (hc : cop P N o = some c) {nm : Nat} {m' : Mem} (hv : cmem Γ env m nm c = some (r, m')) : ∃ v g' w', Did P a w o v w' ∧ Out Γ g w m g' w' m' ∧ VR g' w'.heap r v := by
  unfold cop at hc
  split at hc
  all_goals rename_i ho
  case h_4 =>
    simp only [bind, Option.bind_eq_some_iff] at hc
    obtain ⟨x, hx, y, hy, hc⟩ := hc
    repeat' split at hc
    all_goals first
      | (cases hc; done)
      | (cases hc; simp [cmem] at hv; done)
      | (simp only [Option.bind_eq_some_iff, pure, Option.some.injEq] at hc; obtain ⟨_, _, rfl⟩ := hc; simp [cmem] at hv; done)
  case h_6 =>
    simp only [bind, Option.bind_eq_some_iff] at hc
    obtain ⟨x, hx, hc⟩ := hc
    repeat' split at hc
    all_goals first
      | (cases hc; done)
      | (cases hc; simp [cmem] at hv; done)
  case h_7 =>
    simp only [bind, Option.bind_eq_some_iff] at hc
    obtain ⟨zero, hz, hc⟩ := hc
    split at hc
    · simp only [Option.bind_eq_some_iff] at hc
      obtain ⟨ps, hps, hc⟩ := hc
      split at hc
      · cases hc; simp [cmem] at hv
      · cases hc
    · simp only [Option.bind_eq_some_iff, pure, Option.some.injEq] at hc
      obtain ⟨_, _, _, _, rfl⟩ := hc
      simp [cmem] at hv
    · cases hc
  case h_8 =>
    simp only [bind, Option.bind_eq_some_iff] at hc
    obtain ⟨x, hx, hc⟩ := hc
    split at hc
    · simp only [Option.bind_eq_some_iff, pure, Option.some.injEq] at hc
      obtain ⟨_, _, _, _, rfl⟩ := hc
      simp [cmem] at hv
    · cases hc
  case h_9 =>
    simp only [bind, Option.bind_eq_some_iff] at hc
    obtain ⟨x, hx, y, hy, hc⟩ := hc
    split at hc
    · simp only [Option.bind_eq_some_iff, pure, Option.some.injEq] at hc
      obtain ⟨_, _, rfl⟩ := hc
      simp [cmem] at hv
    · cases hc; simp [cmem] at hv
    · cases hc
  case h_11 =>
    simp only [bind, Option.bind_eq_some_iff] at hc
    obtain ⟨x, hx, lo, hlo, hi, hhi, hc⟩ := hc
    split at hc
    · simp only [Option.bind_eq_some_iff, pure, Option.some.injEq] at hc
      obtain ⟨_, _, rfl⟩ := hc
      simp [cmem] at hv
    · rename_i n e hu
      simp only [Option.bind_eq_some_iff, pure, Option.some.injEq] at hc
      obtain ⟨sz, hsz, rfl⟩ := hc
      exact mem_aslice hS ho hu hsz hx hlo hhi hv
    · cases hc
  case h_12 =>
    simp only [bind, Option.bind_eq_some_iff] at hc
    obtain ⟨x, hx, hc⟩ := hc
    split at hc
    · simp only [Option.bind_eq_some_iff] at hc
      obtain ⟨_, _, _, _, hc⟩ := hc
      split at hc
      · cases hc
      · cases hc; simp [cmem] at hv
    · cases hc
  case h_13 =>
    simp only [bind, Option.bind_eq_some_iff] at hc
    obtain ⟨x, hx, y, hy, hc⟩ := hc
    split at hc
    · simp only [Option.bind_eq_some_iff] at hc
      obtain ⟨_, _, hc⟩ := hc
      split at hc
      · cases hc
      · cases hc; simp [cmem] at hv
    · simp only [Option.bind_eq_some_iff, pure, Option.some.injEq] at hc
      obtain ⟨_, _, rfl⟩ := hc
      simp [cmem] at hv
    · cases hc
  case h_15 =>
    simp only [bind, Option.bind_eq_some_iff] at hc
    obtain ⟨x, hx, hc⟩ := hc
    split at hc
    · cases hc
    · cases hc
    · cases hc; simp [cmem] at hv
  case h_17 =>
    simp only [bind, Option.bind_eq_some_iff] at hc
    obtain ⟨x, hx, hc⟩ := hc
    split at hc
    · cases hc; simp [cmem] at hv
    · cases hc
  case h_18 =>
    simp only [bind, Option.bind_eq_some_iff, pure, Option.some.injEq] at hc
    obtain ⟨n, hn, x, hx, rfl⟩ := hc
    exact mem_load hS ho hn hx hv
  case h_19 =>
    simp only [bind, Option.bind_eq_some_iff, pure, Option.some.injEq] at hc
    obtain ⟨n, hn, x, hx, y, hy, rfl⟩ := hc
    exact mem_store hS ho hn hx hy hv
  case h_20 =>
    simp only [bind, Option.bind_eq_some_iff, pure, Option.some.injEq] at hc
    obtain ⟨x, hx, rfl⟩ := hc
    exact mem_box hS ho hx hv
  case h_21 =>
    simp only [bind, Option.bind_eq_some_iff, pure, Option.some.injEq] at hc
    obtain ⟨z, hz, rfl⟩ := hc
    exact mem_alloc hS ho hz hv
  case h_22 =>
    split at hc
    · rename_i e hu
      simp only [bind, Option.bind_eq_some_iff] at hc
      obtain ⟨sz, hsz, zero, hz, hc⟩ := hc
      split at hc
      · cases hc
      · rename_i h24
        simp only [Option.bind_eq_some_iff, pure, Option.some.injEq] at hc
        obtain ⟨ps, hps, rfl⟩ := hc
        exact mem_bslice hS ho hu hsz hz h24 hps hv
    · cases hc
  case h_23 =>
    split at hc
    · simp only [bind, Option.bind_eq_some_iff] at hc
      obtain ⟨x', hx, hc⟩ := hc
      split at hc
      · cases hc; simp [cmem] at hv
      · cases hc; simp [cmem] at hv
      · cases hc
    · simp only [bind, Option.bind_eq_some_iff, pure, Option.some.injEq] at hc
      obtain ⟨_, _, _, _, rfl⟩ := hc
      simp [cmem] at hv
    · simp only [bind, Option.bind_eq_some_iff, pure, Option.some.injEq] at hc
      obtain ⟨_, _, _, _, rfl⟩ := hc
      simp [cmem] at hv
    · rename_i s x t u ha hts
      simp only [bind, Option.bind_eq_some_iff] at hc
      obtain ⟨s', hs, x', hx, hc⟩ := hc
      split at hc
      · rename_i e ht
        simp only [Option.bind_eq_some_iff] at hc
        obtain ⟨i, hi, hc⟩ := hc
        split at hc
        · rename_i e' hu
          simp only [Option.bind_eq_some_iff, pure, Option.some.injEq] at hc
          obtain ⟨z, hz, rfl⟩ := hc
          exact mem_append hS ho ha hts ht hi (.inl ⟨e', hu⟩) hz hs hx hv
        · rename_i hu
          simp only [Option.bind_eq_some_iff, pure, Option.some.injEq] at hc
          obtain ⟨z, hz, rfl⟩ := hc
          exact mem_append hS ho ha hts ht hi (.inr hu) hz hs hx hv
        · cases hc
      · cases hc
    · cases hc
  case h_26 => cases hc
  all_goals
    simp only [bind, Option.bind_eq_some_iff, pure, Option.some.injEq] at hc
    first
      | (obtain ⟨_, _, rfl⟩ := hc; simp [cmem] at hv; done)
      | (obtain ⟨_, _, _, _, rfl⟩ := hc; simp [cmem] at hv; done)
      | (obtain ⟨_, _, _, _, _, _, rfl⟩ := hc; simp [cmem] at hv; done)
end
end Go.Shade
