/- The quiet operations do what 'cpure' says: the theorem. Own work. -/
import Derived.Test.YtnhkcalanpepoaaSf
import Derived.Laws.IdiomStrings
namespace Go.Shade
open Go

section
variable {P : Program} {N : Nat} {Γ : Globs} {g : Gh} {w : World} {a : Act} {env : Nat → AV} {m : Mem} {o : Oper} {r : AV}

theorem exec_val {s : Sem Value} {v : Value} (hs : s.run P w = .ok v w) : (do pure (Next.value (← s)) : Sem Next).run P w = .ok (.value v) w := by
  rw [Sem.run_bind, hs]
  rfl

theorem does_move (hS : RelS Γ N g w a env m) {x : Operand} {x' : X} (ho : o.op = .move x ∨ o.op = .assign x) (hx : cX N x = some x') (hv : cpure Γ env (.mv x') = some r) : ∃ v, Does P a w o v ∧ VR g w.heap r v := by
  simp only [cpure, Option.some.injEq] at hv
  subst hv
  refine ⟨a.eval x, ?_, cX_sound hS hx⟩
  unfold Does execOp
  rcases ho with ho | ho <;> rw [ho] <;> rfl

theorem does_pick (hS : RelS Γ N g w a env m) {c x y : Operand} {c' x' y' : X} (ho : o.op = .pick c x y) (hc : cX N c = some c') (hx : cX N x = some x') (hy : cX N y = some y') (hv : cpure Γ env (.pick c' x' y') = some r) :
    ∃ v, Does P a w o v ∧ VR g w.heap r v := by
  simp only [cpure] at hv
  split at hv
  · rename_i t ht
    cases hv
    have hcv := cX_sound hS hc
    rw [ht] at hcv
    have hcv := vr_s hcv
    refine ⟨if t then a.eval x else a.eval y, ?_, ?_⟩
    · unfold Does execOp
      rw [ho]
      simp [hcv, asBool]
    · cases t
      · exact cX_sound hS hy
      · exact cX_sound hS hx
  · cases hv

theorem does_bin (hS : RelS Γ N g w a env m) {op : BinOp} {t u : TypeId} {x y : Operand} {x' y' : X} (ho : o.op = .binOp op t x y u) (hx : cX N x = some x') (hy : cX N y = some y') (hv : cpure Γ env (.bin op x' y') = some r) :
    ∃ v, Does P a w o v ∧ VR g w.heap r v := by
  simp only [cpure] at hv
  split at hv
  · rename_i v1 v2 h1 h2
    obtain ⟨v, hv1, rfl⟩ := Option.map_eq_some_iff.1 hv
    have hxv := cX_sound hS hx
    have hyv := cX_sound hS hy
    rw [h1] at hxv; rw [h2] at hyv
    have hxv := vr_s hxv
    have hyv := vr_s hyv
    refine ⟨v, ?_, .p (.s _)⟩
    unfold Does execOp
    simp only [ho, hxv, hyv]
    exact exec_val (abin_run hv1)
  · cases hv

theorem does_beq (hS : RelS Γ N g w a env m) {op : BinOp} {t u : TypeId} {x y : Operand} {x' y' : X} (ho : o.op = .binOp op t x y u) (hop : op = .eql ∨ op = .neq) (hu : P.underlying t = some .bool) (hx : cX N x = some x') (hy : cX N y = some y')
    (hv : cpure Γ env (.beq (op == .neq) x' y') = some r) : ∃ v, Does P a w o v ∧ VR g w.heap r v := by
  simp only [cpure] at hv
  split at hv
  · rename_i v1 v2 h1 h2
    cases hv
    have hxv := cX_sound hS hx
    have hyv := cX_sound hS hy
    rw [h1] at hxv; rw [h2] at hyv
    have hxv := vr_s hxv
    have hyv := vr_s hyv
    refine ⟨_, ?_, .p (.s _)⟩
    unfold Does execOp
    simp only [ho, hxv, hyv]
    exact exec_val (beq_run hop hu)
  · cases hv

theorem eqAs_vals {h : Array Obj} : ∀ {ks : List Nat} {cs ds : List AV} {xs ys : List Value} {t : Bool}, eqAs ks cs ds = some t → cs.length = xs.length → ds.length = ys.length →
    (∀ (i : Nat) a v, cs[i]? = some a → xs[i]? = some v → VR g h a v) → (∀ (i : Nat) a v, ds[i]? = some a → ys[i]? = some v → VR g h a v) → eqVs ks xs ys = some t
  | [], [], [], xs, ys, t, he, h1, h2, _, _ => by
    have e1 : xs = [] := List.eq_nil_of_length_eq_zero h1.symm
    have e2 : ys = [] := List.eq_nil_of_length_eq_zero h2.symm
    subst e1; subst e2
    simpa [eqAs, eqVs] using he
  | [], [], _ :: _, _, _, _, he, _, _, _, _ => by simp [eqAs] at he
  | [], _ :: _, _, _, _, _, he, _, _, _, _ => by simp [eqAs] at he
  | _ :: _, [], _, _, _, _, he, _, _, _, _ => by simp [eqAs] at he
  | _ :: _, _ :: _, [], _, _, _, he, _, _, _, _ => by simp [eqAs] at he
  | k :: ks, a :: cs, b :: ds, [], _, t, _, h1, _, _, _ => by simp at h1
  | k :: ks, a :: cs, b :: ds, _ :: _, [], t, _, _, h2, _, _ => by simp at h2
  | k :: ks, a :: cs, b :: ds, x :: xs, y :: ys, t, he, h1, h2, h3, h4 => by
    simp only [eqAs] at he
    have k1 := h3 0 a x rfl rfl
    have k2 := h4 0 b y rfl rfl
    split at he
    · rename_i u v hu hv
      have ea : a = .p (.s u) := by cases a <;> simp [AV.asV] at hu; rename_i p; cases p <;> simp at hu; rw [hu]
      have eb : b = .p (.s v) := by cases b <;> simp [AV.asV] at hv; rename_i p; cases p <;> simp at hv; rw [hv]
      subst ea; subst eb
      cases k1 with
      | p q1 =>
      cases k2 with
      | p q2 =>
      cases q1
      cases q2
      obtain ⟨r, hr, he⟩ := Option.bind_eq_some_iff.1 he
      obtain ⟨q, hq, rfl⟩ := Option.map_eq_some_iff.1 he
      have ih := eqAs_vals hq (by simpa using h1) (by simpa using h2) (fun i a v ha hv => h3 (i + 1) a v (by simpa using ha) (by simpa using hv)) (fun i a v ha hv => h4 (i + 1) a v (by simpa using ha) (by simpa using hv))
      simp [eqVs, hr, ih]
    · cases he
theorem does_eqs (hS : RelS Γ N g w a env m) {op : BinOp} {t u : TypeId} {x y : Operand} {x' y' : X} {ks : List Nat} (ho : o.op = .binOp op t x y u) (hop : op = .eql ∨ op = .neq) (hk : eqT P t = some ks) (hx : cX N x = some x') (hy : cX N y = some y')
    (hv : cpure Γ env (.eqs (op == .neq) ks x' y') = some r) : ∃ v, Does P a w o v ∧ VR g w.heap r v := by
  simp only [cpure, eqsE] at hv
  split at hv
  · rename_i cs ds h1 h2
    obtain ⟨q, hq, rfl⟩ := Option.map_eq_some_iff.1 hv
    have hxv := cX_sound hS hx
    have hyv := cX_sound hS hy
    rw [h1] at hxv; rw [h2] at hyv
    obtain ⟨xs, e1, l1, r1⟩ := vr_agg hxv
    obtain ⟨ys, e2, l2, r2⟩ := vr_agg hyv
    have he := eqAs_vals hq (xs := xs.toList) (ys := ys.toList) (by simpa using l1) (by simpa using l2) (fun i a v ha hv => r1 i a v ha (by simpa using hv)) (fun i a v ha hv => r2 i a v ha (by simpa using hv))
    unfold eqT at hk
    split at hk
    · rename_i hc
      rw [Bool.and_eq_true, Bool.not_eq_true'] at hc
      obtain ⟨hag, hgt⟩ := hc
      have hag : isAggD P t = true := hag
      have hE := equalIn_flat 8 t ks hk 10000 (by omega) w (.agg xs) (.agg ys) xs.toList ys.toList q (by rw [Shp, hag]; rfl) (by rw [Shp, hag]; rfl) he
      have hg := fun op => run_eqGuard_agg w op t x y xs ys hgt
      refine ⟨_, ?_, .p (.s _)⟩
      unfold Does execOp
      simp only [ho, e1, e2]
      refine exec_val ?_
      rw [Sem.run_bind, hg op, Result.andThen_ok]
      rcases hop with rfl | rfl
      · rw [run_eql_struct, hE]; rfl
      · rw [run_neq_struct, hE]; rfl
    · cases hk
  · cases hv

theorem does_un (hS : RelS Γ N g w a env m) {op : UnOp} {t : TypeId} {x : Operand} {x' : X} (ho : o.op = .unOp op t x) (hx : cX N x = some x') (hv : cpure Γ env (.un op x') = some r) : ∃ v, Does P a w o v ∧ VR g w.heap r v := by
  simp only [cpure] at hv
  split at hv
  · rename_i v1 h1
    obtain ⟨v, hv1, rfl⟩ := Option.map_eq_some_iff.1 hv
    have hxv := cX_sound hS hx
    rw [h1] at hxv
    have hxv := vr_s hxv
    refine ⟨v, ?_, .p (.s _)⟩
    unfold Does execOp
    simp only [ho, hxv]
    exact exec_val (aun_run hv1)
  · cases hv

theorem does_toInt (hS : RelS Γ N g w a env m) {s t : TypeId} {x : Operand} {x' : X} {k j : IntKind} (ho : o.op = .convert s t x) (hs : P.underlying s = some (.int j)) (ht : P.underlying t = some (.int k)) (hx : cX N x = some x')
    (hv : cpure Γ env (.toInt k x') = some r) : ∃ v, Does P a w o v ∧ VR g w.heap r v := by
  simp only [cpure] at hv
  split at hv
  · rename_i k1 n1 h1
    cases hv
    have hxv := cX_sound hS hx
    rw [h1] at hxv
    have hxv := vr_s hxv
    refine ⟨_, ?_, .p (.s _)⟩
    unfold Does execOp
    simp only [ho, hxv]
    exact exec_val (by simp [convert, run_underlying hs, run_underlying ht, Conv.intToInt])
  · cases hv

theorem does_strId (hS : RelS Γ N g w a env m) {s t : TypeId} {x : Operand} {x' : X} (ho : o.op = .convert s t x) (hs : P.underlying s = some .string) (ht : P.underlying t = some .string) (hx : cX N x = some x')
    (hv : cpure Γ env (.strId x') = some r) : ∃ v, Does P a w o v ∧ VR g w.heap r v := by
  simp only [cpure] at hv
  split at hv
  · rename_i s1 h1
    cases hv
    have hxv := cX_sound hS hx
    rw [h1] at hxv
    have hxv := vr_s hxv
    refine ⟨_, ?_, .p (.s _)⟩
    unfold Does execOp
    simp only [ho, hxv]
    exact exec_val (by simp [convert, run_underlying hs, run_underlying ht])
  · cases hv

/-- A slice of octets as its octets. -/
theorem bytes_flat : ∀ {xs : List (List PV)} {bs : List UInt8}, asBytes xs = some bs → xs.flatten = bs.map (fun b => PV.s (.int .u8 b.toNat)) ∧ xs.length = bs.length
  | [], bs, h => by
    simp only [asBytes, List.mapM_nil, pure, Option.some.injEq] at h
    subst h
    exact ⟨rfl, rfl⟩
  | x :: xs, bs, h => by
    simp only [asBytes, List.mapM_cons, bind, Option.bind_eq_some_iff, pure, Option.some.injEq] at h
    obtain ⟨b, hb, r, hr, rfl⟩ := h
    obtain ⟨h1, h2⟩ := bytes_flat (xs := xs) (bs := r) hr
    unfold byteOf at hb
    split at hb
    · split at hb
      · rename_i n hn
        cases hb
        refine ⟨?_, by simp [h2]⟩
        rw [List.flatten_cons, h1, List.map_cons, List.singleton_append]
        congr 3
        simp
        omega
      · cases hb
    · cases hb

theorem does_toStr (hS : RelS Γ N g w a env m) {s t e : TypeId} {x : Operand} {x' : X} (ho : o.op = .convert s t x) (hs : P.underlying s = some (.slice e)) (he : P.underlying e = some (.int .u8)) (ht : P.underlying t = some .string) (hx : cX N x = some x')
    (hv : cpure Γ env (.toStr x') = some r) : ∃ v, Does P a w o v ∧ VR g w.heap r v := by
  simp only [cpure] at hv
  obtain ⟨xs, hxs, hv⟩ := Option.bind_eq_some_iff.1 hv
  obtain ⟨bs, hbs, rfl⟩ := Option.map_eq_some_iff.1 hv
  obtain ⟨A, n, c, hev, hp⟩ := vr_asSl (cX_sound hS hx) hxs
  obtain ⟨hfl, hln⟩ := bytes_flat hbs
  refine ⟨.string ⟨bs.toArray⟩, ?_, .p (.s _)⟩
  unfold Does execOp
  simp only [ho, hev]
  refine exec_val ?_
  cases hp with
  | sl f hn hc hm hcm hsz hpl hr =>
    have hlen : xs.flatten.length = n := by rw [hfl, List.length_map, ← hln, hn]
    have hbn : bs.length = n := by omega
    cases A with
    | none =>
      have hn0 : n = 0 := by
        rcases Nat.eq_zero_or_pos n with h | h
        · exact h
        · obtain ⟨_, _, _, _, _, h', _⟩ := hpl (by omega)
          cases h'
      have : bs = [] := List.eq_nil_of_length_eq_zero (by omega)
      subst this
      rw [run_convert_bytes_nil w s e hs he n c t ht]
      rfl
    | some ad =>
      subst hbn
      refine run_convert_bytes_back w s t e ad c bs hs he ht (fun j hj => ?_)
      have hc2 := cptr_cells (g := g) (w := w) (cs := xs.flatten) hpl (n := bs.length) (by omega) j (f j) (by simp [hj])
      rw [hc2]
      have := hr j (PV.s (.int .u8 (bs[j]).toNat)) (by rw [hfl, List.getElem?_map, List.getElem?_eq_getElem hj]; rfl)
      generalize f j = q at this
      cases this
      rfl

theorem does_build (hS : RelS Γ N g w a env m) {t : TypeId} {parts : Array (Nat × Operand)} {zero : List PV} {ps : List (Nat × Nat × X)} (ho : o.op = .build t parts) (hz : zeroT P t = some zero)
    (hcase : (∃ fs, P.underlying t = some (.struct fs) ∧ (fs.toList.all fun f => (sizeT P f.type).isSome) = true ∧ parts.toList.mapM (fun (i, x) => do let f ← fs[i]?; pure (f.offset, ← sizeT P f.type, ← cX N x)) = some ps) ∨
      ∃ n e sz, P.underlying t = some (.array n e) ∧ sizeT P e = some sz ∧ parts.toList.mapM (fun (i, x) => do pure (i * sz, sz, ← cX N x)) = some ps)
    (hv : cpure Γ env (.build zero ps) = some r) : ∃ v, Does P a w o v ∧ VR g w.heap r v := by
  simp only [cpure] at hv
  split at hv
  · rename_i hc
    cases hv
    have key : ∃ vs', P.built t (parts.map fun (i, x) => (i, a.eval x)).toList = some vs' ∧ VRs g w.heap (fillA (zero.map AV.p) (ps.map fun (off, _, x) => (off, (x.ev Γ env).cells))) vs' := by
      rcases hcase with ⟨fs, hu, hall, hps⟩ | ⟨n, e, sz, hu, hsz, hps⟩
      · obtain ⟨vs, place, h1, h2, h3⟩ := built_struct (g := g) hu hz hall w.heap
        obtain ⟨hl, hget⟩ := parts_get hps
        obtain ⟨vs', h4, h5⟩ := build_parts hS h1 hl (place := place) (fun i x q hx hq => by
          have := hget i x q hx hq
          obtain ⟨xi, xo⟩ := x
          simp only [bind, Option.bind_eq_some_iff, pure, Option.some.injEq] at this
          obtain ⟨f, hf, n, hn, y, hy, rfl⟩ := this
          exact ⟨h2 _ f n hf hn, hy⟩) hc
        exact ⟨vs', by rw [h3]; exact h4, h5⟩
      · obtain ⟨vs, h1, h3⟩ := built_array (g := g) hu hz hsz w.heap
        obtain ⟨hl, hget⟩ := parts_get hps
        obtain ⟨vs', h4, h5⟩ := build_parts hS h1 hl (place := fun i => some (i * sz, sz)) (fun i x q hx hq => by
          have := hget i x q hx hq
          obtain ⟨xi, xo⟩ := x
          simp only [bind, Option.bind_eq_some_iff, pure, Option.some.injEq] at this
          obtain ⟨y, hy, rfl⟩ := this
          exact ⟨rfl, hy⟩) hc
        exact ⟨vs', by rw [h3]; exact h4, h5⟩
    obtain ⟨vs', h1, h2⟩ := key
    refine ⟨.agg vs', ?_, .agg h2.1 h2.2⟩
    unfold Does execOp
    simp only [ho]
    exact exec_val (run_build w t _ _ h1)
  · cases hv

theorem does_field (hS : RelS Γ N g w a env m) {t : TypeId} {x : Operand} {i : Nat} {fs : Array Field} {f : Field} {x' : X} {n : Nat} (ho : o.op = .field t x i) (hu : P.underlying t = some (.struct fs)) (hf : fs[i]? = some f) (hn : sizeT P f.type = some n)
    (hx : cX N x = some x') (hv : cpure Γ env (.field (isAggT P f.type) f.offset n x') = some r) : ∃ v, Does P a w o v ∧ VR g w.heap r v := by
  simp only [cpure] at hv
  split at hv
  · rename_i cs h1
    have hxv := cX_sound hS hx
    rw [h1] at hxv
    obtain ⟨vs, he, hvs⟩ := vr_agg hxv
    obtain ⟨v, h2, h3⟩ := part_run (P := P) hn hvs.1 hvs.2 hv
    refine ⟨v, ?_, h3⟩
    unfold Does execOp
    simp only [ho, he]
    exact exec_val (by simp [Instr.field, run_underlying hu, hf, asAgg, h2])
  · cases hv

theorem does_index (hS : RelS Γ N g w a env m) {t e : TypeId} {x i : Operand} {len n : Nat} {x' i' : X} (ho : o.op = .index t x i) (hu : P.underlying t = some (.array len e)) (hn : sizeT P e = some n)
    (hx : cX N x = some x') (hi : cX N i = some i') (hv : cpure Γ env (.index (isAggT P e) len n x' i') = some r) : ∃ v, Does P a w o v ∧ VR g w.heap r v := by
  simp only [cpure] at hv
  split at hv
  · rename_i cs j h1 h2
    split at hv
    · rename_i hj
      have hxv := cX_sound hS hx
      rw [h1] at hxv
      obtain ⟨vs, he, hvs⟩ := vr_agg hxv
      obtain ⟨k, hk⟩ := vr_asInt (cX_sound hS hi) h2
      obtain ⟨v, h3, h4⟩ := part_run (P := P) hn hvs.1 hvs.2 hv
      refine ⟨v, ?_, h4⟩
      unfold Does execOp
      simp only [ho, he, hk]
      exact exec_val (by simp [Instr.index, run_underlying hu, asIntOf, hj, run_sizeOf hn, h3])
    · cases hv
  · cases hv

theorem does_sindex (hS : RelS Γ N g w a env m) {t : TypeId} {x i : Operand} {x' i' : X} (ho : o.op = .index t x i) (hu : P.underlying t = some .string)
    (hx : cX N x = some x') (hi : cX N i = some i') (hv : cpure Γ env (.sindex x' i') = some r) : ∃ v, Does P a w o v ∧ VR g w.heap r v := by
  simp only [cpure] at hv
  split at hv
  · rename_i s j h1 h2
    split at hv
    · rename_i hj
      cases hv
      have hxv := cX_sound hS hx
      rw [h1] at hxv
      have hxv := vr_s hxv
      obtain ⟨k, hk⟩ := vr_asInt (cX_sound hS hi) h2
      refine ⟨_, ?_, .p (.s _)⟩
      unfold Does execOp
      simp only [ho, hxv, hk]
      have hjn : j.toNat < s.size := by omega
      have hjn' : j.toNat < s.data.toList.length := by rw [Array.length_toList]; exact hjn
      refine exec_val ?_
      have hg : s[j.toNat]? = some (s.data.toList.getD j.toNat 0) := by
        rw [List.getD_eq_getElem?_getD, List.getElem?_eq_getElem hjn', getElem?_pos s j.toNat hjn]
        rfl
      simp [Instr.index, run_underlying hu, asIntOf, hj.1, hg]
    · cases hv
  · cases hv

theorem does_extract (hS : RelS Γ N g w a env m) {x : Operand} {i : Nat} {x' : X} (ho : o.op = .extract x i) (hx : cX N x = some x') (hv : cpure Γ env (.extract i x') = some r) : ∃ v, Does P a w o v ∧ VR g w.heap r v := by
  simp only [cpure] at hv
  split at hv
  · rename_i l h1
    have hxv := cX_sound hS hx
    rw [h1] at hxv
    obtain ⟨vs, he, hvs⟩ := vr_tup hxv
    have hlt : i < vs.size := by rw [← hvs.1]; exact (List.getElem?_eq_some_iff.1 hv).1
    refine ⟨vs[i], ?_, hvs.2 i r _ hv (Array.getElem?_eq_getElem hlt)⟩
    unfold Does execOp
    simp only [ho, he]
    exact exec_val (by simp [Instr.extract, Array.getElem?_eq_getElem hlt])
  · cases hv
end
end Go.Shade
