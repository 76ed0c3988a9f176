/- The quiet operations do what 'cpure' says: addresses, slices, builtins; all together. Own work. -/
import Derived.Test.YtnhkcalanpepoaaSg
namespace Go.Shade
open Go

section
variable {P : Program} {N : Nat} {Γ : Globs} {g : Gh} {w : World} {a : Act} {env : Nat → AV} {m : Mem} {o : Oper} {r : AV}

theorem exec_builtin {b : Builtin} {args : Array Operand} {ts : Array TypeId} (ho : o.op = .call { callee := .builtin b, args, argTypes := ts }) :
    ∃ cs, (execOp a.eval o).run P w = (builtin b ts o.type cs (args.map a.eval)).run P w := by
  refine ⟨args.map fun | .const _ => true | _ => false, ?_⟩
  unfold execOp
  simp only [ho, resolve, Sem.run_bind, Sem.run_pure, Result.andThen_ok, invoke]
  rfl

theorem vr_len {b : AV} {n : Nat} {v : Value} (h : VR g w.heap b v) (hs : b.lenOf = some n) : ∃ A c, v = .slice A n c := by
  unfold AV.lenOf at hs
  split at hs
  · cases hs
    cases h with
    | p h => cases h with
      | sl f hn _ _ _ _ _ _ => subst hn; exact ⟨_, _, rfl⟩
  · cases hs
    cases h with
    | own h _ => cases h with
      | sl f hn _ _ _ _ _ _ => subst hn; exact ⟨_, _, rfl⟩
  · cases hs
    exact ⟨none, 0, vr_s h⟩
  · cases hs
    cases h with
    | bsl => exact ⟨_, _, rfl⟩
  · cases hs

theorem vr_bsl {b off s n : Nat} {v : Value} (h : VR g w.heap (.bsl b off s n) v) : ∃ k c, g.σ b = some k ∧ v = .slice (some ⟨k, off, none⟩) n c ∧ n ≤ c ∧ c ≤ maxLen ∧ n ≤ 281474976710656 := by
  cases h with
  | bsl hs hn hc hm => exact ⟨_, _, hs, rfl, hn, hc, hm⟩

theorem list1 {α : Type} {l : Array α} {x : α} (h : l.toList = [x]) : l = #[x] := by apply Array.ext'; simpa using h
theorem list2 {α : Type} {l : Array α} {x y : α} (h : l.toList = [x, y]) : l = #[x, y] := by apply Array.ext'; simpa using h

theorem does_len (hS : RelS Γ N g w a env m) {t e : TypeId} {args : Array Operand} {ts : Array TypeId} {x : Operand} {x' : X} (ho : o.op = .call { callee := .builtin .len, args, argTypes := ts }) (ha : args.toList = [x]) (ht : ts.toList = [t])
    (hu : P.underlying t = some (.slice e)) (hx : cX N x = some x') (hv : cpure Γ env (.len x') = some r) : ∃ v, Does P a w o v ∧ VR g w.heap r v := by
  simp only [cpure] at hv
  obtain ⟨n, hn, rfl⟩ := Option.map_eq_some_iff.1 hv
  obtain ⟨A, c, he⟩ := vr_len (cX_sound hS hx) hn
  have ha := list1 ha
  have ht := list1 ht
  subst ha; subst ht
  refine ⟨.int .i64 n, ?_, .p (.s _)⟩
  obtain ⟨cs, hcs⟩ := exec_builtin (P := P) (a := a) (w := w) ho
  unfold Does
  rw [hcs]
  simp [builtin, he, Builtin.len_, run_underlying hu, goInt]

theorem does_slen (hS : RelS Γ N g w a env m) {t : TypeId} {args : Array Operand} {ts : Array TypeId} {x : Operand} {x' : X} (ho : o.op = .call { callee := .builtin .len, args, argTypes := ts }) (ha : args.toList = [x]) (ht : ts.toList = [t])
    (hu : P.underlying t = some .string) (hx : cX N x = some x') (hv : cpure Γ env (.slen x') = some r) : ∃ v, Does P a w o v ∧ VR g w.heap r v := by
  simp only [cpure] at hv
  split at hv
  · rename_i s h1
    cases hv
    have hxv := cX_sound hS hx
    rw [h1] at hxv
    have he := vr_s hxv
    have ha := list1 ha
    have ht := list1 ht
    subst ha; subst ht
    refine ⟨.int .i64 s.size, ?_, .p (.s _)⟩
    obtain ⟨cs, hcs⟩ := exec_builtin (P := P) (a := a) (w := w) ho
    unfold Does
    rw [hcs]
    simp [builtin, he, Builtin.len_, run_underlying hu, goInt]
  · cases hv

theorem does_minmax (hS : RelS Γ N g w a env m) {mx : Bool} {args : Array Operand} {ts : Array TypeId} {x y : Operand} {x' y' : X} (ho : o.op = .call { callee := .builtin (if mx then .max else .min), args, argTypes := ts }) (ha : args.toList = [x, y])
    (hx : cX N x = some x') (hy : cX N y = some y') (hv : cpure Γ env (.minmax mx x' y') = some r) : ∃ v, Does P a w o v ∧ VR g w.heap r v := by
  simp only [cpure] at hv
  split at hv
  · rename_i k b j c h1 h2
    cases hv
    have hxv := cX_sound hS hx
    have hyv := cX_sound hS hy
    rw [h1] at hxv; rw [h2] at hyv
    have hxv := vr_s hxv
    have hyv := vr_s hyv
    have ha := list2 ha
    subst ha
    refine ⟨_, ?_, .p (.s _)⟩
    obtain ⟨cs, hcs⟩ := exec_builtin (P := P) (a := a) (w := w) ho
    unfold Does
    rw [hcs]
    cases mx
    · simp [builtin, hxv, hyv, Builtin.min_, Builtin.min2]
    · simp [builtin, hxv, hyv, Builtin.max_, Builtin.max2]
  · cases hv

theorem does_slice (hS : RelS Γ N g w a env m) {t e : TypeId} {x : Operand} {lo hi : Option Operand} {x' : X} {lo' hi' : Option X} {sz : Nat} (ho : o.op = .slice t x lo hi none) (hu : P.underlying t = some (.slice e)) (hsz : sizeT P e = some sz)
    (hx : cX N x = some x') (hlo : cXo N lo = some lo') (hhi : cXo N hi = some hi') (hv : cpure Γ env (.slice sz x' lo' hi') = some r) : ∃ v, Does P a w o v ∧ VR g w.heap r v := by
  simp only [cpure] at hv
  split at hv
  · rename_i r' hb
    cases hv
    unfold bslO at hb
    split at hb
    · rename_i b off s n hev
      simp only [Option.bind_eq_some_iff] at hb
      obtain ⟨i, hi1, j, hj1, ⟨l, h⟩, hb, hr⟩ := hb
      simp only at hr
      split at hr
      · rename_i hc
        cases hr
        obtain ⟨rfl, hl0⟩ := hc
        have hxv := cX_sound hS hx
        rw [hev] at hxv
        obtain ⟨k, c, hk, he, hnc, hcm, hm⟩ := vr_bsl hxv
        obtain ⟨hrun, hlh, hhn⟩ := run_sliceBounds (P := P) hS hlo hhi hi1 hj1 hb hnc true w
        refine ⟨.slice (some ⟨k, off + l * s, none⟩) (h - l) (c - l), ?_, .bsl hk (by omega) (by omega) (by omega)⟩
        unfold Does execOp
        simp only [ho, he]
        refine exec_val ?_
        simp only [Instr.sliceAt, Sem.run_bind, run_underlying hu, Result.andThen_ok, Instr.slice]
        have hadr : (if c = l then (some ⟨k, off, none⟩ : Option Addr) else (some ⟨k, off, none⟩ : Option Addr).map (·.add (l * s))) = some ⟨k, off + l * s, none⟩ := by
          split
          · rename_i hcl
            have : l = 0 := by omega
            subst this
            simp
          · simp only [Option.map_some]; rw [add_spot rfl]
        simp only [Option.map_some] at hadr
        simp [hrun, run_sizeOf hsz, hadr]
      · cases hr
    · cases hb
  rename_i hno0
  clear hno0
  simp only [bind, Option.bind_eq_some_iff] at hv
  obtain ⟨xs, hxs, i, hi1, j, hj1, ⟨l, h⟩, hb, hv⟩ := hv
  obtain ⟨A, n, c, he, hp⟩ := vr_asSl (cX_sound hS hx) hxs
  have hnc : xs.length = n ∧ n ≤ c := by cases hp with | sl f hn hc _ _ _ _ _ => exact ⟨hn, hc⟩
  obtain ⟨hn, hc⟩ := hnc
  rw [hn] at hb
  obtain ⟨hrun, hlh, hhn⟩ := run_sliceBounds (P := P) hS hlo hhi hi1 hj1 hb hc true w
  have hps := pr_slice (sz := sz) hp hlh hhn
  refine ⟨.slice (if c = l then A else A.map (·.add (l * sz))) (h - l) (c - l), ?_, ?_⟩
  · unfold Does execOp
    simp only [ho, he]
    refine exec_val ?_
    simp only [Instr.sliceAt, Sem.run_bind, run_underlying hu, Result.andThen_ok, Instr.slice]
    simp [hrun, run_sizeOf hsz]
  · split at hv
    · rename_i tk sz' xs' hev
      cases hv
      have hxv := cX_sound hS hx
      rw [hev, he] at hxv
      cases hxv with
      | own h1 h2 =>
        have hhn' : h = n := by
          simp only [evO, Option.some.injEq] at hj1
          subst hj1
          unfold bounds at hb
          simp only [Option.getD_none] at hb
          split at hb
          · simp at hb; omega
          · cases hb
        subst hhn'
        have hsz' : sz' = sz := by
          rw [hev] at hxs
          simp only [AV.asSl] at hxs
          split at hxs
          · assumption
          · cases hxs
        subst hsz'
        exact .own hps (tok_slice h2 hlh hc)
    · cases hv
      exact .p hps

theorem does_faddr (hS : RelS Γ N g w a env m) {t : TypeId} {x : Operand} {i n : Nat} {fs : Array Field} {f : Field} {x' : X} (ho : o.op = .fieldAddr t x i) (hu : P.underlying t = some (.struct fs)) (hf : fs[i]? = some f) (hn : sizeT P f.type = some n) (h0 : n ≠ 0)
    (hx : cX N x = some x') (hv : cpure Γ env (.faddr f.offset x') = some r) : ∃ v, Does P a w o v ∧ VR g w.heap r v := by
  simp only [cpure] at hv
  have hrun : ∀ ad : Addr, (Instr.fieldAt t (.pointer (some ad)) i).run P w = .ok (.pointer (some (ad.add f.offset))) w := fun ad => by
    simp [Instr.fieldAt, run_underlying hu, hf, Instr.sureAddr, fieldPlace, run_sizeOf hn, h0]
  split at hv
  · rename_i b off h1
    cases hv
    have hxv := cX_sound hS hx
    rw [h1] at hxv
    obtain ⟨k, hk, he⟩ := vr_ptr hxv
    refine ⟨_, ?_, .ptr (off := off + f.offset) hk⟩
    unfold Does execOp
    simp only [ho, he]
    refine exec_val ?_
    rw [hrun, add_spot rfl]
  · rename_i cs h1
    cases hv
    have hxv := cX_sound hS hx
    rw [h1] at hxv
    obtain ⟨ad, q, he, hs, hp, hr⟩ := vr_cptr hxv
    refine ⟨_, ?_, cptr_drop hs hp hr f.offset⟩
    unfold Does execOp
    simp only [ho, he]
    exact exec_val (hrun ad)
  · cases hv

theorem does_iaddrS (hS : RelS Γ N g w a env m) {t e : TypeId} {x i : Operand} {sz : Nat} {x' i' : X} (ho : o.op = .indexAddr t x i) (hu : P.underlying t = some (.slice e)) (hn : sizeT P e = some sz) (h0 : sz ≠ 0)
    (hx : cX N x = some x') (hi : cX N i = some i') (hv : cpure Γ env (.iaddrS sz x' i') = some r) : ∃ v, Does P a w o v ∧ VR g w.heap r v := by
  simp only [cpure] at hv
  split at hv
  · rename_i r' hb
    cases hv
    unfold bslA at hb
    split at hb
    · rename_i b off s n j hev h2
      split at hb
      · rename_i hc
        cases hb
        obtain ⟨rfl, hj0, hjn⟩ := hc
        have hxv := cX_sound hS hx
        rw [hev] at hxv
        obtain ⟨k, c, hk, he, hnc, hcm, hm⟩ := vr_bsl hxv
        obtain ⟨kd, hkd⟩ := vr_asInt (cX_sound hS hi) h2
        refine ⟨.pointer (some ⟨k, off + j.toNat * s, none⟩), ?_, .ptr hk⟩
        unfold Does execOp
        simp only [ho, he, hkd]
        refine exec_val ?_
        simp [Instr.indexAt, asIntOf, run_underlying hu, hj0, hjn, run_sizeOf hn, add_spot]
      · cases hb
    · cases hb
  rename_i hno0
  clear hno0
  split at hv
  · rename_i xs j h1 h2
    split at hv
    · rename_i hj
      cases hv
      obtain ⟨A, n, c, he, hp⟩ := vr_asSl (cX_sound hS hx) h1
      obtain ⟨k, hk⟩ := vr_asInt (cX_sound hS hi) h2
      cases hp with
      | sl f hln hc hm hcm hsz hpl hr =>
        have hfl := flatten_length hsz
        have hjl : j.toNat < xs.length := by omega
        have hmul : j.toNat * sz + sz ≤ xs.flatten.length := by
          rw [hfl, ← Nat.succ_mul]
          exact Nat.mul_le_mul_right _ (by omega)
        obtain ⟨ad, vs, T, fr, u, rfl, hs, hH, hU, hle, hvv⟩ := hpl (by omega)
        have hpl' : Place g.U w.heap (some ad) xs.flatten.length f := fun _ => ⟨ad, vs, T, fr, u, rfl, hs, hH, hU, hle, hvv⟩
        rw [flatten_at hsz hjl]
        refine ⟨_, ?_, cptr_cut hs hpl' hr (j.toNat * sz) sz (.inl hmul)⟩
        unfold Does execOp
        simp only [ho, he, hk]
        refine exec_val ?_
        have hj2 : 0 ≤ j ∧ j < n := by omega
        simp [Instr.indexAt, asIntOf, run_underlying hu, hj2, run_sizeOf hn]
    · cases hv
  · cases hv

theorem does_iaddrA (hS : RelS Γ N g w a env m) {t e : TypeId} {x i : Operand} {sz len : Nat} {x' i' : X} (ho : o.op = .indexAddr t x i) (hu : P.underlying t = some (.array len e)) (hn : sizeT P e = some sz)
    (hx : cX N x = some x') (hi : cX N i = some i') (hv : cpure Γ env (.iaddrA sz len x' i') = some r) : ∃ v, Does P a w o v ∧ VR g w.heap r v := by
  simp only [cpure] at hv
  have hrun : ∀ (ad : Addr) (k : IntKind) (j : Int), 0 ≤ j ∧ j < len → (Instr.indexAt t (.pointer (some ad)) (.int k j)).run P w = .ok (.pointer (some (ad.add (j.toNat * sz)))) w := fun ad k j hj => by
    simp [Instr.indexAt, asIntOf, run_underlying hu, hj, run_sizeOf hn, Instr.sureAddr]
  split at hv
  · rename_i b off j h1 h2
    split at hv
    · rename_i hj
      cases hv
      have hxv := cX_sound hS hx
      rw [h1] at hxv
      obtain ⟨k, hk, he⟩ := vr_ptr hxv
      obtain ⟨kk, hkk⟩ := vr_asInt (cX_sound hS hi) h2
      refine ⟨_, ?_, .ptr (off := off + j.toNat * sz) hk⟩
      unfold Does execOp
      simp only [ho, he, hkk]
      refine exec_val ?_
      rw [hrun _ _ _ hj, add_spot rfl]
    · cases hv
  · rename_i cs j h1 h2
    split at hv
    · rename_i hj
      cases hv
      have hxv := cX_sound hS hx
      rw [h1] at hxv
      obtain ⟨ad, q, he, hs, hp, hr⟩ := vr_cptr hxv
      obtain ⟨kk, hkk⟩ := vr_asInt (cX_sound hS hi) h2
      refine ⟨_, ?_, cptr_drop hs hp hr (j.toNat * sz)⟩
      unfold Does execOp
      simp only [ho, he, hkk]
      exact exec_val (hrun _ _ _ hj)
    · cases hv
  · cases hv

theorem does_mkfn (hS : RelS Γ N g w a env m) {f : Fn} {first cap : Array Operand} {first' cap' : List X} (ho : o.op = .makeFunc f first cap) (h1 : cXs N first.toList = some first') (h2 : cXs N cap.toList = some cap')
    (hv : cpure Γ env (.mkfn f first' cap') = some r) : ∃ v, Does P a w o v ∧ VR g w.heap r v := by
  simp only [cpure, Option.some.injEq] at hv
  subst hv
  obtain ⟨l1, r1⟩ := cXs_sound hS h1
  obtain ⟨l2, r2⟩ := cXs_sound hS h2
  refine ⟨.func f (first.map a.eval) (cap.map a.eval), ?_, .fn (by simp [l1]) (fun i b v hb hv => ?_) (by simp [l2]) (fun i b v hb hv => ?_)⟩
  · unfold Does execOp
    simp only [ho]
    exact exec_val rfl
  · exact r1 i b v hb (by simpa using hv)
  · exact r2 i b v hb (by simpa using hv)

theorem does_mkif (hS : RelS Γ N g w a env m) {t : TypeId} {d : TypeDesc} {x : Operand} {x' : X} (ho : o.op = .makeInterface t x) (hu : P.underlying t = some d) (hd : ∀ ms, d ≠ .interface ms) (hx : cX N x = some x')
    (hv : cpure Γ env (.mkif t x') = some r) : ∃ v, Does P a w o v ∧ VR g w.heap r v := by
  simp only [cpure] at hv
  have hrun : ∀ v, (Instr.makeInterface t v).run P w = .ok (.iface t v) w := fun v => by
    cases d <;> first | exact absurd rfl (hd _) | simp [Instr.makeInterface, run_underlying hu]
  have hxv := cX_sound hS hx
  split at hv
  · rename_i v h1
    cases hv
    rw [h1] at hxv
    have hxv := vr_s hxv
    refine ⟨.iface t v, ?_, .p (.s _)⟩
    unfold Does execOp
    simp only [ho, hxv]
    exact exec_val (hrun v)
  · rename_i h1
    cases hv
    rw [h1] at hxv
    obtain ⟨vs, he, hl, _⟩ := vr_agg hxv
    have : vs = #[] := Array.eq_empty_of_size_eq_zero (by simpa using hl.symm)
    subst this
    refine ⟨.iface t (.agg #[]), ?_, .p (.s _)⟩
    unfold Does execOp
    simp only [ho, he]
    exact exec_val (hrun _)
  · cases hv

theorem does_nilchk (hS : RelS Γ N g w a env m) {x : Operand} {x' : X} (ho : o.op = .nilCheck x) (hx : cX N x = some x') (hv : cpure Γ env (.nilchk x') = some r) : ∃ v, Does P a w o v ∧ VR g w.heap r v := by
  simp only [cpure] at hv
  have hxv := cX_sound hS hx
  split at hv
  · rename_i b off h1
    cases hv
    rw [h1] at hxv
    obtain ⟨k, hk, he⟩ := vr_ptr hxv
    refine ⟨_, ?_, .ptr hk⟩
    unfold Does execOp
    simp only [ho, he]
    rfl
  · rename_i cs h1
    cases hv
    rw [h1] at hxv
    obtain ⟨ad, q, he, hs, hp, hr⟩ := vr_cptr hxv
    refine ⟨_, ?_, .cptr q hs hp hr⟩
    unfold Does execOp
    simp only [ho, he]
    rfl
  · rename_i f first cap h1
    cases hv
    rw [h1] at hxv
    generalize hq : a.eval x = q at hxv
    cases hxv with
    | fn l1 r1 l2 r2 =>
      refine ⟨_, ?_, .fn l1 r1 l2 r2⟩
      unfold Does execOp
      simp only [ho, hq]
      rfl
  · cases hv

theorem does_arrptr (hS : RelS Γ N g w a env m) {t e : TypeId} {n : Nat} {x : Operand} {x' : X} (ho : o.op = .sliceToArrayPointer t x) (hu : P.underlying t = some (.array n e)) (hx : cX N x = some x') (hv : cpure Γ env (.arrptr n x') = some r) : ∃ v, Does P a w o v ∧ VR g w.heap r v := by
  simp only [cpure] at hv
  have hxv := cX_sound hS hx
  have key : ∀ sz xs A k c, PR g.U w.heap (.sl sz xs) (.slice A k c) → a.eval x = .slice A k c → n ≤ xs.length → 0 < xs.flatten.length → ∃ v, Does P a w o v ∧ VR g w.heap (.cptr xs.flatten) v := by
    intro sz xs A k c hp he h1 h2
    cases hp with
    | sl f hln hc hm hcm hsz hpl hr =>
      obtain ⟨ad, vs, T, fr, u, rfl, hs, hH, hU, hle, hvv⟩ := hpl h2
      refine ⟨.pointer (some ad), ?_, .cptr f hs (fun _ => ⟨ad, vs, T, fr, u, rfl, hs, hH, hU, hle, hvv⟩) hr⟩
      unfold Does execOp
      simp only [ho, he]
      refine exec_val ?_
      have : ¬ k < n := by omega
      simp [Instr.arrayAt, run_underlying hu, this]
  split at hv
  · rename_i sz xs h1
    split at hv
    · rename_i hc
      cases hv
      rw [h1] at hxv
      generalize hq : a.eval x = q at hxv
      cases hxv with
      | p hp =>
        cases hp with
        | sl f hln hc' hm hcm hsz hpl hr => exact key sz xs _ _ _ (.sl f hln hc' hm hcm hsz hpl hr) hq hc.1 hc.2
    · cases hv
  · rename_i tk sz xs h1
    split at hv
    · rename_i hc
      cases hv
      rw [h1] at hxv
      generalize hq : a.eval x = q at hxv
      cases hxv with
      | own hp _ => exact key sz xs _ _ _ hp hq hc.1 hc.2
    · cases hv
  · cases hv

theorem does_cload (hS : RelS Γ N g w a env m) {t : TypeId} {n : Nat} {x : Operand} {x' : X} (ho : o.op = .load t x) (hn : sizeT P t = some n) (hx : cX N x = some x') (hv : cpure Γ env (.load (isAggT P t) n x') = some r) : ∃ v, Does P a w o v ∧ VR g w.heap r v := by
  simp only [cpure] at hv
  split at hv
  · rename_i cs h1
    have hxv := cX_sound hS hx
    rw [h1] at hxv
    obtain ⟨ad, q, he, hs, hp, hr⟩ := vr_cptr hxv
    obtain ⟨v, h2, h3⟩ := cptr_load (P := P) hn hp hr hv
    refine ⟨v, ?_, h3⟩
    unfold Does execOp
    simp only [ho, he]
    refine exec_val ?_
    simp [Instr.loadAt, Instr.sureAddr, h2]
  · cases hv
end
end Go.Shade
