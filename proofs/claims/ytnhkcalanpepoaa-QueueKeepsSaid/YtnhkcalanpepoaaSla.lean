/- The operations that came later do what 'ePure' and 'eMem' say. Own work. -/
import Derived.Test.YtnhkcalanpepoaaSl
import Derived.Laws.MakeOwn
import Derived.Lib.MakeNoZero
import Derived.Lib.ConvBytes
import Derived.Laws.Externs
namespace Go.Shade
open Go

section
variable {P : Program} {N : Nat} {Γ : Globs} {g : Gh} {w : World} {a : Act} {env : Nat → AV} {m : Mem} {o : Oper} {r : AV}

/-! ### Quiet ones -/
theorem lohi_ev {lo hi : Option X} {p : Option Int × Option Int} (h : lohi lo.isSome hi.isSome ((lo.toList ++ hi.toList).map (X.ev Γ env)) = some p) : evO Γ env lo = some p.1 ∧ evO Γ env hi = some p.2 := by
  cases lo with
  | none => cases hi with
    | none =>
      simp [lohi] at h
      subst h
      exact ⟨rfl, rfl⟩
    | some y =>
      have h : ((y.ev Γ env).asInt.bind fun i => some ((none : Option Int), some i)) = some p := h
      obtain ⟨i, h1, h2⟩ := Option.bind_eq_some_iff.1 h
      cases h2
      exact ⟨rfl, by simp only [evO, h1, Option.map_some]⟩
  | some x => cases hi with
    | none =>
      have h : ((x.ev Γ env).asInt.bind fun i => some (some i, (none : Option Int))) = some p := h
      obtain ⟨i, h1, h2⟩ := Option.bind_eq_some_iff.1 h
      cases h2
      exact ⟨by simp only [evO, h1, Option.map_some], rfl⟩
    | some y =>
      have h : ((x.ev Γ env).asInt.bind fun i => (y.ev Γ env).asInt.bind fun j => some (some i, some j)) = some p := h
      obtain ⟨i, h1, h⟩ := Option.bind_eq_some_iff.1 h
      obtain ⟨j, h2, h3⟩ := Option.bind_eq_some_iff.1 h
      cases h3
      exact ⟨by simp only [evO, h1, Option.map_some], by simp only [evO, h2, Option.map_some]⟩

theorem is_ptr {b : AV} {sz len : Nat} {lo hi : Bool} {l : List AV} (h : ePure (.mslice sz len lo hi) (b :: l) = some r) : ∃ k off, b = .ptr k off := by
  simp only [ePure] at h
  cases b <;> simp [msliceE] at h
  exact ⟨_, _, rfl⟩

theorem does_mslice (hS : RelS Γ N g w a env m) {t e : TypeId} {n sz : Nat} {x : Operand} {lo hi : Option Operand} {x' : X} {lo' hi' : Option X} (ho : o.op = .slice t x lo hi none) (hu : P.underlying t = some (.array n e)) (hsz : sizeT P e = some sz)
    (hx : cX N x = some x') (hlo : cXo N lo = some lo') (hhi : cXo N hi = some hi') (hv : ePure (.mslice sz n lo'.isSome hi'.isSome) (x'.ev Γ env :: (lo'.toList ++ hi'.toList).map (X.ev Γ env)) = some r) :
    ∃ v, Does P a w o v ∧ VR g w.heap r v := by
  obtain ⟨b, off, hev⟩ := is_ptr hv
  rw [hev] at hv
  simp only [ePure, msliceE, Option.bind_eq_some_iff] at hv
  obtain ⟨⟨i, j⟩, hij, ⟨l, h⟩, hb, hv⟩ := hv
  simp only at hb hv
  obtain ⟨hi1, hj1⟩ := lohi_ev hij
  split at hv
  · rename_i hc
    cases hv
    obtain ⟨hl0, hn⟩ := hc
    have hxv := cX_sound hS hx
    rw [hev] at hxv
    obtain ⟨k, hk, he⟩ := vr_ptr hxv
    obtain ⟨hrun, hlh, hhn⟩ := run_sliceBounds (P := P) hS hlo hhi hi1 hj1 hb (Nat.le_refl n) false w
    refine ⟨.slice (some ⟨k, off + l * sz, none⟩) (h - l) (n - l), ?_, .bsl hk (by omega) (by simp only [maxLen]; omega) (by omega)⟩
    unfold Does execOp
    simp only [ho, he]
    refine exec_val ?_
    have hadr : (if n = l then (⟨k, off, none⟩ : Addr) else (⟨k, off, none⟩ : Addr).add (l * sz)) = ⟨k, off + l * sz, none⟩ := by
      split
      · rename_i hcl
        have : l = 0 := by omega
        subst this
        simp
      · rw [add_spot rfl]
    simp [Instr.sliceAt, run_underlying hu, Instr.sureAddr, hrun, run_sizeOf hsz, hadr]
  · cases hv

theorem does_slice3 (hS : RelS Γ N g w a env m) {t e : TypeId} {sz : Nat} {x hi mx : Operand} {lo : Option Operand} {x' hi' mx' : X} {lo' : Option X} (ho : o.op = .slice t x lo (some hi) (some mx)) (hu : P.underlying t = some (.slice e)) (hsz : sizeT P e = some sz)
    (hx : cX N x = some x') (hhi : cX N hi = some hi') (hmx : cX N mx = some mx') (hlo : cXo N lo = some lo') (hv : ePure (.slice3 sz lo'.isSome) ((x' :: hi' :: mx' :: lo'.toList).map (X.ev Γ env)) = some r) :
    ∃ v, Does P a w o v ∧ VR g w.heap r v := by
  have hb : ∃ b off s n, x'.ev Γ env = .bsl b off s n := by
    cases h : x'.ev Γ env <;> simp [ePure, slice3E, h] at hv
    exact ⟨_, _, _, _, rfl⟩
  obtain ⟨b, off, s, n, hev⟩ := hb
  simp only [List.map_cons, hev, ePure, slice3E, Option.bind_eq_some_iff] at hv
  obtain ⟨h, h1, mxi, h2, ⟨i, j⟩, hij, hv⟩ := hv
  simp only at hv
  have hlo1 : evO Γ env lo' = some i := by
    have := lohi_ev (Γ := Γ) (env := env) (lo := lo') (hi := none) (p := (i, j)) (by simpa using hij)
    exact this.1
  split at hv
  · rename_i hc
    cases hv
    obtain ⟨rfl, c1, c2, c3, c4, c5⟩ := hc
    have hxv := cX_sound hS hx
    rw [hev] at hxv
    obtain ⟨k, c, hk, he, hnc, hcm, hm⟩ := vr_bsl hxv
    obtain ⟨kh, hkh⟩ := vr_asInt (cX_sound hS hhi) h1
    obtain ⟨km, hkm⟩ := vr_asInt (cX_sound hS hmx) h2
    have hl : ∃ lv : Option Value, lo.map a.eval = lv ∧ ∀ (y : Nat) code, i.getD 0 ≤ y → (match lv with | some v => Instr.sliceBound v y code | none => pure 0 : Sem Nat).run P w = .ok (i.getD 0).toNat w := by
      cases hlo' : lo with
      | none =>
        rw [hlo'] at hlo
        simp only [cXo, Option.some.injEq] at hlo
        subst hlo
        simp only [evO, Option.some.injEq] at hlo1
        subst hlo1
        exact ⟨none, rfl, fun y code _ => rfl⟩
      | some lx =>
        rw [hlo'] at hlo
        simp only [cXo] at hlo
        obtain ⟨l', hl', rfl⟩ := Option.map_eq_some_iff.1 hlo
        simp only [evO] at hlo1
        obtain ⟨i', hi', rfl⟩ := Option.map_eq_some_iff.1 hlo1
        obtain ⟨kl, hkl⟩ := vr_asInt (cX_sound hS hl') hi'
        refine ⟨some (.int kl i'), by simp [hkl], fun y code hy => run_sliceBound (by simpa using c1) (by simpa using hy) w⟩
    obtain ⟨lv, hlv, hlrun⟩ := hl
    generalize hq : i.getD 0 = q at *
    refine ⟨.slice (some ⟨k, off + q.toNat * s, none⟩) (h.toNat - q.toNat) (mxi.toNat - q.toNat), ?_, ?_⟩
    · unfold Does execOp
      simp only [ho, he, Option.map_some, hkh, hkm, hlv]
      refine exec_val ?_
      have r1 := run_sliceBound (P := P) (k := km) (i := mxi) (y := c) (code := .slice3Acap) (by omega) (by omega) w
      have r2 := run_sliceBound (P := P) (k := kh) (i := h) (y := mxi.toNat) (code := .slice3B) (by omega) (by omega) w
      have r3 := hlrun h.toNat .slice3C (by omega)
      have hadr : (if mxi.toNat = q.toNat then (some ⟨k, off, none⟩ : Option Addr) else (some ⟨k, off, none⟩ : Option Addr).map (·.add (q.toNat * s))) = some ⟨k, off + q.toNat * s, none⟩ := by
        split
        · rename_i hcl
          have : q.toNat = 0 := by omega
          rw [this]
          simp
        · simp only [Option.map_some]; rw [add_spot rfl]
      simp only [Instr.sliceAt, Sem.run_bind, run_underlying hu, Result.andThen_ok, Instr.slice, Instr.sliceBounds, r1, r2, if_true, Option.isSome_some]
      cases lv with
      | none =>
        simp only at r3
        simp only [Sem.run_pure] at r3
        have r3' : 0 = q.toNat := by simpa using r3
        have ha0 : (⟨k, off, none⟩ : Addr).add 0 = ⟨k, off, none⟩ := by rw [add_spot rfl]; rfl
        simp [run_sizeOf hsz, ← r3', ha0]
      | some lv =>
        simp only at r3
        simp only [Option.map_some] at hadr
        simp [r3, run_sizeOf hsz, hadr]
    · have e1 : (h - q).toNat = h.toNat - q.toNat := by omega
      rw [e1]
      exact .bsl hk (by omega) (by omega) (by omega)
  · cases hv

theorem find_now {kd kk : IntKind} {n : Int} : ∀ (l : List MapEntry) (i : Nat), (l.map (fun e => (e.key, e.val))).all (fun p => keyIs kk p.1) = true →
    (findI n (l.map (fun e => (e.key, e.val))) = none → Instr.findNow (.int kd) (.int kk n) l i = some none) ∧ (∀ v, findI n (l.map (fun e => (e.key, e.val))) = some v → ∃ j, Instr.findNow (.int kd) (.int kk n) l i = some (some (j, v)))
  | [], i, _ => ⟨fun _ => rfl, fun v h => by simp [findI] at h⟩
  | e :: l, i, h => by
    rw [List.map_cons, List.all_cons, Bool.and_eq_true] at h
    obtain ⟨h1, h2⟩ := h
    have ih := find_now (kd := kd) (n := n) l (i + 1) h2
    obtain ⟨key, val, born⟩ := e
    simp only at h1
    unfold keyIs at h1
    split at h1
    · rename_i _ j mi
      have hjk : j = kk := by simpa using h1
      subst hjk
      rw [List.map_cons]
      by_cases hmn : mi = n
      · subst hmn
        simp [Instr.findNow, Instr.sameNow, findI]
      · have hne : ¬ n = mi := fun h => hmn h.symm
        have hstep : Instr.findNow (.int kd) (.int j n) (⟨.int j mi, val, born⟩ :: l) i = Instr.findNow (.int kd) (.int j n) l (i + 1) := by
          have hb : (n == mi) = false := by simp [hne]
          simp only [Instr.findNow, Instr.sameNow, if_true, hb]
        rw [hstep]
        simp only [findI, if_neg hmn]
        exact ih
    · cases h1

theorem vr_ofF (v : Value) : VR g w.heap (AV.ofF v) v := by
  unfold AV.ofF
  split
  · rename_i f x y
    split
    · rename_i hc
      exact .fn (by simp [hc.1]) (fun i a v h => by simp at h) (by simp [hc.2]) (fun i a v h => by simp at h)
    · exact .p (.s _)
  · exact .p (.s _)

theorem does_look (hS : RelS Γ N g w a env m) {t key elem : TypeId} {kd : IntKind} {x k : Operand} {x' k' : X} {z : Value} (ho : o.op = .lookup t x k false) (hu : P.underlying t = some (.map key elem)) (hk : P.underlying key = some (.int kd)) (hz : zeroV P elem = some z)
    (hx : cX N x = some x') (hk' : cX N k = some k') (hv : ePure (.look z) ([x', k'].map (X.ev Γ env)) = some r) : ∃ v, Does P a w o v ∧ VR g w.heap r v := by
  have hb : ∃ es kk n, x'.ev Γ env = .cmap es ∧ k'.ev Γ env = .p (.s (.int kk n)) := by
    simp only [List.map_cons, List.map_nil, ePure] at hv
    unfold lookE at hv
    split at hv
    · rename_i es kk n heq
      injection heq with e1 e2
      injection e2 with e2 _
      exact ⟨es, kk, n, e1, e2⟩
    · cases hv
  obtain ⟨es, kk, n, h1, h2⟩ := hb
  simp only [List.map_cons, List.map_nil, h1, h2, ePure, lookE] at hv
  split at hv
  · rename_i hall
    cases hv
    have hxv := cX_sound hS hx
    rw [h1] at hxv
    have hkv := cX_sound hS hk'
    rw [h2] at hkv
    have hkv := vr_s hkv
    obtain ⟨b, l, tt, he, hh, hes⟩ : ∃ b l tt, a.eval x = .map (some b) ∧ w.heap[b]? = some (Obj.map l tt) ∧ l.toList.map (fun e => (e.key, e.val)) = es := by
      generalize a.eval x = V at hxv
      cases hxv with
      | cmap hk he => exact ⟨_, _, _, rfl, hk, he⟩
    subst hes
    obtain ⟨f1, f2⟩ := find_now (kd := kd) (kk := kk) (n := n) l.toList 0 hall
    have hzr : ∀ W : World, (zeroValue elem).run P W = .ok z W := fun W => by
      unfold zeroV at hz
      obtain ⟨i, hi, hz⟩ := Option.bind_eq_some_iff.1 hz
      simp [zeroValue, typeInfo, hi, hz]
    have hck : (Instr.checkKey l.isEmpty 10000 key (.int kk n)).run P w = .ok () w := by
      rw [show (10000 : Nat) = 9999 + 1 from rfl, Instr.checkKey]
      simp [run_underlying hk]
    have hgo : (getObj b).run P w = .ok (Obj.map l tt) w := by
      simp [getObj, Sem.run, hh]
    refine ⟨(findI n (l.toList.map fun e => (e.key, e.val))).getD z, ?_, vr_ofF _⟩
    unfold Does execOp
    simp only [ho, he, hkv]
    refine exec_val ?_
    cases hf : findI n (l.toList.map fun e => (e.key, e.val)) with
    | none =>
      have f1 := f1 hf
      simp [Instr.lookup, run_underlying hu, hgo, hck, Instr.findKey, run_underlying hk, f1, hzr]
    | some v =>
      obtain ⟨j, f2⟩ := f2 v hf
      simp [Instr.lookup, run_underlying hu, hgo, hck, Instr.findKey, run_underlying hk, f2]
  · cases hv

theorem does_fnil (hS : RelS Γ N g w a env m) {t u : TypeId} {op : BinOp} {neg : Bool} {x : Operand} {x' : X} {ps rs : Array TypeId} {vd : Bool} (ho : o.op = .binOp op t x (.const .nilFunc) u) (hop : op = if neg then .neq else .eql) (hu : P.underlying t = some (.func ps rs vd))
    (hx : cX N x = some x') (hv : ePure (.fnil neg) ([x'].map (X.ev Γ env)) = some r) : ∃ v, Does P a w o v ∧ VR g w.heap r v := by
  have hn : a.eval (.const .nilFunc) = .nilFunc := rfl
  have hdp : Op.maxDepth = 9999 + 1 := rfl
  have hxv := cX_sound hS hx
  simp only [List.map_cons, List.map_nil] at hv
  have hc : (∃ f b c, x'.ev Γ env = .fn f b c ∧ r = .bool neg) ∨ (x'.ev Γ env = .p (.s .nilFunc) ∧ r = .bool !neg) := by
    generalize x'.ev Γ env = q at hv
    simp only [ePure] at hv
    unfold fnilE at hv
    split at hv <;> simp_all
  rcases hc with ⟨f, b, c, h1, rfl⟩ | ⟨h1, rfl⟩
  · rw [h1] at hxv
    obtain ⟨vf, vc, he⟩ : ∃ vf vc, a.eval x = .func f vf vc := by
      generalize a.eval x = V at hxv
      cases hxv
      exact ⟨_, _, rfl⟩
    refine ⟨.bool neg, ?_, .p (.s _)⟩
    unfold Does execOp
    simp only [ho, he, hn]
    refine exec_val ?_
    have hq : (Op.equal t (.func f vf vc) .nilFunc).run P w = .ok false w := by
      unfold Op.equal
      rw [hdp, Op.equalIn]
      simp [run_underlying hu]
    cases neg <;> simp at hop <;> subst hop <;> simp [eqGuard, binOp, hq]
  · rw [h1] at hxv
    have he := vr_s hxv
    refine ⟨.bool !neg, ?_, .p (.s _)⟩
    unfold Does execOp
    simp only [ho, he, hn]
    refine exec_val ?_
    have hq : (Op.equal t .nilFunc .nilFunc).run P w = .ok true w := by
      unfold Op.equal
      rw [hdp, Op.equalIn]
      simp [run_underlying hu]
    cases neg <;> simp at hop <;> subst hop <;> simp [eqGuard, binOp, hq]

theorem does_feq (hS : RelS Γ N g w a env m) {t u : TypeId} {op : BinOp} {neg : Bool} {x y : Operand} {x' y' : X} {k : FloatKind} (ho : o.op = .binOp op t x y u) (hop : op = if neg then .neq else .eql) (hu : P.underlying t = some (.float k))
    (hx : cX N x = some x') (hy : cX N y = some y') (hv : ePure (.feq neg) ([x', y'].map (X.ev Γ env)) = some r) : ∃ v, Does P a w o v ∧ VR g w.heap r v := by
  have hdp : Op.maxDepth = 9999 + 1 := rfl
  have hxv := cX_sound hS hx
  have hyv := cX_sound hS hy
  simp only [List.map_cons, List.map_nil] at hv
  have hc : ∃ k1 a1 b1, x'.ev Γ env = .p (.s (.float k1 a1)) ∧ y'.ev Γ env = .p (.s (.float k1 b1)) ∧ r = .bool (if neg then !(Op.floatEq k1 a1 b1) else Op.floatEq k1 a1 b1) := by
    generalize x'.ev Γ env = q at hv
    generalize y'.ev Γ env = q2 at hv
    simp only [ePure] at hv
    unfold feqE at hv
    split at hv
    · rename_i k1 a1 k2 b1 e
      split at hv
      · rename_i hk
        subst hk
        cases hv
        cases e
        exact ⟨_, _, _, rfl, rfl, rfl⟩
      · cases hv
    · cases hv
  obtain ⟨k1, a1, b1, h1, h2, rfl⟩ := hc
  rw [h1] at hxv
  rw [h2] at hyv
  have hxe := vr_s hxv
  have hye := vr_s hyv
  refine ⟨.bool (if neg then !(Op.floatEq k1 a1 b1) else Op.floatEq k1 a1 b1), ?_, .p (.s _)⟩
  unfold Does execOp
  simp only [ho, hxe, hye]
  refine exec_val ?_
  cases neg <;> simp at hop <;> subst hop <;> simp [eqGuard, binOp, Op.floatCmp, Op.floatEq, bne]

theorem vr_cellsv (vs : Array Value) (h : Array Obj) : VR g h (.agg (vs.toList.map fun v => .p (.s v))) (.agg vs) := by
  refine .agg (by simp) (fun i a v h1 h2 => ?_)
  rw [List.getElem?_map, Array.getElem?_toList, h2] at h1
  simp at h1
  subst h1
  exact .p (.s _)

theorem does_tassert (hS : RelS Γ N g w a env m) {t xt : TypeId} {fs : Array Field} {x : Operand} {x' : X} {cz : Array Value} (ho : o.op = .typeAssert x xt t true) (hu : P.underlying t = some (.struct fs)) (hz : zeroV P t = some (.agg cz))
    (hx : cX N x = some x') (hv : ePure (.tassert t (cz.toList.map PV.s)) ([x'].map (X.ev Γ env)) = some r) : ∃ v, Does P a w o v ∧ VR g w.heap r v := by
  have hxv := cX_sound hS hx
  simp only [List.map_cons, List.map_nil] at hv
  have hzr : ∀ W : World, (zeroValue t).run P W = .ok (.agg cz) W := fun W => by
    unfold zeroV at hz
    obtain ⟨i, hi, hz⟩ := Option.bind_eq_some_iff.1 hz
    simp [zeroValue, typeInfo, hi, hz]
  have htup : ∀ (cs : Array Value) (b : Bool), VR g w.heap (.tup [.agg (cs.toList.map fun v => .p (.s v)), .bool b]) (.tuple #[.agg cs, .bool b]) := fun cs b =>
    .tup rfl (fun i q v h1 h2 => by
      match i with
      | 0 => simp at h1 h2; subst h1; subst h2; exact vr_cellsv _ _
      | 1 => simp at h1 h2; subst h1; subst h2; exact .p (.s _)
      | i + 2 => simp at h1)
  have hzm : (cz.toList.map PV.s).map AV.p = cz.toList.map fun v => .p (.s v) := by rw [List.map_map]; rfl
  have hc : (∃ u v, x'.ev Γ env = .p (.s (.iface u v)) ∧ ((u = t ∧ ∃ cs, v = .agg cs ∧ r = .tup [.agg (cs.toList.map fun v => .p (.s v)), .bool true]) ∨ (u ≠ t ∧ r = .tup [.agg ((cz.toList.map PV.s).map AV.p), .bool false]))) ∨
      (x'.ev Γ env = .p (.s .nilIface) ∧ r = .tup [.agg ((cz.toList.map PV.s).map AV.p), .bool false]) := by
    generalize x'.ev Γ env = q at hv
    simp only [ePure] at hv
    unfold tassertE at hv
    split at hv
    · rename_i u cs heq
      injection heq with e1 _
      subst e1
      refine .inl ⟨u, .agg cs, rfl, ?_⟩
      split at hv
      · rename_i hut
        cases hv
        exact .inl ⟨hut, cs, rfl, rfl⟩
      · rename_i hut
        cases hv
        exact .inr ⟨hut, rfl⟩
    · rename_i heq
      injection heq with e1 _
      subst e1
      cases hv
      exact .inr ⟨rfl, rfl⟩
    · cases hv
  rw [hzm] at hc
  rcases hc with ⟨u, v, h1, ⟨rfl, cs, rfl, rfl⟩ | ⟨hne, rfl⟩⟩ | ⟨h1, rfl⟩
  · rw [h1] at hxv
    have he := vr_s hxv
    refine ⟨_, ?_, htup cs true⟩
    unfold Does execOp
    simp only [ho, he]
    refine exec_val ?_
    simp [Instr.typeAssert, run_underlying hu]
  · rw [h1] at hxv
    have he := vr_s hxv
    refine ⟨_, ?_, htup cz false⟩
    unfold Does execOp
    simp only [ho, he]
    refine exec_val ?_
    simp [Instr.typeAssert, run_underlying hu, hne, hzr]
  · rw [h1] at hxv
    have he := vr_s hxv
    refine ⟨_, ?_, htup cz false⟩
    unfold Does execOp
    simp only [ho, he]
    refine exec_val ?_
    simp [Instr.typeAssert, run_underlying hu, hzr]

theorem does_sslice (hS : RelS Γ N g w a env m) {t : TypeId} {x : Operand} {lo hi : Option Operand} {x' : X} {lo' hi' : Option X} (ho : o.op = .slice t x lo hi none) (hu : P.underlying t = some .string)
    (hx : cX N x = some x') (hlo : cXo N lo = some lo') (hhi : cXo N hi = some hi') (hv : ePure (.sslice lo'.isSome hi'.isSome) ((x' :: (lo'.toList ++ hi'.toList)).map (X.ev Γ env)) = some r) : ∃ v, Does P a w o v ∧ VR g w.heap r v := by
  have hb : ∃ s, x'.ev Γ env = .p (.s (.string s)) := by
    rw [List.map_cons] at hv
    simp only [ePure] at hv
    unfold ssliceE at hv
    split at hv
    · rename_i s r' heq
      injection heq with e1 _
      exact ⟨s, e1⟩
    · cases hv
  obtain ⟨s, hev⟩ := hb
  simp only [List.map_cons, hev, ePure, ssliceE, Option.bind_eq_some_iff] at hv
  obtain ⟨⟨i, j⟩, hij, hv⟩ := hv
  obtain ⟨⟨l, h⟩, hb, rfl⟩ := Option.map_eq_some_iff.1 hv
  simp only at hb
  obtain ⟨hi1, hj1⟩ := lohi_ev hij
  have hxv := cX_sound hS hx
  rw [hev] at hxv
  have he := vr_s hxv
  obtain ⟨hrun, hlh, hhn⟩ := run_sliceBounds (P := P) hS hlo hhi hi1 hj1 hb (Nat.le_refl s.size) false w
  refine ⟨_, ?_, .p (.s (.string (s.extract l h)))⟩
  unfold Does execOp
  simp only [ho, he]
  refine exec_val ?_
  simp [Instr.sliceAt, run_underlying hu, Instr.slice, hrun]

/-! ### Memory -/
theorem updL_nil : updL m [] = m := rfl
theorem updL_one (b : Nat) (r : Res) : updL m [(b, r)] = upd m b (some r) := by
  funext n
  simp only [updL, memL, upd]
  by_cases h : n = b <;> simp [h]

/-- What is copied. -/
theorem src_cells (hR : Rel Γ g w m) {sz : Nat} (h0 : sz ≠ 0) {x : AV} {v : Value} {n : Nat} {l : List AV} (hr : VR g w.heap x v) (hs : srcC sz m x = some (n, l)) :
    ∃ vl, (Builtin.lenOf v).run P w = .ok n w ∧ VL g w.heap l vl ∧ l.length = n * sz ∧ ∀ k, k ≤ n → (Builtin.firstCells sz k v).run P w = .ok (vl.take (k * sz)).toArray w := by
  unfold srcC at hs
  split at hs
  · rename_i b off s n0
    split at hs
    · rename_i cs fz hm
      split at hs
      · rename_i hc
        cases hs
        obtain ⟨rfl, hle⟩ := hc
        obtain ⟨k, c, hk, rfl, hnc, hcm, hm48⟩ := vr_bsl hr
        obtain ⟨k', vs, T, hk', hh, hl, hvs, _⟩ := hR.box b cs fz hm
        rw [hk] at hk'
        cases hk'
        have hvl := ((vp_of hl hvs).drop off).take (n := n * s) (by rw [List.length_drop]; omega)
        have hll : ((cs.drop off).take (n * s)).length = n * s := by simp; omega
        refine ⟨_, rfl, hvl, hll, fun q hq => ?_⟩
        have hqs : q * s ≤ n * s := Nat.mul_le_mul_right _ hq
        refine run_firstCells_some w s q ⟨k, off, none⟩ n c _ (by rw [List.length_take, ← hvl.1, hll]; omega) (fun j u hj => ?_)
        rw [add_spot rfl]
        rw [List.getElem?_take] at hj
        split at hj
        · rw [List.getElem?_take] at hj
          split at hj
          · rw [List.getElem?_drop, Array.getElem?_toList] at hj
            simp [World.cell?, hh, hj]
          · cases hj
        · cases hj
      · cases hs
    · cases hs
  · rename_i hnb
    obtain ⟨ys, hys, he⟩ := Option.map_eq_some_iff.1 hs
    simp only [Prod.mk.injEq] at he
    obtain ⟨rfl, rfl⟩ := he
    unfold AV.asSrc at hys
    split at hys
    · rename_i s
      split at hys
      · rename_i h1
        subst h1
        cases hys
        have := vr_s hr
        subst this
        have hl : (s.data.toList.map fun b => [PV.s (.int .u8 b.toNat)]).length = s.size := by rw [List.length_map, Array.length_toList]; rfl
        have hpl := pl_bytes g.U w.heap s.data.toList
        refine ⟨byteCells s, by rw [hl]; rfl, ⟨by rw [List.length_map]; exact hpl.1, fun i q u h1 h2 => ?_⟩, ?_, fun q hq => ?_⟩
        · rw [List.getElem?_map] at h1
          obtain ⟨p, hp, rfl⟩ := Option.map_eq_some_iff.1 h1
          exact .p (hpl.2.1 i p u hp h2)
        · rw [List.length_map, hpl.1, hl, List.length_map, Array.length_toList]
          simp
        · rw [hl] at hq
          simp only [Builtin.firstCells, byteCells, Sem.run_pure]
          congr 1
          apply Array.ext'
          rw [Nat.mul_one, ← List.map_take]
          simp [ByteArray.extract, ByteArray.copySlice]
      · cases hys
    · obtain ⟨A, n', c, rfl, hp⟩ := vr_asSl hr hys
      obtain ⟨vl, hpl, hn, hc, hm, hcm, hsz, hat⟩ := pr_cells hp
      have hfl := flatten_length hsz
      have hvl : vl.length = n' * sz := by rw [← hpl.1, hfl, hn]
      refine ⟨vl, by rw [hn]; rfl, ⟨by rw [List.length_map]; exact hpl.1, fun i q u h1 h2 => ?_⟩, by rw [List.length_map, hfl], fun q hq => ?_⟩
      · rw [List.getElem?_map] at h1
        obtain ⟨p, hp, rfl⟩ := Option.map_eq_some_iff.1 h1
        exact .p (hpl.2.1 i p u hp h2)
      · rw [hn] at hq
        have hqs : q * sz ≤ n' * sz := Nat.mul_le_mul_right _ hq
        rcases Nat.eq_zero_or_pos q with h | h
        · subst h
          cases A with
          | none => rw [run_firstCells_none]; simp
          | some ad => exact run_firstCells_some w sz 0 ad n' c _ (by simp) (fun j u h => by simp at h)
        · obtain ⟨ad, vs, T, fr, u', rfl, hs, hh, hu, hle, hv⟩ := hat (Nat.mul_pos (by omega) (Nat.pos_of_ne_zero h0))
          refine run_firstCells_some w sz q ad n' c _ (by rw [List.length_take]; omega) (fun j u hj => ?_)
          rw [List.getElem?_take] at hj
          split at hj
          · rw [add_spot hs]
            simp [World.cell?, hh, hv j (by omega), hj]
          · cases hj

theorem mem_copy (hS : RelS Γ N g w a env m) {dt st e : TypeId} {sz : Nat} {args : Array Operand} {ts : Array TypeId} {d s : Operand} {d' s' : X} (ho : o.op = .call { callee := .builtin .copy, args, argTypes := ts }) (ha : args.toList = [d, s]) (hts : ts.toList = [dt, st])
    (hu : P.underlying dt = some (.slice e)) (hsz : sizeT P e = some sz) (hd : cX N d = some d') (hs : cX N s = some s') {nm : Nat} {us : ML} (hv : eMem (.copy sz) ([d', s'].map (X.ev Γ env)) m nm = some (r, us)) :
    ∃ v g' w', Did P a w o v w' ∧ Out Γ g w m g' w' (updL m us) ∧ VR g' w'.heap r v := by
  have ha := list2 ha
  have hts := list2 hts
  subst ha; subst hts
  have hb : ∃ b off sl n, d'.ev Γ env = .bsl b off sl n := by
    simp only [List.map_cons, List.map_nil] at hv
    cases h : d'.ev Γ env <;> simp [eMem, copyE, h] at hv
    exact ⟨_, _, _, _, rfl⟩
  obtain ⟨b, off, sl, n, hev⟩ := hb
  simp only [List.map_cons, List.map_nil, hev, eMem, copyE] at hv
  split at hv
  · rename_i cs hm
    simp only [Option.bind_eq_some_iff] at hv
    obtain ⟨⟨k, l⟩, hsrc, hv⟩ := hv
    simp only at hv
    split at hv
    · rename_i hc
      cases hv
      obtain ⟨rfl, h0, hle, hone⟩ := hc
      have hdv := cX_sound hS hd
      rw [hev] at hdv
      obtain ⟨kb, c, hk, he, hnc, hcm, hm48⟩ := vr_bsl hdv
      obtain ⟨vl, hlen, hvl, hll, hfc⟩ := src_cells (P := P) hS.rel h0 (cX_sound hS hs) hsrc
      obtain ⟨k', vs, T, hk', hh, hl, hvs, hU⟩ := hS.rel.box b cs false hm
      rw [hk] at hk'
      cases hk'
      have hq : min k n * sl ≤ n * sl := Nat.mul_le_mul_right _ (Nat.min_le_right _ _)
      have hqk : min k n * sl ≤ k * sl := Nat.mul_le_mul_right _ (Nat.min_le_left _ _)
      have hvt := hvl.take (min k n * sl)
      have htl : (vl.take (min k n * sl)).length = min k n * sl := by rw [List.length_take, ← hvl.1, hll]; omega
      have hone' : ∀ v ∈ vl.take (min k n * sl), v.oneCell' = true := by
        intro v hv'
        obtain ⟨i, hi⟩ := List.mem_iff_getElem?.1 hv'
        have hlt : i < (l.take (min k n * sl)).length := by rw [hvt.1]; exact (List.getElem?_eq_some_iff.1 hi).1
        exact vr_oneCell (hvt.2 i _ v (List.getElem?_eq_getElem hlt) hi) (List.all_eq_true.1 hone _ (List.getElem_mem hlt))
      have hst := run_storeCells_at (P := P) kb off T (vl.take (min k n * sl)) 0 vs w hh (by rw [htl]; omega) hone'
      simp only [Nat.add_zero] at hst
      have hsp := ((VL.append ((vp_of hl hvs).take (by omega : off ≤ cs.length)) hvt).appendP ((vp_of hl hvs).drop (off + min k n * sl))).arr
      rw [updL_one]
      refine ⟨.int .i64 (min k n : Nat), g, w.setRow kb (vs.toList.take off ++ vl.take (min k n * sl) ++ vs.toList.drop (off + (vl.take (min k n * sl)).length)).toArray, .inl ?_, ?_, .p (.s _)⟩
      · obtain ⟨cc, hcc⟩ := exec_builtin (P := P) (a := a) (w := w) ho
        rw [hcc]
        refine exec_val' ?_
        simp [Builtin.copy_, run_underlying hu, he, hlen, run_sizeOf hsz, hfc, Nat.min_le_left, hst, goInt]
      · rw [htl]
        exact hS.rel.store hm hk hh _ _ hsp.1 hsp.2 (heap_setRow hh) (sameW_setRow _ _ _)
    · cases hv
  · cases hv

theorem flatten_rep {α : Type} {sz : Nat} {l : List α} (hl : l.length = sz) (h0 : 0 < sz) : ∀ {n : Nat} (j : Nat), j < n * sz → (List.replicate n l).flatten[j]? = l[j % sz]?
  | 0, j, h => by omega
  | n + 1, j, h => by
    rw [List.replicate_succ, List.flatten_cons]
    by_cases hj : j < sz
    · rw [List.getElem?_append_left (by omega), Nat.mod_eq_of_lt hj]
    · rw [List.getElem?_append_right (by omega), hl, flatten_rep hl h0 (j - sz) (by rw [Nat.add_mul] at h; omega)]
      congr 1
      rw [Nat.mod_eq_sub_mod (a := j) (by omega)]

theorem mkz_run (ps : Array TypeId) {rs : Array TypeId} {t e : TypeId} (h5 : rs[0]? = some t) (ht : P.underlying t = some (.slice e)) (n : Nat) (hn : n ≤ 281474976710656) :
    ∃ cs : Array Value, (Extern.BytealgMakeNoZero.makeNoZero ps rs #[.int .i64 n]).run P w = .ok (.slice (some ⟨w.heap.size, 0, none⟩) n cs.size) (w.drew.drew.alloc (.cells cs e)) ∧ n ≤ cs.size ∧ (n ≤ maxLen → cs.size ≤ maxLen) := by
  have e1 : Extern.BytealgMakeNoZero.makeNoZero ps rs #[.int .i64 n] = Extern.BytealgMakeNoZero.makeNoZero ps #[t] #[.int .i64 n] := by
    obtain ⟨l⟩ := rs
    match l, h5 with
    | t' :: l, h5 =>
      simp at h5
      subst h5
      rfl
  rw [e1]
  exact Lib.run_makeNoZero w ps t e ht n hn

theorem mem_mks (hS : RelS Γ N g w a env m) {t e : TypeId} {i : TypeInfo} {zero : List PV} {own : Bool} {l c : Operand} {l' c' : X} (ho : o.op = .makeSlice t l c) (hu : P.underlying t = some (.slice e)) (hi : P.info? e = some i) (hz : zeroT P e = some zero)
    (hl : cX N l = some l') (hc : cX N c = some c') {nm : Nat} {us : ML} (hv : eMem (.mks i.size i.bytes zero own) ([l', c'].map (X.ev Γ env)) m nm = some (r, us)) :
    ∃ v g' w', Did P a w o v w' ∧ Out Γ g w m g' w' (updL m us) ∧ VR g' w'.heap r v := by
  simp only [List.map_cons, List.map_nil, eMem, mksE] at hv
  split at hv
  · rename_i hnm
    simp only [Option.bind_eq_some_iff] at hv
    obtain ⟨li, h1, ci, h2, hv⟩ := hv
    split at hv
    · rename_i hcnd
      obtain ⟨c1, c2, c3, c4, c5, c6⟩ := hcnd
      obtain ⟨kl, hkl⟩ := vr_asInt (cX_sound hS hl) h1
      obtain ⟨kc, hkc⟩ := vr_asInt (cX_sound hS hc) h2
      obtain ⟨iz, z, hiz, hz1, hzv⟩ := vrs_zero (g := g) w.heap hz
      rw [hi] at hiz
      cases hiz
      have hrun := run_make (P := P) w t e i z hu hi hz1 kl kc li ci c1 c2 c3 (by omega)
      have hzs : z.cells.size = i.size := by have := hzv.1; simpa [c5] using this.symm
      have hmade : ∀ (j : Nat) (v : Value), (madeCells z.cells (ci.toNat * i.size))[j]? = some v → j < ci.toNat * i.size ∧ 0 < i.size ∧ z.cells[j % i.size]? = some v := fun j v h4 => by
        have hjl : j < ci.toNat * i.size := by have := (Array.getElem?_eq_some_iff.1 h4).1; rwa [size_madeCells] at this
        have h0 : 0 < i.size := by
          rcases Nat.eq_zero_or_pos i.size with h | h
          · rw [h] at hjl; omega
          · exact h
        have hmd : j % i.size < i.size := Nat.mod_lt _ h0
        simp only [madeCells, Array.getElem?_map] at h4
        obtain ⟨k', hk', rfl⟩ := Option.map_eq_some_iff.1 h4
        have hjk : k' = j := by
          simp only [Array.getElem?_range] at hk'
          split at hk' <;> cases hk'
          all_goals rfl
        rw [hjk, hzs]
        exact ⟨hjl, h0, by rw [getElem!_pos z.cells (j % i.size) (by rw [hzs]; exact hmd), Array.getElem?_eq_getElem (by rw [hzs]; exact hmd)]⟩
      have hexec : (execOp a.eval o).run P w = .ok (.value (.slice (some ⟨w.heap.size, 0, none⟩) li.toNat ci.toNat)) (w.alloc (.cells (madeCells z.cells (ci.toNat * i.size)) e)) := by
        unfold execOp
        simp only [ho, hkl, hkc]
        exact exec_val' hrun
      split at hv
      · cases hv
        rw [updL_one]
        have hle : li.toNat * i.size ≤ ci.toNat * i.size := Nat.mul_le_mul_right _ (by omega)
        have hout := hS.rel.newTok hnm (madeCells z.cells (ci.toNat * i.size)) e (li.toNat * i.size) (by rw [size_madeCells]; exact hle) (w' := w.alloc (.cells (madeCells z.cells (ci.toNat * i.size)) e)) rfl (sameW_alloc _ _)
        refine ⟨_, _, _, .inl hexec, hout, ?_⟩
        have hlen : (List.replicate li.toNat zero).length = li.toNat := by simp
        have hsz : ∀ x ∈ List.replicate li.toNat zero, x.length = i.size := fun x hx => by rw [(List.mem_replicate.1 hx).2]; exact c5
        have hfl : (List.replicate li.toNat zero).flatten.length = li.toNat * i.size := by rw [flatten_length hsz, hlen]
        have hpl : PL g.U w.heap (List.replicate li.toNat zero).flatten ((madeCells z.cells (ci.toNat * i.size)).toList.take (li.toNat * i.size)) := by
          have hone : ∀ (j : Nat) p, (List.replicate li.toNat zero).flatten[j]? = some p → ∀ v, (madeCells z.cells (ci.toNat * i.size))[j]? = some v → PR g.U w.heap p v ∧ p.oneCell = true := fun j p hp v hv => by
            obtain ⟨_, h0, h3⟩ := hmade j v hv
            have hjl : j < li.toNat * i.size := by rw [← hfl]; exact (List.getElem?_eq_some_iff.1 hp).1
            rw [flatten_rep c5 h0 j hjl] at hp
            have := hzv.2 (j % i.size) (.p p) v (by rw [List.getElem?_map, hp]; rfl) h3
            cases this with
            | p hr => exact ⟨hr, List.all_eq_true.1 c6 p (List.mem_of_getElem? hp)⟩
          refine ⟨by rw [hfl, List.length_take, Array.length_toList, size_madeCells]; omega, fun j p v hp hv => ?_, fun v hv => ?_⟩
          · rw [List.getElem?_take] at hv
            split at hv
            · exact (hone j p hp v (by simpa using hv)).1
            · cases hv
          · obtain ⟨j, hj⟩ := List.mem_iff_getElem?.1 hv
            rw [List.getElem?_take] at hj
            split at hj
            · rename_i hjl
              have hjl' : j < (List.replicate li.toNat zero).flatten.length := by rw [hfl]; exact hjl
              obtain ⟨h5, h6⟩ := hone j _ (List.getElem?_eq_getElem hjl') v (by simpa using hj)
              exact pr_oneCell h5 h6
            · cases hj
        have hps := PL.slice (sz := i.size) (xs := List.replicate li.toNat zero) (hpl.mono hout.st.pers) hsz (ad := ⟨w.heap.size, 0, none⟩) (vs := madeCells z.cells (ci.toNat * i.size)) (T := e) (fr := (0, 0)) (u := li.toNat * i.size) (c := ci.toNat) rfl push_new (by simp)
          (by rw [hlen]; simp) (by rw [hlen]; omega) (by rw [hlen]; omega) (by simp only [maxLen]; omega) (fun j hj => by
            rw [hlen] at hj
            rw [Nat.zero_add, List.getElem?_take, if_pos hj, Array.getElem?_toList])
        rw [hlen] at hps
        exact .own hps (.inr ⟨⟨w.heap.size, 0, none⟩, _, e, (0, 0), li.toNat * i.size, rfl, rfl, push_new, by simp, by simp only [Nat.zero_add]; rw [size_madeCells]; exact Nat.le_refl _, by simp⟩)
      · cases hv
        have hcl : ((List.replicate ci.toNat (zero.map AV.p)).flatten).length = ci.toNat * i.size := by
          rw [flatten_length (sz := i.size) (fun x hx => by rw [(List.mem_replicate.1 hx).2]; simpa using c5)]
          simp
        rw [updL_one]
        have hout := hS.rel.newBox hnm (List.replicate ci.toNat (zero.map AV.p)).flatten (madeCells z.cells (ci.toNat * i.size)) e (by rw [hcl, size_madeCells]; exact Nat.le_refl _) (fun j q v h3 h4 => by
          obtain ⟨hjl, h0, h5⟩ := hmade j v h4
          rw [flatten_rep (n := ci.toNat) (l := zero.map AV.p) (sz := i.size) (by simpa using c5) h0 j hjl] at h3
          exact hzv.2 (j % i.size) q _ h3 h5) (w' := w.alloc (.cells (madeCells z.cells (ci.toNat * i.size)) e)) rfl (sameW_alloc _ _)
        exact ⟨_, _, _, .inl hexec, hout, .bsl (k := w.heap.size) (by simp) (c := ci.toNat) (by omega) (by simp only [maxLen]; omega) (by omega)⟩
    · cases hv
  · cases hv

theorem copX_mks {sz bt : Nat} {zero : List PV} {own : Bool} {xs : List X} (hc : copX P N o = some (.ext (.mks sz bt zero own) xs)) :
    ∃ t l c e i l' c', o.op = .makeSlice t l c ∧ P.underlying t = some (.slice e) ∧ P.info? e = some i ∧ zeroT P e = some zero ∧ cX N l = some l' ∧ cX N c = some c' ∧ sz = i.size ∧ bt = i.bytes ∧ xs = [l', c'] := by
  unfold copX at hc
  split at hc
  · rename_i t l c ho
    split at hc
    · rename_i el hu
      simp only [bind, Option.bind_eq_some_iff, pure, Option.some.injEq, COp.ext.injEq, EOp.mks.injEq] at hc
      obtain ⟨i, hi, l', hl, c', hc', z, hz, ⟨rfl, rfl, rfl, rfl⟩, rfl⟩ := hc
      exact ⟨t, l, c, el, i, l', c', ho, hu, hi, hz, hl, hc', rfl, rfl, rfl⟩
    · cases hc
  all_goals exfalso
  all_goals repeat' (first | (cases hc; done) | split at hc | (simp only [bind, Option.bind_eq_some_iff, pure, Option.some.injEq, COp.ext.injEq, reduceCtorEq, and_false, exists_false, false_and] at hc; done))
theorem mks_sound (hS : RelS Γ N g w a env m) {sz bt : Nat} {zero : List PV} {own own' : Bool} {xs : List X} (hc : copX P N o = some (.ext (.mks sz bt zero own) xs)) {nm : Nat} {us : ML} (hv : eMem (.mks sz bt zero own') (xs.map (X.ev Γ env)) m nm = some (r, us)) :
    ∃ v g' w', Did P a w o v w' ∧ Out Γ g w m g' w' (updL m us) ∧ VR g' w'.heap r v := by
  obtain ⟨t, l, c, e, i, l', c', ho, hu, hi, hz, hl, hc', rfl, rfl, rfl⟩ := copX_mks hc
  exact mem_mks hS ho hu hi hz hl hc' hv

theorem run_toBys {u t e : TypeId} (s : ByteArray) (hu : P.underlying u = some .string) (ht : P.underlying t = some (.slice e)) (he : P.underlying e = some (.int .u8)) : ∃ (vs : Array Value) (c : Nat) (fr : Nat × Nat) (w' : World), (convert u t (.string s)).run P w = .ok (.slice (some ⟨w.heap.size, 0, none⟩) s.size c) w' ∧ w'.heap = w.heap.push (.cells vs e fr) ∧ SameW w w' ∧
    s.size ≤ c ∧ (s.size ≤ maxLen → c ≤ maxLen) ∧ s.size ≤ vs.size ∧ ∀ j, j < s.size → vs[j]? = (byteCells s)[j]? := by
  have hbs : (s.data.map fun b => Value.int .u8 b.toNat).size = s.size := by simp
  refine ⟨Lib.bytesCells w e s, grownCap w s.size 0 e, ((Lib.bytesCells w e s).size, (Lib.bytesCells w e s).size + 1), Lib.bytesWorld w e s, Lib.run_convert_string_bytes w u t e s hu ht he, ?_, ⟨rfl, rfl, rfl⟩, by simpa using grownCap_ge w s.size 0 e, grownCap_le_maxLen w s.size 0 e, by simp [Lib.bytesCells], fun j hj => ?_⟩
  · apply Array.ext_getElem?
    intro j
    rw [Array.getElem?_push]
    split
    · rename_i h
      rw [h]
      exact Lib.bytesWorld_at_new w e s
    · rename_i h
      by_cases hj : j < w.heap.size
      · exact Lib.bytesWorld_at_old w e s j hj
      · rw [Array.getElem?_eq_none (by rw [Lib.bytesWorld_size]; omega), Array.getElem?_eq_none (by omega)]
  · unfold Lib.bytesCells
    rw [Array.getElem?_append_left (by rw [hbs]; exact hj)]
    simp [byteCells]

theorem mem_bconv (hS : RelS Γ N g w a env m) {s e : TypeId} {x : Operand} {x' : X} (ho : o.op = .convert s s x) (hs : P.underlying s = some (.slice e)) (he : P.underlying e = some (.int .u8))
    (hx : cX N x = some x') {nm : Nat} {us : ML} (hv : eMem .bconv ([x'].map (X.ev Γ env)) m nm = some (r, us)) : ∃ v g' w', Did P a w o v w' ∧ Out Γ g w m g' w' (updL m us) ∧ VR g' w'.heap r v := by
  simp only [List.map_cons, List.map_nil, eMem] at hv
  unfold bconvE at hv
  split at hv
  · rename_i t sz xs heq
    injection heq with e1 _
    split at hv
    · rename_i hm
      split at hv
      · rename_i hc
        obtain ⟨rfl, hpos⟩ := hc
        cases hv
        have hxv := cX_sound hS hx
        rw [e1] at hxv
        generalize hq : a.eval x = q at hxv
        cases hxv with
        | own hr ht =>
          rename_i A n c
          have hr' := hr
          cases hr' with
          | sl f hn hnc hm48 hcm hsz hp _ =>
            have hfl : 0 < xs.flatten.length := by
              match xs, hpos with
              | y :: ys, _ =>
                have := hsz y (by simp)
                simp only [List.flatten_cons, List.length_append]
                omega
            obtain ⟨ad, vs, T, fr, u, rfl, hspot, hh, hu, _, _⟩ := hp hfl
            rcases ht with ⟨h0, _, _⟩ | ⟨ad', vs', T', fr', u', had, _, _, _, _, hτ⟩
            · omega
            · cases had
              rcases hS.rel.tok t hm with h1 | ⟨k, e', vs2, T2, h1, h2, h3⟩
              · rw [hτ] at h1; cases h1
              · rw [hτ] at h1
                injection h1 with h1
                injection h1 with h1
                injection h1 with h1a h1b
                subst h1a
                have hrun : (convert s s (.slice (some ad) n c)).run P w = .ok (.slice (some ad) n c) (w.freeze ⟨ad.block, vs2.size, none⟩ 1) := by
                  have hsh : w.shape? ad.block = some (T2, vs2.size) := by
                    unfold World.shape?
                    rw [h2]
                  simp [convert, run_underlying hs, run_underlying he, markStringish, hsh]
                have hw : (w.freeze ⟨ad.block, vs2.size, none⟩ 1).heap = w.heap.setIfInBounds ad.block (.cells vs2 T2 (vs2.size, vs2.size + 1)) := by
                  unfold World.freeze
                  rw [if_neg (by decide)]
                  apply Array.ext_getElem?
                  intro i
                  simp only [Array.getElem?_modify, Array.getElem?_setIfInBounds]
                  by_cases hi : ad.block = i
                  · subst hi
                    obtain ⟨hlt, hget⟩ := Array.getElem?_eq_some_iff.1 h2
                    simp only [if_true, hlt, Array.getElem?_eq_getElem hlt, Option.map_some, hget]
                    rfl
                  · simp [hi]
                have hout := hS.rel.mark (w' := w.freeze ⟨ad.block, vs2.size, none⟩ 1) hm hτ h2 hw ⟨rfl, rfl, rfl⟩
                refine ⟨.slice (some ad) n c, g, _, .inl ?_, by rw [updL_one]; exact hout, .p (hr.mono hout.st.pers)⟩
                unfold execOp
                simp only [ho, hq]
                exact exec_val' hrun
      · cases hv
    · cases hv
  · cases hv

theorem mem_toBys (hS : RelS Γ N g w a env m) {s t e : TypeId} {x : Operand} {x' : X} (ho : o.op = .convert s t x) (hs : P.underlying s = some .string) (ht : P.underlying t = some (.slice e)) (he : P.underlying e = some (.int .u8))
    (hx : cX N x = some x') {nm : Nat} {us : ML} (hv : eMem .toBys ([x'].map (X.ev Γ env)) m nm = some (r, us)) : ∃ v g' w', Did P a w o v w' ∧ Out Γ g w m g' w' (updL m us) ∧ VR g' w'.heap r v := by
  simp only [List.map_cons, List.map_nil, eMem] at hv
  unfold toBysE at hv
  split at hv
  · rename_i b heq
    injection heq with e1 _
    split at hv
    · rename_i hc
      cases hv
      have hxv := cX_sound hS hx
      rw [e1] at hxv
      have hxe := vr_s hxv
      obtain ⟨vs, c, fr, w', hrun, hh, hsw, h1, h2, h3, h4⟩ := run_toBys (P := P) (w := w) b hs ht he
      have hout := hS.rel.newAnon vs e fr b.size h3 hh hsw
      refine ⟨.slice (some ⟨w.heap.size, 0, none⟩) b.size c, { g with U := upd g.U w.heap.size (some b.size) }, w', .inl ?_, hout, .p ?_⟩
      · unfold execOp
        simp only [ho, hxe]
        exact exec_val' hrun
      · have hpl := pl_bytes g.U w.heap b.data.toList
        have hl : (b.data.toList.map fun b => [PV.s (.int .u8 b.toNat)]).length = b.size := by rw [List.length_map, Array.length_toList]; rfl
        have hvl : (b.data.toList.map fun b => Value.int .u8 b.toNat) = byteCells b := rfl
        have := PL.slice (sz := 1) (xs := b.data.toList.map fun b => [PV.s (.int .u8 b.toNat)]) (hpl.mono hout.st.pers) (fun y hy => by obtain ⟨_, _, rfl⟩ := List.mem_map.1 hy; rfl) (ad := ⟨w.heap.size, 0, none⟩) (vs := vs) (T := e) (fr := fr) (u := b.size) (c := c) rfl (by rw [hh]; exact push_new) (by simp)
          (by rw [hl]; simp) (by rw [hl]; exact h1) (by rw [hl]; exact hc) (h2 (by simp only [maxLen]; omega)) (fun j hj => by
            rw [hl, Nat.mul_one] at hj
            simp only [Nat.zero_add]
            rw [h4 j hj, hvl])
        rw [hl] at this
        exact this
    · cases hv
  · cases hv

theorem mkz_rows : Extern.allGenericRows.lookup "internal/bytealg.MakeNoZero" = none ∧ Extern.allTypedRows.lookup "internal/bytealg.MakeNoZero" = some Extern.BytealgMakeNoZero.makeNoZero := by
  constructor <;> kernel_rfl
theorem isMkz_spec {f : FuncId} (hf : isMkz P f = true) : ∃ fn t e, P.funcs[f]? = some fn ∧ fn.name = "internal/bytealg.MakeNoZero" ∧ fn.body.isNone = true ∧ Extern.findNext fn = none ∧ fn.resultTypes[0]? = some t ∧ P.underlying t = some (.slice e) := by
  unfold isMkz at hf
  split at hf
  · rename_i fn hfn
    simp only [Bool.and_eq_true, beq_iff_eq] at hf
    obtain ⟨⟨⟨h1, h2⟩, h3⟩, h4⟩ := hf
    split at h4
    · rename_i t ht
      split at h4
      · rename_i e he
        refine ⟨fn, t, e, hfn, h1, h2, ?_, ht, he⟩
        split at h3
        · assumption
        · cases h3
      · cases h4
    · cases h4
  · cases hf
theorem mem_mkz (hS : RelS Γ N g w a env m) {f : FuncId} {args : Array Operand} {ts : Array TypeId} {x : Operand} {x' : X} (ho : o.op = .call { callee := .value (.func f), args, argTypes := ts }) (ha : args.toList = [x]) (hf : isMkz P f = true)
    (hx : cX N x = some x') {nm : Nat} {us : ML} (hv : eMem .mkz ([x'].map (X.ev Γ env)) m nm = some (r, us)) : ∃ v g' w', Did P a w o v w' ∧ Out Γ g w m g' w' (updL m us) ∧ VR g' w'.heap r v := by
  have ha := list1 ha
  subst ha
  obtain ⟨fn, t, e, h1, h2, h3, h4, h5, h6⟩ := isMkz_spec hf
  simp only [List.map_cons, List.map_nil, eMem] at hv
  unfold mkzE at hv
  split at hv
  · rename_i n heq
    injection heq with e1 _
    split at hv
    · rename_i hnm
      split at hv
      · rename_i hc
        cases hv
        obtain ⟨c1, c2⟩ := hc
        obtain ⟨k, rfl⟩ := Int.eq_ofNat_of_zero_le c1
        have hxv := cX_sound hS hx
        rw [e1] at hxv
        have hxe := vr_s hxv
        have hfind : Extern.find fn = some (Extern.BytealgMakeNoZero.makeNoZero fn.params fn.resultTypes) := by
          unfold Extern.find
          simp only [h2, mkz_rows.1, mkz_rows.2]
          rfl
        have hcf := run_callFunc_extern (P := P) h1 (by rw [h2]; rfl) h3 h4 hfind #[.int .i64 k] w
        have hrt : fn.resultTypes = #[t] ∨ True := .inr trivial
        obtain ⟨cs, hrun, g1, g2⟩ := mkz_run (P := P) (w := w) fn.params h5 h6 k (by omega)
        rw [updL_one]
        have hout1 := hS.rel.same (w' := w.drew.drew) rfl ⟨rfl, rfl, rfl⟩
        have hout := hout1.rel.newBox hnm (List.replicate (k : Int).toNat .junk) cs e (by simpa using g1) (fun j q v h3 h4 => by
          rw [List.getElem?_replicate] at h3
          split at h3
          · cases h3; exact .junk
          · cases h3) (w' := w.drew.drew.alloc (.cells cs e)) rfl (sameW_alloc _ _)
        refine ⟨_, _, _, .inl ?_, hout1.trans hout, .bsl (k := w.heap.size) (c := cs.size) (by simp) (by simpa using g1) (g2 (by simp only [maxLen]; omega)) (by omega)⟩
        unfold execOp
        have hd : resolve a.eval { callee := .value (.func f), args := #[x], argTypes := ts } o.type = (pure { target := .fn (.func f) #[], args := #[.int .i64 k] } : Sem Deferred) := by
          simp only [resolve]
          rw [show (#[x].map a.eval) = #[a.eval x] from by simp, hxe]
          rfl
        simp only [ho, hd]
        simp [invoke, hcf, hrun, Result.andThen]
      · cases hv
    · cases hv
  · cases hv

/-! ### All together -/
theorem ext_sound (hS : RelS Γ N g w a env m) {e : EOp} {xs : List X} (hc : copX P N o = some (.ext e xs)) : (∀ r, ePure e (xs.map (X.ev Γ env)) = some r → ∃ v, Does P a w o v ∧ VR g w.heap r v) ∧
    ∀ nm r us, eMem e (xs.map (X.ev Γ env)) m nm = some (r, us) → ∃ v g' w', Did P a w o v w' ∧ Out Γ g w m g' w' (updL m us) ∧ VR g' w'.heap r v := by
  unfold copX at hc
  split at hc
  · rename_i t l c ho
    split at hc
    · rename_i el hu
      simp only [bind, Option.bind_eq_some_iff, pure, Option.some.injEq, COp.ext.injEq] at hc
      obtain ⟨i, hi, l', hl, c', hc', zero, hz, rfl, rfl⟩ := hc
      exact ⟨fun r h => by simp [ePure] at h, fun nm r us h => mem_mks hS ho hu hi hz hl hc' h⟩
    · cases hc
  · rename_i t x lo hi mx ho
    split at hc
    · rename_i el mx' hu
      split at hc
      · rename_i hi'
        simp only [bind, Option.bind_eq_some_iff, pure, Option.some.injEq, COp.ext.injEq] at hc
        obtain ⟨x', hx, h', hh, m', hm, lo', hlo, sz, hsz, rfl, rfl⟩ := hc
        exact ⟨fun r h => does_slice3 hS ho hu hsz hx hh hm hlo h, fun nm r us h => by simp [eMem] at h⟩
      · cases hc
    · rename_i hu
      simp only [bind, Option.bind_eq_some_iff, pure, Option.some.injEq, COp.ext.injEq] at hc
      obtain ⟨x', hx, lo', hlo, hi', hhi, rfl, rfl⟩ := hc
      exact ⟨fun r h => does_sslice hS ho hu hx hlo hhi h, fun nm r us h => by simp [eMem] at h⟩
    · cases hc
  · rename_i t x k ho
    split at hc
    · rename_i key elem hu
      split at hc
      · rename_i kd hk
        simp only [bind, Option.bind_eq_some_iff, pure, Option.some.injEq, COp.ext.injEq] at hc
        obtain ⟨x', hx, k', hk', z, hz, rfl, rfl⟩ := hc
        exact ⟨fun r h => does_look hS ho hu hk hz hx hk' h, fun nm r us h => by simp [eMem] at h⟩
      · cases hc
    · cases hc
  · rename_i x xt t ho
    split at hc
    · rename_i fs hu
      split at hc
      · rename_i cs hz
        simp only [bind, Option.bind_eq_some_iff, pure, Option.some.injEq, COp.ext.injEq] at hc
        obtain ⟨x', hx, rfl, rfl⟩ := hc
        exact ⟨fun r h => does_tassert hS ho hu hz hx h, fun nm r us h => by simp [eMem] at h⟩
      · cases hc
    · cases hc
  · rename_i op t x u ho
    split at hc
    · rename_i ps rs vd hu
      simp only [bind, Option.bind_eq_some_iff, pure, Option.some.injEq, COp.ext.injEq] at hc
      obtain ⟨x', hx, rfl, rfl⟩ := hc
      exact ⟨fun r h => does_fnil hS ho rfl hu hx h, fun nm r us h => by simp [eMem] at h⟩
    · rename_i ps rs vd hu
      simp only [bind, Option.bind_eq_some_iff, pure, Option.some.injEq, COp.ext.injEq] at hc
      obtain ⟨x', hx, rfl, rfl⟩ := hc
      exact ⟨fun r h => does_fnil hS ho rfl hu hx h, fun nm r us h => by simp [eMem] at h⟩
    · cases hc
  · rename_i op t x y u _ ho
    split at hc
    · rename_i k hu
      simp only [bind, Option.bind_eq_some_iff, pure, Option.some.injEq, COp.ext.injEq] at hc
      obtain ⟨x', hx, y', hy, rfl, rfl⟩ := hc
      exact ⟨fun r h => does_feq hS ho rfl hu hx hy h, fun nm r us h => by simp [eMem] at h⟩
    · rename_i k hu
      simp only [bind, Option.bind_eq_some_iff, pure, Option.some.injEq, COp.ext.injEq] at hc
      obtain ⟨x', hx, y', hy, rfl, rfl⟩ := hc
      exact ⟨fun r h => does_feq hS ho rfl hu hx hy h, fun nm r us h => by simp [eMem] at h⟩
    · cases hc
  · rename_i sr dt x ho
    split at hc
    · rename_i el hs ht
      split at hc
      · rename_i _ he'
        rw [if_pos rfl] at hc
        simp only [bind, Option.bind_eq_some_iff, pure, Option.some.injEq, COp.ext.injEq] at hc
        obtain ⟨x', hx, rfl, rfl⟩ := hc
        exact ⟨fun r h => by simp [ePure] at h, fun nm r us h => mem_toBys hS ho hs ht he' hx h⟩
      · simp at hc
    · rename_i el el2 hs ht
      split at hc
      · rename_i hcond
        subst hcond
        split at hc
        · rename_i he'
          simp only [bind, Option.bind_eq_some_iff, pure, Option.some.injEq, COp.ext.injEq] at hc
          obtain ⟨x', hx, rfl, rfl⟩ := hc
          exact ⟨fun r h => by simp [ePure] at h, fun nm r us h => mem_bconv hS ho hs he' hx h⟩
        · cases hc
      · cases hc
    · cases hc
  · rename_i args ts ho
    split at hc
    · rename_i d s dt st ha hts
      split at hc
      · rename_i el hu
        split at hc
        · simp only [bind, Option.bind_eq_some_iff, pure, Option.some.injEq, COp.ext.injEq] at hc
          obtain ⟨d', hd, s', hs', sz, hsz, rfl, rfl⟩ := hc
          exact ⟨fun r h => by simp [ePure] at h, fun nm r us h => mem_copy hS ho ha hts hu hsz hd hs' h⟩
        · simp only [bind, Option.bind_eq_some_iff, pure, Option.some.injEq, COp.ext.injEq] at hc
          obtain ⟨d', hd, s', hs', sz, hsz, rfl, rfl⟩ := hc
          exact ⟨fun r h => by simp [ePure] at h, fun nm r us h => mem_copy hS ho ha hts hu hsz hd hs' h⟩
        · cases hc
      · cases hc
    · cases hc
  · rename_i f args ts ho
    split at hc
    · rename_i n ha
      split at hc
      · rename_i hf
        simp only [bind, Option.bind_eq_some_iff, pure, Option.some.injEq, COp.ext.injEq] at hc
        obtain ⟨x', hx, rfl, rfl⟩ := hc
        exact ⟨fun r h => by simp [ePure] at h, fun nm r us h => mem_mkz hS ho ha hf hx h⟩
      · cases hc
    · cases hc
  · cases hc
/-- A slice of a box, in place of one that freezes it. -/
theorem mslice_sound (hS : RelS Γ N g w a env m) {sz n : Nat} {x' : X} {lo' hi' : Option X} (hc : cop P N o = some (.aslice sz n x' lo' hi')) (hv : ePure (.mslice sz n lo'.isSome hi'.isSome) (x'.ev Γ env :: (lo'.toList ++ hi'.toList).map (X.ev Γ env)) = some r) :
    ∃ v, Does P a w o v ∧ VR g w.heap r v := by
  have key : ∃ t e x lo hi, o.op = .slice t x lo hi none ∧ P.underlying t = some (.array n e) ∧ sizeT P e = some sz ∧ cX N x = some x' ∧ cXo N lo = some lo' ∧ cXo N hi = some hi' := by
    unfold cop at hc
    split at hc
    case h_11 t x lo hi ho =>
      simp only [bind, Option.bind_eq_some_iff] at hc
      obtain ⟨x0, hx, lo0, hlo, hi0, hhi, hc⟩ := hc
      split at hc
      · simp only [Option.bind_eq_some_iff, pure, Option.some.injEq, reduceCtorEq, and_false, exists_false] at hc
      · rename_i n' e hu
        simp only [Option.bind_eq_some_iff, pure, Option.some.injEq, COp.aslice.injEq] at hc
        obtain ⟨sz', hsz, rfl, rfl, rfl, rfl, rfl⟩ := hc
        exact ⟨t, e, x, lo, hi, ho, hu, hsz, hx, hlo, hhi⟩
      · cases hc
    all_goals exfalso
    all_goals repeat' (first | (cases hc; done) | split at hc | (simp only [bind, Option.bind_eq_some_iff, pure, Option.some.injEq, reduceCtorEq, and_false, exists_false] at hc; done) | (simp only [bind, Option.bind_eq_some_iff, pure] at hc; obtain ⟨_, _, hc⟩ := hc) | obtain ⟨_, _, hc⟩ := hc)
  obtain ⟨t, e, x, lo, hi, ho, hu, hsz, hx, hlo, hhi⟩ := key
  exact does_mslice hS ho hu hsz hx hlo hhi hv
end
end Go.Shade
