/- Own texts joined: Sla, Sm, Sn, So, Sp, Sq, Sr, Ss, Su, Sv, Sw, Sx. Own work. -/
import Derived.Test.YtlijecknkpcgfaaDoorZ1
import Derived.Laws.MakeOwn
import Derived.Lib.MakeNoZero
import Derived.Lib.ConvBytes
import Derived.Laws.Externs
import Derived.Laws.Cover3
/- The operations that came later do what 'ePure' and 'eMem' say. Own work. -/
namespace Go.Shade
open Go

section
variable {P : Program} {N : Nat} {Γ : Globs} {g : Gh} {w : World} {a : Act} {env : Nat → AV} {m : Mem} {o : Oper} {r : AV}

/-! ### Quiet ones -/
theorem lohi_ev {lo hi : Option X} {p : Option Int × Option Int} (h : lohi lo.isSome hi.isSome ((lo.toList ++ hi.toList).map (X.ev Γ env)) = some p) : evO Γ env lo = some p.1 ∧ evO Γ env hi = some p.2 := by
  cases lo with
  | none => cases hi with
    | none =>
      simp [lohi] at h
      subst h
      exact ⟨rfl, rfl⟩
    | some y =>
      have h : ((y.ev Γ env).asInt.bind fun i => some ((none : Option Int), some i)) = some p := h
      obtain ⟨i, h1, h2⟩ := Option.bind_eq_some_iff.1 h
      cases h2
      exact ⟨rfl, by simp only [evO, h1, Option.map_some]⟩
  | some x => cases hi with
    | none =>
      have h : ((x.ev Γ env).asInt.bind fun i => some (some i, (none : Option Int))) = some p := h
      obtain ⟨i, h1, h2⟩ := Option.bind_eq_some_iff.1 h
      cases h2
      exact ⟨by simp only [evO, h1, Option.map_some], rfl⟩
    | some y =>
      have h : ((x.ev Γ env).asInt.bind fun i => (y.ev Γ env).asInt.bind fun j => some (some i, some j)) = some p := h
      obtain ⟨i, h1, h⟩ := Option.bind_eq_some_iff.1 h
      obtain ⟨j, h2, h3⟩ := Option.bind_eq_some_iff.1 h
      cases h3
      exact ⟨by simp only [evO, h1, Option.map_some], by simp only [evO, h2, Option.map_some]⟩

theorem is_ptr {b : AV} {sz len : Nat} {lo hi : Bool} {l : List AV} (h : ePure (.mslice sz len lo hi) (b :: l) = some r) : ∃ k off, b = .ptr k off := by
  simp only [ePure] at h
  cases b <;> simp [msliceE] at h
  exact ⟨_, _, rfl⟩

theorem does_mslice (hS : RelS Γ N g w a env m) {t e : TypeId} {n sz : Nat} {x : Operand} {lo hi : Option Operand} {x' : X} {lo' hi' : Option X} (ho : o.op = .slice t x lo hi none) (hu : P.underlying t = some (.array n e)) (hsz : sizeT P e = some sz)
    (hx : cX N x = some x') (hlo : cXo N lo = some lo') (hhi : cXo N hi = some hi') (hv : ePure (.mslice sz n lo'.isSome hi'.isSome) (x'.ev Γ env :: (lo'.toList ++ hi'.toList).map (X.ev Γ env)) = some r) :
    ∃ v, Does P a w o v ∧ VR g w.heap r v := by
  obtain ⟨b, off, hev⟩ := is_ptr hv
  rw [hev] at hv
  simp only [ePure, msliceE, Option.bind_eq_some_iff] at hv
  obtain ⟨⟨i, j⟩, hij, ⟨l, h⟩, hb, hv⟩ := hv
  simp only at hb hv
  obtain ⟨hi1, hj1⟩ := lohi_ev hij
  split at hv
  · rename_i hc
    cases hv
    obtain ⟨hl0, hn⟩ := hc
    have hxv := cX_sound hS hx
    rw [hev] at hxv
    obtain ⟨k, hk, he⟩ := vr_ptr hxv
    obtain ⟨hrun, hlh, hhn⟩ := run_sliceBounds (P := P) hS hlo hhi hi1 hj1 hb (Nat.le_refl n) false w
    refine ⟨.slice (some ⟨k, off + l * sz, none⟩) (h - l) (n - l), ?_, .bsl hk (by omega) (by simp only [maxLen]; omega) (by omega)⟩
    unfold Does execOp
    simp only [ho, he]
    refine exec_val ?_
    have hadr : (if n = l then (⟨k, off, none⟩ : Addr) else (⟨k, off, none⟩ : Addr).add (l * sz)) = ⟨k, off + l * sz, none⟩ := by
      split
      · rename_i hcl
        have : l = 0 := by omega
        subst this
        simp
      · rw [add_spot rfl]
    simp [Instr.sliceAt, run_underlying hu, Instr.sureAddr, hrun, run_sizeOf hsz, hadr]
  · cases hv

theorem does_slice3 (hS : RelS Γ N g w a env m) {t e : TypeId} {sz : Nat} {x hi mx : Operand} {lo : Option Operand} {x' hi' mx' : X} {lo' : Option X} (ho : o.op = .slice t x lo (some hi) (some mx)) (hu : P.underlying t = some (.slice e)) (hsz : sizeT P e = some sz)
    (hx : cX N x = some x') (hhi : cX N hi = some hi') (hmx : cX N mx = some mx') (hlo : cXo N lo = some lo') (hv : ePure (.slice3 sz lo'.isSome) ((x' :: hi' :: mx' :: lo'.toList).map (X.ev Γ env)) = some r) :
    ∃ v, Does P a w o v ∧ VR g w.heap r v := by
  have hb : ∃ b off s n, x'.ev Γ env = .bsl b off s n := by
    cases h : x'.ev Γ env <;> simp [ePure, slice3E, h] at hv
    exact ⟨_, _, _, _, rfl⟩
  obtain ⟨b, off, s, n, hev⟩ := hb
  simp only [List.map_cons, hev, ePure, slice3E, Option.bind_eq_some_iff] at hv
  obtain ⟨h, h1, mxi, h2, ⟨i, j⟩, hij, hv⟩ := hv
  simp only at hv
  have hlo1 : evO Γ env lo' = some i := by
    have := lohi_ev (Γ := Γ) (env := env) (lo := lo') (hi := none) (p := (i, j)) (by simpa using hij)
    exact this.1
  split at hv
  · rename_i hc
    cases hv
    obtain ⟨rfl, c1, c2, c3, c4, c5⟩ := hc
    have hxv := cX_sound hS hx
    rw [hev] at hxv
    obtain ⟨k, c, hk, he, hnc, hcm, hm⟩ := vr_bsl hxv
    obtain ⟨kh, hkh⟩ := vr_asInt (cX_sound hS hhi) h1
    obtain ⟨km, hkm⟩ := vr_asInt (cX_sound hS hmx) h2
    have hl : ∃ lv : Option Value, lo.map a.eval = lv ∧ ∀ (y : Nat) code, i.getD 0 ≤ y → (match lv with | some v => Instr.sliceBound v y code | none => pure 0 : Sem Nat).run P w = .ok (i.getD 0).toNat w := by
      cases hlo' : lo with
      | none =>
        rw [hlo'] at hlo
        simp only [cXo, Option.some.injEq] at hlo
        subst hlo
        simp only [evO, Option.some.injEq] at hlo1
        subst hlo1
        exact ⟨none, rfl, fun y code _ => rfl⟩
      | some lx =>
        rw [hlo'] at hlo
        simp only [cXo] at hlo
        obtain ⟨l', hl', rfl⟩ := Option.map_eq_some_iff.1 hlo
        simp only [evO] at hlo1
        obtain ⟨i', hi', rfl⟩ := Option.map_eq_some_iff.1 hlo1
        obtain ⟨kl, hkl⟩ := vr_asInt (cX_sound hS hl') hi'
        refine ⟨some (.int kl i'), by simp [hkl], fun y code hy => run_sliceBound (by simpa using c1) (by simpa using hy) w⟩
    obtain ⟨lv, hlv, hlrun⟩ := hl
    generalize hq : i.getD 0 = q at *
    refine ⟨.slice (some ⟨k, off + q.toNat * s, none⟩) (h.toNat - q.toNat) (mxi.toNat - q.toNat), ?_, ?_⟩
    · unfold Does execOp
      simp only [ho, he, Option.map_some, hkh, hkm, hlv]
      refine exec_val ?_
      have r1 := run_sliceBound (P := P) (k := km) (i := mxi) (y := c) (code := .slice3Acap) (by omega) (by omega) w
      have r2 := run_sliceBound (P := P) (k := kh) (i := h) (y := mxi.toNat) (code := .slice3B) (by omega) (by omega) w
      have r3 := hlrun h.toNat .slice3C (by omega)
      have hadr : (if mxi.toNat = q.toNat then (some ⟨k, off, none⟩ : Option Addr) else (some ⟨k, off, none⟩ : Option Addr).map (·.add (q.toNat * s))) = some ⟨k, off + q.toNat * s, none⟩ := by
        split
        · rename_i hcl
          have : q.toNat = 0 := by omega
          rw [this]
          simp
        · simp only [Option.map_some]; rw [add_spot rfl]
      simp only [Instr.sliceAt, Sem.run_bind, run_underlying hu, Result.andThen_ok, Instr.slice, Instr.sliceBounds, r1, r2, if_true, Option.isSome_some]
      cases lv with
      | none =>
        simp only at r3
        simp only [Sem.run_pure] at r3
        have r3' : 0 = q.toNat := by simpa using r3
        have ha0 : (⟨k, off, none⟩ : Addr).add 0 = ⟨k, off, none⟩ := by rw [add_spot rfl]; rfl
        simp [run_sizeOf hsz, ← r3', ha0]
      | some lv =>
        simp only at r3
        simp only [Option.map_some] at hadr
        simp [r3, run_sizeOf hsz, hadr]
    · have e1 : (h - q).toNat = h.toNat - q.toNat := by omega
      rw [e1]
      exact .bsl hk (by omega) (by omega) (by omega)
  · cases hv

theorem find_now {kd kk : IntKind} {n : Int} : ∀ (l : List MapEntry) (i : Nat), (l.map (fun e => (e.key, e.val))).all (fun p => keyIs kk p.1) = true →
    (findI n (l.map (fun e => (e.key, e.val))) = none → Instr.findNow (.int kd) (.int kk n) l i = some none) ∧ (∀ v, findI n (l.map (fun e => (e.key, e.val))) = some v → ∃ j, Instr.findNow (.int kd) (.int kk n) l i = some (some (j, v)))
  | [], i, _ => ⟨fun _ => rfl, fun v h => by simp [findI] at h⟩
  | e :: l, i, h => by
    rw [List.map_cons, List.all_cons, Bool.and_eq_true] at h
    obtain ⟨h1, h2⟩ := h
    have ih := find_now (kd := kd) (n := n) l (i + 1) h2
    obtain ⟨key, val, born⟩ := e
    simp only at h1
    unfold keyIs at h1
    split at h1
    · rename_i _ j mi
      have hjk : j = kk := by simpa using h1
      subst hjk
      rw [List.map_cons]
      by_cases hmn : mi = n
      · subst hmn
        simp [Instr.findNow, Instr.sameNow, findI]
      · have hne : ¬ n = mi := fun h => hmn h.symm
        have hstep : Instr.findNow (.int kd) (.int j n) (⟨.int j mi, val, born⟩ :: l) i = Instr.findNow (.int kd) (.int j n) l (i + 1) := by
          have hb : (n == mi) = false := by simp [hne]
          simp only [Instr.findNow, Instr.sameNow, if_true, hb]
        rw [hstep]
        simp only [findI, if_neg hmn]
        exact ih
    · cases h1

theorem vr_ofF (v : Value) : VR g w.heap (AV.ofF v) v := by
  unfold AV.ofF
  split
  · rename_i f x y
    split
    · rename_i hc
      exact .fn (by simp [hc.1]) (fun i a v h => by simp at h) (by simp [hc.2]) (fun i a v h => by simp at h)
    · exact .p (.s _)
  · exact .p (.s _)

theorem does_look (hS : RelS Γ N g w a env m) {t key elem : TypeId} {kd : IntKind} {x k : Operand} {x' k' : X} {z : Value} (ho : o.op = .lookup t x k false) (hu : P.underlying t = some (.map key elem)) (hk : P.underlying key = some (.int kd)) (hz : zeroV P elem = some z)
    (hx : cX N x = some x') (hk' : cX N k = some k') (hv : ePure (.look z) ([x', k'].map (X.ev Γ env)) = some r) : ∃ v, Does P a w o v ∧ VR g w.heap r v := by
  have hb : ∃ es kk n, x'.ev Γ env = .cmap es ∧ k'.ev Γ env = .p (.s (.int kk n)) := by
    simp only [List.map_cons, List.map_nil, ePure] at hv
    unfold lookE at hv
    split at hv
    · rename_i es kk n heq
      injection heq with e1 e2
      injection e2 with e2 _
      exact ⟨es, kk, n, e1, e2⟩
    · cases hv
  obtain ⟨es, kk, n, h1, h2⟩ := hb
  simp only [List.map_cons, List.map_nil, h1, h2, ePure, lookE] at hv
  split at hv
  · rename_i hall
    cases hv
    have hxv := cX_sound hS hx
    rw [h1] at hxv
    have hkv := cX_sound hS hk'
    rw [h2] at hkv
    have hkv := vr_s hkv
    obtain ⟨b, l, tt, he, hh, hes⟩ : ∃ b l tt, a.eval x = .map (some b) ∧ w.heap[b]? = some (Obj.map l tt) ∧ l.toList.map (fun e => (e.key, e.val)) = es := by
      generalize a.eval x = V at hxv
      cases hxv with
      | cmap hk he => exact ⟨_, _, _, rfl, hk, he⟩
    subst hes
    obtain ⟨f1, f2⟩ := find_now (kd := kd) (kk := kk) (n := n) l.toList 0 hall
    have hzr : ∀ W : World, (zeroValue elem).run P W = .ok z W := fun W => by
      unfold zeroV at hz
      obtain ⟨i, hi, hz⟩ := Option.bind_eq_some_iff.1 hz
      simp [zeroValue, typeInfo, hi, hz]
    have hck : (Instr.checkKey l.isEmpty 10000 key (.int kk n)).run P w = .ok () w := by
      rw [show (10000 : Nat) = 9999 + 1 from rfl, Instr.checkKey]
      simp [run_underlying hk]
    have hgo : (getObj b).run P w = .ok (Obj.map l tt) w := by
      simp [getObj, Sem.run, hh]
    refine ⟨(findI n (l.toList.map fun e => (e.key, e.val))).getD z, ?_, vr_ofF _⟩
    unfold Does execOp
    simp only [ho, he, hkv]
    refine exec_val ?_
    cases hf : findI n (l.toList.map fun e => (e.key, e.val)) with
    | none =>
      have f1 := f1 hf
      simp [Instr.lookup, run_underlying hu, hgo, hck, Instr.findKey, run_underlying hk, f1, hzr]
    | some v =>
      obtain ⟨j, f2⟩ := f2 v hf
      simp [Instr.lookup, run_underlying hu, hgo, hck, Instr.findKey, run_underlying hk, f2]
  · cases hv

theorem does_fnil (hS : RelS Γ N g w a env m) {t u : TypeId} {op : BinOp} {neg : Bool} {x : Operand} {x' : X} {ps rs : Array TypeId} {vd : Bool} (ho : o.op = .binOp op t x (.const .nilFunc) u) (hop : op = if neg then .neq else .eql) (hu : P.underlying t = some (.func ps rs vd))
    (hx : cX N x = some x') (hv : ePure (.fnil neg) ([x'].map (X.ev Γ env)) = some r) : ∃ v, Does P a w o v ∧ VR g w.heap r v := by
  have hn : a.eval (.const .nilFunc) = .nilFunc := rfl
  have hdp : Op.maxDepth = 9999 + 1 := rfl
  have hxv := cX_sound hS hx
  simp only [List.map_cons, List.map_nil] at hv
  have hc : (∃ f b c, x'.ev Γ env = .fn f b c ∧ r = .bool neg) ∨ (x'.ev Γ env = .p (.s .nilFunc) ∧ r = .bool !neg) := by
    generalize x'.ev Γ env = q at hv
    simp only [ePure] at hv
    unfold fnilE at hv
    split at hv <;> simp_all
  rcases hc with ⟨f, b, c, h1, rfl⟩ | ⟨h1, rfl⟩
  · rw [h1] at hxv
    obtain ⟨vf, vc, he⟩ : ∃ vf vc, a.eval x = .func f vf vc := by
      generalize a.eval x = V at hxv
      cases hxv
      exact ⟨_, _, rfl⟩
    refine ⟨.bool neg, ?_, .p (.s _)⟩
    unfold Does execOp
    simp only [ho, he, hn]
    refine exec_val ?_
    have hq : (Op.equal t (.func f vf vc) .nilFunc).run P w = .ok false w := by
      unfold Op.equal
      rw [hdp, Op.equalIn]
      simp [run_underlying hu]
    cases neg <;> simp at hop <;> subst hop <;> simp [eqGuard, binOp, hq]
  · rw [h1] at hxv
    have he := vr_s hxv
    refine ⟨.bool !neg, ?_, .p (.s _)⟩
    unfold Does execOp
    simp only [ho, he, hn]
    refine exec_val ?_
    have hq : (Op.equal t .nilFunc .nilFunc).run P w = .ok true w := by
      unfold Op.equal
      rw [hdp, Op.equalIn]
      simp [run_underlying hu]
    cases neg <;> simp at hop <;> subst hop <;> simp [eqGuard, binOp, hq]

theorem does_feq (hS : RelS Γ N g w a env m) {t u : TypeId} {op : BinOp} {neg : Bool} {x y : Operand} {x' y' : X} {k : FloatKind} (ho : o.op = .binOp op t x y u) (hop : op = if neg then .neq else .eql) (hu : P.underlying t = some (.float k))
    (hx : cX N x = some x') (hy : cX N y = some y') (hv : ePure (.feq neg) ([x', y'].map (X.ev Γ env)) = some r) : ∃ v, Does P a w o v ∧ VR g w.heap r v := by
  have hdp : Op.maxDepth = 9999 + 1 := rfl
  have hxv := cX_sound hS hx
  have hyv := cX_sound hS hy
  simp only [List.map_cons, List.map_nil] at hv
  have hc : ∃ k1 a1 b1, x'.ev Γ env = .p (.s (.float k1 a1)) ∧ y'.ev Γ env = .p (.s (.float k1 b1)) ∧ r = .bool (if neg then !(Op.floatEq k1 a1 b1) else Op.floatEq k1 a1 b1) := by
    generalize x'.ev Γ env = q at hv
    generalize y'.ev Γ env = q2 at hv
    simp only [ePure] at hv
    unfold feqE at hv
    split at hv
    · rename_i k1 a1 k2 b1 e
      split at hv
      · rename_i hk
        subst hk
        cases hv
        cases e
        exact ⟨_, _, _, rfl, rfl, rfl⟩
      · cases hv
    · cases hv
  obtain ⟨k1, a1, b1, h1, h2, rfl⟩ := hc
  rw [h1] at hxv
  rw [h2] at hyv
  have hxe := vr_s hxv
  have hye := vr_s hyv
  refine ⟨.bool (if neg then !(Op.floatEq k1 a1 b1) else Op.floatEq k1 a1 b1), ?_, .p (.s _)⟩
  unfold Does execOp
  simp only [ho, hxe, hye]
  refine exec_val ?_
  cases neg <;> simp at hop <;> subst hop <;> simp [eqGuard, binOp, Op.floatCmp, Op.floatEq, bne]

theorem vr_cellsv (vs : Array Value) (h : Array Obj) : VR g h (.agg (vs.toList.map fun v => .p (.s v))) (.agg vs) := by
  refine .agg (by simp) (fun i a v h1 h2 => ?_)
  rw [List.getElem?_map, Array.getElem?_toList, h2] at h1
  simp at h1
  subst h1
  exact .p (.s _)

theorem does_tassert (hS : RelS Γ N g w a env m) {t xt : TypeId} {fs : Array Field} {x : Operand} {x' : X} {cz : Array Value} (ho : o.op = .typeAssert x xt t true) (hu : P.underlying t = some (.struct fs)) (hz : zeroV P t = some (.agg cz))
    (hx : cX N x = some x') (hv : ePure (.tassert t (cz.toList.map PV.s)) ([x'].map (X.ev Γ env)) = some r) : ∃ v, Does P a w o v ∧ VR g w.heap r v := by
  have hxv := cX_sound hS hx
  simp only [List.map_cons, List.map_nil] at hv
  have hzr : ∀ W : World, (zeroValue t).run P W = .ok (.agg cz) W := fun W => by
    unfold zeroV at hz
    obtain ⟨i, hi, hz⟩ := Option.bind_eq_some_iff.1 hz
    simp [zeroValue, typeInfo, hi, hz]
  have htup : ∀ (cs : Array Value) (b : Bool), VR g w.heap (.tup [.agg (cs.toList.map fun v => .p (.s v)), .bool b]) (.tuple #[.agg cs, .bool b]) := fun cs b =>
    .tup rfl (fun i q v h1 h2 => by
      match i with
      | 0 => simp at h1 h2; subst h1; subst h2; exact vr_cellsv _ _
      | 1 => simp at h1 h2; subst h1; subst h2; exact .p (.s _)
      | i + 2 => simp at h1)
  have hzm : (cz.toList.map PV.s).map AV.p = cz.toList.map fun v => .p (.s v) := by rw [List.map_map]; rfl
  have hc : (∃ u v, x'.ev Γ env = .p (.s (.iface u v)) ∧ ((u = t ∧ ∃ cs, v = .agg cs ∧ r = .tup [.agg (cs.toList.map fun v => .p (.s v)), .bool true]) ∨ (u ≠ t ∧ r = .tup [.agg ((cz.toList.map PV.s).map AV.p), .bool false]))) ∨
      (x'.ev Γ env = .p (.s .nilIface) ∧ r = .tup [.agg ((cz.toList.map PV.s).map AV.p), .bool false]) := by
    generalize x'.ev Γ env = q at hv
    simp only [ePure] at hv
    unfold tassertE at hv
    split at hv
    · rename_i u cs heq
      injection heq with e1 _
      subst e1
      refine .inl ⟨u, .agg cs, rfl, ?_⟩
      split at hv
      · rename_i hut
        cases hv
        exact .inl ⟨hut, cs, rfl, rfl⟩
      · rename_i hut
        cases hv
        exact .inr ⟨hut, rfl⟩
    · rename_i heq
      injection heq with e1 _
      subst e1
      cases hv
      exact .inr ⟨rfl, rfl⟩
    · cases hv
  rw [hzm] at hc
  rcases hc with ⟨u, v, h1, ⟨rfl, cs, rfl, rfl⟩ | ⟨hne, rfl⟩⟩ | ⟨h1, rfl⟩
  · rw [h1] at hxv
    have he := vr_s hxv
    refine ⟨_, ?_, htup cs true⟩
    unfold Does execOp
    simp only [ho, he]
    refine exec_val ?_
    simp [Instr.typeAssert, run_underlying hu]
  · rw [h1] at hxv
    have he := vr_s hxv
    refine ⟨_, ?_, htup cz false⟩
    unfold Does execOp
    simp only [ho, he]
    refine exec_val ?_
    simp [Instr.typeAssert, run_underlying hu, hne, hzr]
  · rw [h1] at hxv
    have he := vr_s hxv
    refine ⟨_, ?_, htup cz false⟩
    unfold Does execOp
    simp only [ho, he]
    refine exec_val ?_
    simp [Instr.typeAssert, run_underlying hu, hzr]

theorem does_sslice (hS : RelS Γ N g w a env m) {t : TypeId} {x : Operand} {lo hi : Option Operand} {x' : X} {lo' hi' : Option X} (ho : o.op = .slice t x lo hi none) (hu : P.underlying t = some .string)
    (hx : cX N x = some x') (hlo : cXo N lo = some lo') (hhi : cXo N hi = some hi') (hv : ePure (.sslice lo'.isSome hi'.isSome) ((x' :: (lo'.toList ++ hi'.toList)).map (X.ev Γ env)) = some r) : ∃ v, Does P a w o v ∧ VR g w.heap r v := by
  have hb : ∃ s, x'.ev Γ env = .p (.s (.string s)) := by
    rw [List.map_cons] at hv
    simp only [ePure] at hv
    unfold ssliceE at hv
    split at hv
    · rename_i s r' heq
      injection heq with e1 _
      exact ⟨s, e1⟩
    · cases hv
  obtain ⟨s, hev⟩ := hb
  simp only [List.map_cons, hev, ePure, ssliceE, Option.bind_eq_some_iff] at hv
  obtain ⟨⟨i, j⟩, hij, hv⟩ := hv
  obtain ⟨⟨l, h⟩, hb, rfl⟩ := Option.map_eq_some_iff.1 hv
  simp only at hb
  obtain ⟨hi1, hj1⟩ := lohi_ev hij
  have hxv := cX_sound hS hx
  rw [hev] at hxv
  have he := vr_s hxv
  obtain ⟨hrun, hlh, hhn⟩ := run_sliceBounds (P := P) hS hlo hhi hi1 hj1 hb (Nat.le_refl s.size) false w
  refine ⟨_, ?_, .p (.s (.string (s.extract l h)))⟩
  unfold Does execOp
  simp only [ho, he]
  refine exec_val ?_
  simp [Instr.sliceAt, run_underlying hu, Instr.slice, hrun]

/-! ### Memory -/
theorem updL_one (b : Nat) (r : Res) : updL m [(b, r)] = upd m b (some r) := by
  funext n
  simp only [updL, memL, upd]
  by_cases h : n = b <;> simp [h]

/-- What is copied. -/
theorem src_cells (hR : Rel Γ g w m) {sz : Nat} (h0 : sz ≠ 0) {x : AV} {v : Value} {n : Nat} {l : List AV} (hr : VR g w.heap x v) (hs : srcC sz m x = some (n, l)) :
    ∃ vl, (Builtin.lenOf v).run P w = .ok n w ∧ VL g w.heap l vl ∧ l.length = n * sz ∧ ∀ k, k ≤ n → (Builtin.firstCells sz k v).run P w = .ok (vl.take (k * sz)).toArray w := by
  unfold srcC at hs
  split at hs
  · rename_i b off s n0
    split at hs
    · rename_i cs fz hm
      split at hs
      · rename_i hc
        cases hs
        obtain ⟨rfl, hle⟩ := hc
        obtain ⟨k, c, hk, rfl, hnc, hcm, hm48⟩ := vr_bsl hr
        obtain ⟨k', vs, T, hk', hh, hl, hvs, _⟩ := hR.box b cs fz hm
        rw [hk] at hk'
        cases hk'
        have hvl := ((vp_of hl hvs).drop off).take (n := n * s) (by rw [List.length_drop]; omega)
        have hll : ((cs.drop off).take (n * s)).length = n * s := by simp; omega
        refine ⟨_, rfl, hvl, hll, fun q hq => ?_⟩
        have hqs : q * s ≤ n * s := Nat.mul_le_mul_right _ hq
        refine run_firstCells_some w s q ⟨k, off, none⟩ n c _ (by rw [List.length_take, ← hvl.1, hll]; omega) (fun j u hj => ?_)
        rw [add_spot rfl]
        rw [List.getElem?_take] at hj
        split at hj
        · rw [List.getElem?_take] at hj
          split at hj
          · rw [List.getElem?_drop, Array.getElem?_toList] at hj
            simp [World.cell?, hh, hj]
          · cases hj
        · cases hj
      · cases hs
    · cases hs
  · rename_i hnb
    obtain ⟨ys, hys, he⟩ := Option.map_eq_some_iff.1 hs
    simp only [Prod.mk.injEq] at he
    obtain ⟨rfl, rfl⟩ := he
    unfold AV.asSrc at hys
    split at hys
    · rename_i s
      split at hys
      · rename_i h1
        subst h1
        cases hys
        have := vr_s hr
        subst this
        have hl : (s.data.toList.map fun b => [PV.s (.int .u8 b.toNat)]).length = s.size := by rw [List.length_map, Array.length_toList]; rfl
        have hpl := pl_bytes g.U w.heap s.data.toList
        refine ⟨byteCells s, by rw [hl]; rfl, ⟨by rw [List.length_map]; exact hpl.1, fun i q u h1 h2 => ?_⟩, ?_, fun q hq => ?_⟩
        · rw [List.getElem?_map] at h1
          obtain ⟨p, hp, rfl⟩ := Option.map_eq_some_iff.1 h1
          exact .p (hpl.2.1 i p u hp h2)
        · rw [List.length_map, hpl.1, hl, List.length_map, Array.length_toList]
          simp
        · rw [hl] at hq
          simp only [Builtin.firstCells, byteCells, Sem.run_pure]
          congr 1
          apply Array.ext'
          rw [Nat.mul_one, ← List.map_take]
          simp [ByteArray.extract, ByteArray.copySlice]
      · cases hys
    · obtain ⟨A, n', c, rfl, hp⟩ := vr_asSl hr hys
      obtain ⟨vl, hpl, hn, hc, hm, hcm, hsz, hat⟩ := pr_cells hp
      have hfl := flatten_length hsz
      have hvl : vl.length = n' * sz := by rw [← hpl.1, hfl, hn]
      refine ⟨vl, by rw [hn]; rfl, ⟨by rw [List.length_map]; exact hpl.1, fun i q u h1 h2 => ?_⟩, by rw [List.length_map, hfl], fun q hq => ?_⟩
      · rw [List.getElem?_map] at h1
        obtain ⟨p, hp, rfl⟩ := Option.map_eq_some_iff.1 h1
        exact .p (hpl.2.1 i p u hp h2)
      · rw [hn] at hq
        have hqs : q * sz ≤ n' * sz := Nat.mul_le_mul_right _ hq
        rcases Nat.eq_zero_or_pos q with h | h
        · subst h
          cases A with
          | none => rw [run_firstCells_none]; simp
          | some ad => exact run_firstCells_some w sz 0 ad n' c _ (by simp) (fun j u h => by simp at h)
        · obtain ⟨ad, vs, T, fr, u', rfl, hs, hh, hu, hle, hv⟩ := hat (Nat.mul_pos (by omega) (Nat.pos_of_ne_zero h0))
          refine run_firstCells_some w sz q ad n' c _ (by rw [List.length_take]; omega) (fun j u hj => ?_)
          rw [List.getElem?_take] at hj
          split at hj
          · rw [add_spot hs]
            simp [World.cell?, hh, hv j (by omega), hj]
          · cases hj

theorem mem_copy (hS : RelS Γ N g w a env m) {dt st e : TypeId} {sz : Nat} {args : Array Operand} {ts : Array TypeId} {d s : Operand} {d' s' : X} (ho : o.op = .call { callee := .builtin .copy, args, argTypes := ts }) (ha : args.toList = [d, s]) (hts : ts.toList = [dt, st])
    (hu : P.underlying dt = some (.slice e)) (hsz : sizeT P e = some sz) (hd : cX N d = some d') (hs : cX N s = some s') {nm : Nat} {us : ML} (hv : eMem (.copy sz) ([d', s'].map (X.ev Γ env)) m nm = some (r, us)) :
    ∃ v g' w', Did P a w o v w' ∧ Out Γ g w m g' w' (updL m us) ∧ VR g' w'.heap r v := by
  have ha := list2 ha
  have hts := list2 hts
  subst ha; subst hts
  have hb : ∃ b off sl n, d'.ev Γ env = .bsl b off sl n := by
    simp only [List.map_cons, List.map_nil] at hv
    cases h : d'.ev Γ env <;> simp [eMem, copyE, h] at hv
    exact ⟨_, _, _, _, rfl⟩
  obtain ⟨b, off, sl, n, hev⟩ := hb
  simp only [List.map_cons, List.map_nil, hev, eMem, copyE] at hv
  split at hv
  · rename_i cs hm
    simp only [Option.bind_eq_some_iff] at hv
    obtain ⟨⟨k, l⟩, hsrc, hv⟩ := hv
    simp only at hv
    split at hv
    · rename_i hc
      cases hv
      obtain ⟨rfl, h0, hle, hone⟩ := hc
      have hdv := cX_sound hS hd
      rw [hev] at hdv
      obtain ⟨kb, c, hk, he, hnc, hcm, hm48⟩ := vr_bsl hdv
      obtain ⟨vl, hlen, hvl, hll, hfc⟩ := src_cells (P := P) hS.rel h0 (cX_sound hS hs) hsrc
      obtain ⟨k', vs, T, hk', hh, hl, hvs, hU⟩ := hS.rel.box b cs false hm
      rw [hk] at hk'
      cases hk'
      have hq : min k n * sl ≤ n * sl := Nat.mul_le_mul_right _ (Nat.min_le_right _ _)
      have hqk : min k n * sl ≤ k * sl := Nat.mul_le_mul_right _ (Nat.min_le_left _ _)
      have hvt := hvl.take (min k n * sl)
      have htl : (vl.take (min k n * sl)).length = min k n * sl := by rw [List.length_take, ← hvl.1, hll]; omega
      have hone' : ∀ v ∈ vl.take (min k n * sl), v.oneCell' = true := by
        intro v hv'
        obtain ⟨i, hi⟩ := List.mem_iff_getElem?.1 hv'
        have hlt : i < (l.take (min k n * sl)).length := by rw [hvt.1]; exact (List.getElem?_eq_some_iff.1 hi).1
        exact vr_oneCell (hvt.2 i _ v (List.getElem?_eq_getElem hlt) hi) (List.all_eq_true.1 hone _ (List.getElem_mem hlt))
      have hst := run_storeCells_at (P := P) kb off T (vl.take (min k n * sl)) 0 vs w hh (by rw [htl]; omega) hone'
      simp only [Nat.add_zero] at hst
      have hsp := ((VL.append ((vp_of hl hvs).take (by omega : off ≤ cs.length)) hvt).appendP ((vp_of hl hvs).drop (off + min k n * sl))).arr
      rw [updL_one]
      refine ⟨.int .i64 (min k n : Nat), g, w.setRow kb (vs.toList.take off ++ vl.take (min k n * sl) ++ vs.toList.drop (off + (vl.take (min k n * sl)).length)).toArray, .inl ?_, ?_, .p (.s _)⟩
      · obtain ⟨cc, hcc⟩ := exec_builtin (P := P) (a := a) (w := w) ho
        rw [hcc]
        refine exec_val' ?_
        simp [Builtin.copy_, run_underlying hu, he, hlen, run_sizeOf hsz, hfc, Nat.min_le_left, hst, goInt]
      · rw [htl]
        exact hS.rel.store hm hk hh _ _ hsp.1 hsp.2 (heap_setRow hh) (sameW_setRow _ _ _)
    · cases hv
  · cases hv

theorem flatten_rep {α : Type} {sz : Nat} {l : List α} (hl : l.length = sz) (h0 : 0 < sz) : ∀ {n : Nat} (j : Nat), j < n * sz → (List.replicate n l).flatten[j]? = l[j % sz]?
  | 0, j, h => by omega
  | n + 1, j, h => by
    rw [List.replicate_succ, List.flatten_cons]
    by_cases hj : j < sz
    · rw [List.getElem?_append_left (by omega), Nat.mod_eq_of_lt hj]
    · rw [List.getElem?_append_right (by omega), hl, flatten_rep hl h0 (j - sz) (by rw [Nat.add_mul] at h; omega)]
      congr 1
      rw [Nat.mod_eq_sub_mod (a := j) (by omega)]

theorem mkz_run (ps : Array TypeId) {rs : Array TypeId} {t e : TypeId} (h5 : rs[0]? = some t) (ht : P.underlying t = some (.slice e)) (n : Nat) (hn : n ≤ 281474976710656) :
    ∃ cs : Array Value, (Extern.BytealgMakeNoZero.makeNoZero ps rs #[.int .i64 n]).run P w = .ok (.slice (some ⟨w.heap.size, 0, none⟩) n cs.size) (w.drew.drew.alloc (.cells cs e)) ∧ n ≤ cs.size ∧ (n ≤ maxLen → cs.size ≤ maxLen) := by
  have e1 : Extern.BytealgMakeNoZero.makeNoZero ps rs #[.int .i64 n] = Extern.BytealgMakeNoZero.makeNoZero ps #[t] #[.int .i64 n] := by
    obtain ⟨l⟩ := rs
    match l, h5 with
    | t' :: l, h5 =>
      simp at h5
      subst h5
      rfl
  rw [e1]
  exact Lib.run_makeNoZero w ps t e ht n hn

theorem mem_mks (hS : RelS Γ N g w a env m) {t e : TypeId} {i : TypeInfo} {zero : List PV} {own : Bool} {l c : Operand} {l' c' : X} (ho : o.op = .makeSlice t l c) (hu : P.underlying t = some (.slice e)) (hi : P.info? e = some i) (hz : zeroT P e = some zero)
    (hl : cX N l = some l') (hc : cX N c = some c') {nm : Nat} {us : ML} (hv : eMem (.mks i.size i.bytes zero own) ([l', c'].map (X.ev Γ env)) m nm = some (r, us)) :
    ∃ v g' w', Did P a w o v w' ∧ Out Γ g w m g' w' (updL m us) ∧ VR g' w'.heap r v := by
  simp only [List.map_cons, List.map_nil, eMem, mksE] at hv
  split at hv
  · rename_i hnm
    simp only [Option.bind_eq_some_iff] at hv
    obtain ⟨li, h1, ci, h2, hv⟩ := hv
    split at hv
    · rename_i hcnd
      obtain ⟨c1, c2, c3, c4, c5, c6⟩ := hcnd
      obtain ⟨kl, hkl⟩ := vr_asInt (cX_sound hS hl) h1
      obtain ⟨kc, hkc⟩ := vr_asInt (cX_sound hS hc) h2
      obtain ⟨iz, z, hiz, hz1, hzv⟩ := vrs_zero (g := g) w.heap hz
      rw [hi] at hiz
      cases hiz
      have hrun := run_make (P := P) w t e i z hu hi hz1 kl kc li ci c1 c2 c3 (by omega)
      have hzs : z.cells.size = i.size := by have := hzv.1; simpa [c5] using this.symm
      have hmade : ∀ (j : Nat) (v : Value), (madeCells z.cells (ci.toNat * i.size))[j]? = some v → j < ci.toNat * i.size ∧ 0 < i.size ∧ z.cells[j % i.size]? = some v := fun j v h4 => by
        have hjl : j < ci.toNat * i.size := by have := (Array.getElem?_eq_some_iff.1 h4).1; rwa [size_madeCells] at this
        have h0 : 0 < i.size := by
          rcases Nat.eq_zero_or_pos i.size with h | h
          · rw [h] at hjl; omega
          · exact h
        have hmd : j % i.size < i.size := Nat.mod_lt _ h0
        simp only [madeCells, Array.getElem?_map] at h4
        obtain ⟨k', hk', rfl⟩ := Option.map_eq_some_iff.1 h4
        have hjk : k' = j := by
          simp only [Array.getElem?_range] at hk'
          split at hk' <;> cases hk'
          all_goals rfl
        rw [hjk, hzs]
        exact ⟨hjl, h0, by rw [getElem!_pos z.cells (j % i.size) (by rw [hzs]; exact hmd), Array.getElem?_eq_getElem (by rw [hzs]; exact hmd)]⟩
      have hexec : (execOp a.eval o).run P w = .ok (.value (.slice (some ⟨w.heap.size, 0, none⟩) li.toNat ci.toNat)) (w.alloc (.cells (madeCells z.cells (ci.toNat * i.size)) e)) := by
        unfold execOp
        simp only [ho, hkl, hkc]
        exact exec_val' hrun
      split at hv
      · cases hv
        rw [updL_one]
        have hle : li.toNat * i.size ≤ ci.toNat * i.size := Nat.mul_le_mul_right _ (by omega)
        have hout := hS.rel.newTok hnm (madeCells z.cells (ci.toNat * i.size)) e (li.toNat * i.size) (by rw [size_madeCells]; exact hle) (w' := w.alloc (.cells (madeCells z.cells (ci.toNat * i.size)) e)) rfl (sameW_alloc _ _)
        refine ⟨_, _, _, .inl hexec, hout, ?_⟩
        have hlen : (List.replicate li.toNat zero).length = li.toNat := by simp
        have hsz : ∀ x ∈ List.replicate li.toNat zero, x.length = i.size := fun x hx => by rw [(List.mem_replicate.1 hx).2]; exact c5
        have hfl : (List.replicate li.toNat zero).flatten.length = li.toNat * i.size := by rw [flatten_length hsz, hlen]
        have hpl : PL g.U w.heap (List.replicate li.toNat zero).flatten ((madeCells z.cells (ci.toNat * i.size)).toList.take (li.toNat * i.size)) := by
          have hone : ∀ (j : Nat) p, (List.replicate li.toNat zero).flatten[j]? = some p → ∀ v, (madeCells z.cells (ci.toNat * i.size))[j]? = some v → PR g.U w.heap p v ∧ p.oneCell = true := fun j p hp v hv => by
            obtain ⟨_, h0, h3⟩ := hmade j v hv
            have hjl : j < li.toNat * i.size := by rw [← hfl]; exact (List.getElem?_eq_some_iff.1 hp).1
            rw [flatten_rep c5 h0 j hjl] at hp
            have := hzv.2 (j % i.size) (.p p) v (by rw [List.getElem?_map, hp]; rfl) h3
            cases this with
            | p hr => exact ⟨hr, List.all_eq_true.1 c6 p (List.mem_of_getElem? hp)⟩
          refine ⟨by rw [hfl, List.length_take, Array.length_toList, size_madeCells]; omega, fun j p v hp hv => ?_, fun v hv => ?_⟩
          · rw [List.getElem?_take] at hv
            split at hv
            · exact (hone j p hp v (by simpa using hv)).1
            · cases hv
          · obtain ⟨j, hj⟩ := List.mem_iff_getElem?.1 hv
            rw [List.getElem?_take] at hj
            split at hj
            · rename_i hjl
              have hjl' : j < (List.replicate li.toNat zero).flatten.length := by rw [hfl]; exact hjl
              obtain ⟨h5, h6⟩ := hone j _ (List.getElem?_eq_getElem hjl') v (by simpa using hj)
              exact pr_oneCell h5 h6
            · cases hj
        have hps := PL.slice (sz := i.size) (xs := List.replicate li.toNat zero) (hpl.mono hout.st.pers) hsz (ad := ⟨w.heap.size, 0, none⟩) (vs := madeCells z.cells (ci.toNat * i.size)) (T := e) (fr := (0, 0)) (u := li.toNat * i.size) (c := ci.toNat) rfl push_new (by simp)
          (by rw [hlen]; simp) (by rw [hlen]; omega) (by rw [hlen]; omega) (by simp only [maxLen]; omega) (fun j hj => by
            rw [hlen] at hj
            rw [Nat.zero_add, List.getElem?_take, if_pos hj, Array.getElem?_toList])
        rw [hlen] at hps
        exact .own hps (.inr ⟨⟨w.heap.size, 0, none⟩, _, e, (0, 0), li.toNat * i.size, rfl, rfl, push_new, by simp, by simp only [Nat.zero_add]; rw [size_madeCells]; exact Nat.le_refl _, by simp⟩)
      · cases hv
        have hcl : ((List.replicate ci.toNat (zero.map AV.p)).flatten).length = ci.toNat * i.size := by
          rw [flatten_length (sz := i.size) (fun x hx => by rw [(List.mem_replicate.1 hx).2]; simpa using c5)]
          simp
        rw [updL_one]
        have hout := hS.rel.newBox hnm (List.replicate ci.toNat (zero.map AV.p)).flatten (madeCells z.cells (ci.toNat * i.size)) e (by rw [hcl, size_madeCells]; exact Nat.le_refl _) (fun j q v h3 h4 => by
          obtain ⟨hjl, h0, h5⟩ := hmade j v h4
          rw [flatten_rep (n := ci.toNat) (l := zero.map AV.p) (sz := i.size) (by simpa using c5) h0 j hjl] at h3
          exact hzv.2 (j % i.size) q _ h3 h5) (w' := w.alloc (.cells (madeCells z.cells (ci.toNat * i.size)) e)) rfl (sameW_alloc _ _)
        exact ⟨_, _, _, .inl hexec, hout, .bsl (k := w.heap.size) (by simp) (c := ci.toNat) (by omega) (by simp only [maxLen]; omega) (by omega)⟩
    · cases hv
  · cases hv

theorem copX_mks {sz bt : Nat} {zero : List PV} {own : Bool} {xs : List X} (hc : copX P N o = some (.ext (.mks sz bt zero own) xs)) :
    ∃ t l c e i l' c', o.op = .makeSlice t l c ∧ P.underlying t = some (.slice e) ∧ P.info? e = some i ∧ zeroT P e = some zero ∧ cX N l = some l' ∧ cX N c = some c' ∧ sz = i.size ∧ bt = i.bytes ∧ xs = [l', c'] := by
  unfold copX at hc
  split at hc
  · rename_i t l c ho
    split at hc
    · rename_i el hu
      simp only [bind, Option.bind_eq_some_iff, pure, Option.some.injEq, COp.ext.injEq, EOp.mks.injEq] at hc
      obtain ⟨i, hi, l', hl, c', hc', z, hz, ⟨rfl, rfl, rfl, rfl⟩, rfl⟩ := hc
      exact ⟨t, l, c, el, i, l', c', ho, hu, hi, hz, hl, hc', rfl, rfl, rfl⟩
    · cases hc
  all_goals exfalso
  all_goals repeat' (first | (cases hc; done) | split at hc | (simp only [bind, Option.bind_eq_some_iff, pure, Option.some.injEq, COp.ext.injEq, reduceCtorEq, and_false, exists_false, false_and] at hc; done))
theorem mks_sound (hS : RelS Γ N g w a env m) {sz bt : Nat} {zero : List PV} {own own' : Bool} {xs : List X} (hc : copX P N o = some (.ext (.mks sz bt zero own) xs)) {nm : Nat} {us : ML} (hv : eMem (.mks sz bt zero own') (xs.map (X.ev Γ env)) m nm = some (r, us)) :
    ∃ v g' w', Did P a w o v w' ∧ Out Γ g w m g' w' (updL m us) ∧ VR g' w'.heap r v := by
  obtain ⟨t, l, c, e, i, l', c', ho, hu, hi, hz, hl, hc', rfl, rfl, rfl⟩ := copX_mks hc
  exact mem_mks hS ho hu hi hz hl hc' hv

theorem run_toBys {u t e : TypeId} (s : ByteArray) (hu : P.underlying u = some .string) (ht : P.underlying t = some (.slice e)) (he : P.underlying e = some (.int .u8)) : ∃ (vs : Array Value) (c : Nat) (fr : Nat × Nat) (w' : World), (convert u t (.string s)).run P w = .ok (.slice (some ⟨w.heap.size, 0, none⟩) s.size c) w' ∧ w'.heap = w.heap.push (.cells vs e fr) ∧ SameW w w' ∧
    s.size ≤ c ∧ (s.size ≤ maxLen → c ≤ maxLen) ∧ s.size ≤ vs.size ∧ ∀ j, j < s.size → vs[j]? = (byteCells s)[j]? := by
  have hbs : (s.data.map fun b => Value.int .u8 b.toNat).size = s.size := by simp
  refine ⟨Lib.bytesCells w e s, grownCap w s.size 0 e, ((Lib.bytesCells w e s).size, (Lib.bytesCells w e s).size + 1), Lib.bytesWorld w e s, Lib.run_convert_string_bytes w u t e s hu ht he, ?_, ⟨rfl, rfl, rfl⟩, by simpa using grownCap_ge w s.size 0 e, grownCap_le_maxLen w s.size 0 e, by simp [Lib.bytesCells], fun j hj => ?_⟩
  · apply Array.ext_getElem?
    intro j
    rw [Array.getElem?_push]
    split
    · rename_i h
      rw [h]
      exact Lib.bytesWorld_at_new w e s
    · rename_i h
      by_cases hj : j < w.heap.size
      · exact Lib.bytesWorld_at_old w e s j hj
      · rw [Array.getElem?_eq_none (by rw [Lib.bytesWorld_size]; omega), Array.getElem?_eq_none (by omega)]
  · unfold Lib.bytesCells
    rw [Array.getElem?_append_left (by rw [hbs]; exact hj)]
    simp [byteCells]

theorem mem_bconv (hS : RelS Γ N g w a env m) {s e : TypeId} {x : Operand} {x' : X} (ho : o.op = .convert s s x) (hs : P.underlying s = some (.slice e)) (he : P.underlying e = some (.int .u8))
    (hx : cX N x = some x') {nm : Nat} {us : ML} (hv : eMem .bconv ([x'].map (X.ev Γ env)) m nm = some (r, us)) : ∃ v g' w', Did P a w o v w' ∧ Out Γ g w m g' w' (updL m us) ∧ VR g' w'.heap r v := by
  simp only [List.map_cons, List.map_nil, eMem] at hv
  unfold bconvE at hv
  split at hv
  · rename_i t sz xs heq
    injection heq with e1 _
    split at hv
    · rename_i hm
      split at hv
      · rename_i hc
        obtain ⟨rfl, hpos⟩ := hc
        cases hv
        have hxv := cX_sound hS hx
        rw [e1] at hxv
        generalize hq : a.eval x = q at hxv
        cases hxv with
        | own hr ht =>
          rename_i A n c
          have hr' := hr
          cases hr' with
          | sl f hn hnc hm48 hcm hsz hp _ =>
            have hfl : 0 < xs.flatten.length := by
              match xs, hpos with
              | y :: ys, _ =>
                have := hsz y (by simp)
                simp only [List.flatten_cons, List.length_append]
                omega
            obtain ⟨ad, vs, T, fr, u, rfl, hspot, hh, hu, _, _⟩ := hp hfl
            rcases ht with ⟨h0, _, _⟩ | ⟨ad', vs', T', fr', u', had, _, _, _, _, hτ⟩
            · omega
            · cases had
              rcases hS.rel.tok t hm with h1 | ⟨k, e', vs2, T2, h1, h2, h3⟩
              · rw [hτ] at h1; cases h1
              · rw [hτ] at h1
                injection h1 with h1
                injection h1 with h1
                injection h1 with h1a h1b
                subst h1a
                have hrun : (convert s s (.slice (some ad) n c)).run P w = .ok (.slice (some ad) n c) (w.freeze ⟨ad.block, vs2.size, none⟩ 1) := by
                  have hsh : w.shape? ad.block = some (T2, vs2.size) := by
                    unfold World.shape?
                    rw [h2]
                  simp [convert, run_underlying hs, run_underlying he, markStringish, hsh]
                have hw : (w.freeze ⟨ad.block, vs2.size, none⟩ 1).heap = w.heap.setIfInBounds ad.block (.cells vs2 T2 (vs2.size, vs2.size + 1)) := by
                  unfold World.freeze
                  rw [if_neg (by decide)]
                  apply Array.ext_getElem?
                  intro i
                  simp only [Array.getElem?_modify, Array.getElem?_setIfInBounds]
                  by_cases hi : ad.block = i
                  · subst hi
                    obtain ⟨hlt, hget⟩ := Array.getElem?_eq_some_iff.1 h2
                    simp only [if_true, hlt, Array.getElem?_eq_getElem hlt, Option.map_some, hget]
                    rfl
                  · simp [hi]
                have hout := hS.rel.mark (w' := w.freeze ⟨ad.block, vs2.size, none⟩ 1) hm hτ h2 hw ⟨rfl, rfl, rfl⟩
                refine ⟨.slice (some ad) n c, g, _, .inl ?_, by rw [updL_one]; exact hout, .p (hr.mono hout.st.pers)⟩
                unfold execOp
                simp only [ho, hq]
                exact exec_val' hrun
      · cases hv
    · cases hv
  · cases hv

theorem mem_toBys (hS : RelS Γ N g w a env m) {s t e : TypeId} {x : Operand} {x' : X} (ho : o.op = .convert s t x) (hs : P.underlying s = some .string) (ht : P.underlying t = some (.slice e)) (he : P.underlying e = some (.int .u8))
    (hx : cX N x = some x') {nm : Nat} {us : ML} (hv : eMem .toBys ([x'].map (X.ev Γ env)) m nm = some (r, us)) : ∃ v g' w', Did P a w o v w' ∧ Out Γ g w m g' w' (updL m us) ∧ VR g' w'.heap r v := by
  simp only [List.map_cons, List.map_nil, eMem] at hv
  unfold toBysE at hv
  split at hv
  · rename_i b heq
    injection heq with e1 _
    split at hv
    · rename_i hc
      cases hv
      have hxv := cX_sound hS hx
      rw [e1] at hxv
      have hxe := vr_s hxv
      obtain ⟨vs, c, fr, w', hrun, hh, hsw, h1, h2, h3, h4⟩ := run_toBys (P := P) (w := w) b hs ht he
      have hout := hS.rel.newAnon vs e fr b.size h3 hh hsw
      refine ⟨.slice (some ⟨w.heap.size, 0, none⟩) b.size c, { g with U := upd g.U w.heap.size (some b.size) }, w', .inl ?_, hout, .p ?_⟩
      · unfold execOp
        simp only [ho, hxe]
        exact exec_val' hrun
      · have hpl := pl_bytes g.U w.heap b.data.toList
        have hl : (b.data.toList.map fun b => [PV.s (.int .u8 b.toNat)]).length = b.size := by rw [List.length_map, Array.length_toList]; rfl
        have hvl : (b.data.toList.map fun b => Value.int .u8 b.toNat) = byteCells b := rfl
        have := PL.slice (sz := 1) (xs := b.data.toList.map fun b => [PV.s (.int .u8 b.toNat)]) (hpl.mono hout.st.pers) (fun y hy => by obtain ⟨_, _, rfl⟩ := List.mem_map.1 hy; rfl) (ad := ⟨w.heap.size, 0, none⟩) (vs := vs) (T := e) (fr := fr) (u := b.size) (c := c) rfl (by rw [hh]; exact push_new) (by simp)
          (by rw [hl]; simp) (by rw [hl]; exact h1) (by rw [hl]; exact hc) (h2 (by simp only [maxLen]; omega)) (fun j hj => by
            rw [hl, Nat.mul_one] at hj
            simp only [Nat.zero_add]
            rw [h4 j hj, hvl])
        rw [hl] at this
        exact this
    · cases hv
  · cases hv

theorem mkz_rows : Extern.allGenericRows.lookup "internal/bytealg.MakeNoZero" = none ∧ Extern.allTypedRows.lookup "internal/bytealg.MakeNoZero" = some Extern.BytealgMakeNoZero.makeNoZero := by
  constructor <;> kernel_rfl
theorem isMkz_spec {f : FuncId} (hf : isMkz P f = true) : ∃ fn t e, P.funcs[f]? = some fn ∧ fn.name = "internal/bytealg.MakeNoZero" ∧ fn.body.isNone = true ∧ Extern.findNext fn = none ∧ fn.resultTypes[0]? = some t ∧ P.underlying t = some (.slice e) := by
  unfold isMkz at hf
  split at hf
  · rename_i fn hfn
    simp only [Bool.and_eq_true, beq_iff_eq] at hf
    obtain ⟨⟨⟨h1, h2⟩, h3⟩, h4⟩ := hf
    split at h4
    · rename_i t ht
      split at h4
      · rename_i e he
        refine ⟨fn, t, e, hfn, h1, h2, ?_, ht, he⟩
        split at h3
        · assumption
        · cases h3
      · cases h4
    · cases h4
  · cases hf
theorem mem_mkz (hS : RelS Γ N g w a env m) {f : FuncId} {args : Array Operand} {ts : Array TypeId} {x : Operand} {x' : X} (ho : o.op = .call { callee := .value (.func f), args, argTypes := ts }) (ha : args.toList = [x]) (hf : isMkz P f = true)
    (hx : cX N x = some x') {nm : Nat} {us : ML} (hv : eMem .mkz ([x'].map (X.ev Γ env)) m nm = some (r, us)) : ∃ v g' w', Did P a w o v w' ∧ Out Γ g w m g' w' (updL m us) ∧ VR g' w'.heap r v := by
  have ha := list1 ha
  subst ha
  obtain ⟨fn, t, e, h1, h2, h3, h4, h5, h6⟩ := isMkz_spec hf
  simp only [List.map_cons, List.map_nil, eMem] at hv
  unfold mkzE at hv
  split at hv
  · rename_i n heq
    injection heq with e1 _
    split at hv
    · rename_i hnm
      split at hv
      · rename_i hc
        cases hv
        obtain ⟨c1, c2⟩ := hc
        obtain ⟨k, rfl⟩ := Int.eq_ofNat_of_zero_le c1
        have hxv := cX_sound hS hx
        rw [e1] at hxv
        have hxe := vr_s hxv
        have hfind : Extern.find fn = some (Extern.BytealgMakeNoZero.makeNoZero fn.params fn.resultTypes) := by
          unfold Extern.find
          simp only [h2, mkz_rows.1, mkz_rows.2]
          rfl
        have hcf := run_callFunc_extern (P := P) h1 (by rw [h2]; rfl) h3 h4 hfind #[.int .i64 k] w
        have hrt : fn.resultTypes = #[t] ∨ True := .inr trivial
        obtain ⟨cs, hrun, g1, g2⟩ := mkz_run (P := P) (w := w) fn.params h5 h6 k (by omega)
        rw [updL_one]
        have hout1 := hS.rel.same (w' := w.drew.drew) rfl ⟨rfl, rfl, rfl⟩
        have hout := hout1.rel.newBox hnm (List.replicate (k : Int).toNat .junk) cs e (by simpa using g1) (fun j q v h3 h4 => by
          rw [List.getElem?_replicate] at h3
          split at h3
          · cases h3; exact .junk
          · cases h3) (w' := w.drew.drew.alloc (.cells cs e)) rfl (sameW_alloc _ _)
        refine ⟨_, _, _, .inl ?_, hout1.trans hout, .bsl (k := w.heap.size) (c := cs.size) (by simp) (by simpa using g1) (g2 (by simp only [maxLen]; omega)) (by omega)⟩
        unfold execOp
        have hd : resolve a.eval { callee := .value (.func f), args := #[x], argTypes := ts } o.type = (pure { target := .fn (.func f) #[], args := #[.int .i64 k] } : Sem Deferred) := by
          simp only [resolve]
          rw [show (#[x].map a.eval) = #[a.eval x] from by simp, hxe]
          rfl
        simp only [ho, hd]
        simp [invoke, hcf, hrun, Result.andThen]
      · cases hv
    · cases hv
  · cases hv

theorem f64_rows : (Extern.allGenericRows.lookup "math.Float64bits" = none ∧ Extern.allTypedRows.lookup "math.Float64bits" = none ∧ Extern.allRows.lookup "math.Float64bits" = some Extern.MathFloatBits.float64bits) ∧
    (Extern.allGenericRows.lookup "math.Float64frombits" = none ∧ Extern.allTypedRows.lookup "math.Float64frombits" = none ∧ Extern.allRows.lookup "math.Float64frombits" = some Extern.MathFloatBits.float64frombits) := by
  refine ⟨⟨?_, ?_, ?_⟩, ?_, ?_, ?_⟩ <;> kernel_rfl
theorem isF64_spec {f : FuncId} {to : Bool} (hf : isF64 P f to = true) : ∃ fn, P.funcs[f]? = some fn ∧ fn.name = (if to then "math.Float64frombits" else "math.Float64bits") ∧ fn.body.isNone = true ∧ Extern.findNext fn = none := by
  unfold isF64 at hf
  split at hf
  · rename_i fn hfn
    simp only [Bool.and_eq_true, beq_iff_eq] at hf
    obtain ⟨⟨h1, h2⟩, h3⟩ := hf
    refine ⟨fn, hfn, h1, h2, ?_⟩
    split at h3
    · assumption
    · cases h3
  · cases hf
theorem does_f64 (hS : RelS Γ N g w a env m) {f : FuncId} {args : Array Operand} {ts : Array TypeId} {x : Operand} {x' : X} {to : Bool} (ho : o.op = .call { callee := .value (.func f), args, argTypes := ts }) (ha : args.toList = [x]) (hf : isF64 P f to = true)
    (hx : cX N x = some x') (hv : ePure (.f64 to) ([x'].map (X.ev Γ env)) = some r) : ∃ v, Does P a w o v ∧ VR g w.heap r v := by
  have ha := list1 ha
  subst ha
  obtain ⟨fn, h1, h2, h3, h4⟩ := isF64_spec hf
  have hxv := cX_sound hS hx
  simp only [List.map_cons, List.map_nil, ePure] at hv
  have fin : ∀ (e : Array Value → Sem Value) (u v : Value), Extern.find fn = some e → a.eval x = u → (e #[u]).run P w = .ok v w → (fn.name == "runtime.NumGoroutine") = false → Does P a w o v := fun e u v he hu hr hn => by
    have hcf := run_callFunc_extern (P := P) h1 hn h3 h4 he #[u] w
    unfold Does execOp
    have hd : resolve a.eval { callee := .value (.func f), args := #[x], argTypes := ts } o.type = (pure { target := .fn (.func f) #[], args := #[u] } : Sem Deferred) := by
      simp only [resolve]
      rw [show (#[x].map a.eval) = #[a.eval x] from by simp, hu]
      rfl
    simp only [ho, hd]
    simp [invoke, hcf, hr, Result.andThen]
  unfold f64E at hv
  split at hv
  · rename_i b heq
    injection heq with e1 _
    rw [e1] at hxv
    have hxe := vr_s hxv
    cases to with
    | true => cases hv
    | false =>
      cases hv
      refine ⟨.int .u64 b, fin Extern.MathFloatBits.float64bits _ _ ?_ hxe rfl (by rw [h2]; rfl), .p (.s _)⟩
      unfold Extern.find
      simp only [h2, Bool.false_eq_true, if_false, f64_rows.1.1, f64_rows.1.2.1, f64_rows.1.2.2]
      rfl
  · rename_i n heq
    injection heq with e1 _
    rw [e1] at hxv
    have hxe := vr_s hxv
    cases to with
    | false => cases hv
    | true =>
      cases hv
      refine ⟨.float .f64 n.toNat, fin Extern.MathFloatBits.float64frombits _ _ ?_ hxe rfl (by rw [h2]; rfl), .p (.s _)⟩
      unfold Extern.find
      simp only [h2, if_true, f64_rows.2.1, f64_rows.2.2.1, f64_rows.2.2.2]
      rfl
  · cases hv

/-! ### All together -/
theorem ext_sound (hS : RelS Γ N g w a env m) {e : EOp} {xs : List X} (hc : copX P N o = some (.ext e xs)) : (∀ r, ePure e (xs.map (X.ev Γ env)) = some r → ∃ v, Does P a w o v ∧ VR g w.heap r v) ∧
    ∀ nm r us, eMem e (xs.map (X.ev Γ env)) m nm = some (r, us) → ∃ v g' w', Did P a w o v w' ∧ Out Γ g w m g' w' (updL m us) ∧ VR g' w'.heap r v := by
  unfold copX at hc
  split at hc
  · rename_i t l c ho
    split at hc
    · rename_i el hu
      simp only [bind, Option.bind_eq_some_iff, pure, Option.some.injEq, COp.ext.injEq] at hc
      obtain ⟨i, hi, l', hl, c', hc', zero, hz, rfl, rfl⟩ := hc
      exact ⟨fun r h => by simp [ePure] at h, fun nm r us h => mem_mks hS ho hu hi hz hl hc' h⟩
    · cases hc
  · rename_i t x lo hi mx ho
    split at hc
    · rename_i el mx' hu
      split at hc
      · rename_i hi'
        simp only [bind, Option.bind_eq_some_iff, pure, Option.some.injEq, COp.ext.injEq] at hc
        obtain ⟨x', hx, h', hh, m', hm, lo', hlo, sz, hsz, rfl, rfl⟩ := hc
        exact ⟨fun r h => does_slice3 hS ho hu hsz hx hh hm hlo h, fun nm r us h => by simp [eMem] at h⟩
      · cases hc
    · rename_i hu
      simp only [bind, Option.bind_eq_some_iff, pure, Option.some.injEq, COp.ext.injEq] at hc
      obtain ⟨x', hx, lo', hlo, hi', hhi, rfl, rfl⟩ := hc
      exact ⟨fun r h => does_sslice hS ho hu hx hlo hhi h, fun nm r us h => by simp [eMem] at h⟩
    · cases hc
  · rename_i t x k ho
    split at hc
    · rename_i key elem hu
      split at hc
      · rename_i kd hk
        simp only [bind, Option.bind_eq_some_iff, pure, Option.some.injEq, COp.ext.injEq] at hc
        obtain ⟨x', hx, k', hk', z, hz, rfl, rfl⟩ := hc
        exact ⟨fun r h => does_look hS ho hu hk hz hx hk' h, fun nm r us h => by simp [eMem] at h⟩
      · cases hc
    · cases hc
  · rename_i x xt t ho
    split at hc
    · rename_i fs hu
      split at hc
      · rename_i cs hz
        simp only [bind, Option.bind_eq_some_iff, pure, Option.some.injEq, COp.ext.injEq] at hc
        obtain ⟨x', hx, rfl, rfl⟩ := hc
        exact ⟨fun r h => does_tassert hS ho hu hz hx h, fun nm r us h => by simp [eMem] at h⟩
      · cases hc
    · cases hc
  · rename_i op t x u ho
    split at hc
    · rename_i ps rs vd hu
      simp only [bind, Option.bind_eq_some_iff, pure, Option.some.injEq, COp.ext.injEq] at hc
      obtain ⟨x', hx, rfl, rfl⟩ := hc
      exact ⟨fun r h => does_fnil hS ho rfl hu hx h, fun nm r us h => by simp [eMem] at h⟩
    · rename_i ps rs vd hu
      simp only [bind, Option.bind_eq_some_iff, pure, Option.some.injEq, COp.ext.injEq] at hc
      obtain ⟨x', hx, rfl, rfl⟩ := hc
      exact ⟨fun r h => does_fnil hS ho rfl hu hx h, fun nm r us h => by simp [eMem] at h⟩
    · cases hc
  · rename_i op t x y u _ ho
    split at hc
    · rename_i k hu
      simp only [bind, Option.bind_eq_some_iff, pure, Option.some.injEq, COp.ext.injEq] at hc
      obtain ⟨x', hx, y', hy, rfl, rfl⟩ := hc
      exact ⟨fun r h => does_feq hS ho rfl hu hx hy h, fun nm r us h => by simp [eMem] at h⟩
    · rename_i k hu
      simp only [bind, Option.bind_eq_some_iff, pure, Option.some.injEq, COp.ext.injEq] at hc
      obtain ⟨x', hx, y', hy, rfl, rfl⟩ := hc
      exact ⟨fun r h => does_feq hS ho rfl hu hx hy h, fun nm r us h => by simp [eMem] at h⟩
    · cases hc
  · rename_i sr dt x ho
    split at hc
    · rename_i el hs ht
      split at hc
      · rename_i _ he'
        rw [if_pos rfl] at hc
        simp only [bind, Option.bind_eq_some_iff, pure, Option.some.injEq, COp.ext.injEq] at hc
        obtain ⟨x', hx, rfl, rfl⟩ := hc
        exact ⟨fun r h => by simp [ePure] at h, fun nm r us h => mem_toBys hS ho hs ht he' hx h⟩
      · simp at hc
    · rename_i el el2 hs ht
      split at hc
      · rename_i hcond
        subst hcond
        split at hc
        · rename_i he'
          simp only [bind, Option.bind_eq_some_iff, pure, Option.some.injEq, COp.ext.injEq] at hc
          obtain ⟨x', hx, rfl, rfl⟩ := hc
          exact ⟨fun r h => by simp [ePure] at h, fun nm r us h => mem_bconv hS ho hs he' hx h⟩
        · cases hc
      · cases hc
    · cases hc
  · rename_i args ts ho
    split at hc
    · rename_i d s dt st ha hts
      split at hc
      · rename_i el hu
        split at hc
        · simp only [bind, Option.bind_eq_some_iff, pure, Option.some.injEq, COp.ext.injEq] at hc
          obtain ⟨d', hd, s', hs', sz, hsz, rfl, rfl⟩ := hc
          exact ⟨fun r h => by simp [ePure] at h, fun nm r us h => mem_copy hS ho ha hts hu hsz hd hs' h⟩
        · simp only [bind, Option.bind_eq_some_iff, pure, Option.some.injEq, COp.ext.injEq] at hc
          obtain ⟨d', hd, s', hs', sz, hsz, rfl, rfl⟩ := hc
          exact ⟨fun r h => by simp [ePure] at h, fun nm r us h => mem_copy hS ho ha hts hu hsz hd hs' h⟩
        · cases hc
      · cases hc
    · cases hc
  · rename_i f args ts ho
    split at hc
    · rename_i n ha
      split at hc
      · rename_i hf
        simp only [bind, Option.bind_eq_some_iff, pure, Option.some.injEq, COp.ext.injEq] at hc
        obtain ⟨x', hx, rfl, rfl⟩ := hc
        exact ⟨fun r h => by simp [ePure] at h, fun nm r us h => mem_mkz hS ho ha hf hx h⟩
      · split at hc
        · rename_i hf
          simp only [bind, Option.bind_eq_some_iff, pure, Option.some.injEq, COp.ext.injEq] at hc
          obtain ⟨x', hx, rfl, rfl⟩ := hc
          exact ⟨fun r h => does_f64 hS ho ha hf hx h, fun nm r us h => by simp [eMem] at h⟩
        · split at hc
          · rename_i hf
            simp only [bind, Option.bind_eq_some_iff, pure, Option.some.injEq, COp.ext.injEq] at hc
            obtain ⟨x', hx, rfl, rfl⟩ := hc
            exact ⟨fun r h => does_f64 hS ho ha hf hx h, fun nm r us h => by simp [eMem] at h⟩
          · cases hc
    · cases hc
  · cases hc
/-- A slice of a box, in place of one that freezes it. -/
theorem mslice_sound (hS : RelS Γ N g w a env m) {sz n : Nat} {x' : X} {lo' hi' : Option X} (hc : cop P N o = some (.aslice sz n x' lo' hi')) (hv : ePure (.mslice sz n lo'.isSome hi'.isSome) (x'.ev Γ env :: (lo'.toList ++ hi'.toList).map (X.ev Γ env)) = some r) :
    ∃ v, Does P a w o v ∧ VR g w.heap r v := by
  have key : ∃ t e x lo hi, o.op = .slice t x lo hi none ∧ P.underlying t = some (.array n e) ∧ sizeT P e = some sz ∧ cX N x = some x' ∧ cXo N lo = some lo' ∧ cXo N hi = some hi' := by
    unfold cop at hc
    split at hc
    case h_11 t x lo hi ho =>
      simp only [bind, Option.bind_eq_some_iff] at hc
      obtain ⟨x0, hx, lo0, hlo, hi0, hhi, hc⟩ := hc
      split at hc
      · simp only [Option.bind_eq_some_iff, pure, Option.some.injEq, reduceCtorEq, and_false, exists_false] at hc
      · rename_i n' e hu
        simp only [Option.bind_eq_some_iff, pure, Option.some.injEq, COp.aslice.injEq] at hc
        obtain ⟨sz', hsz, rfl, rfl, rfl, rfl, rfl⟩ := hc
        exact ⟨t, e, x, lo, hi, ho, hu, hsz, hx, hlo, hhi⟩
      · cases hc
    all_goals exfalso
    all_goals repeat' (first | (cases hc; done) | split at hc | (simp only [bind, Option.bind_eq_some_iff, pure, Option.some.injEq, reduceCtorEq, and_false, exists_false] at hc; done) | (simp only [bind, Option.bind_eq_some_iff, pure] at hc; obtain ⟨_, _, hc⟩ := hc) | obtain ⟨_, _, hc⟩ := hc)
  obtain ⟨t, e, x, lo, hi, ho, hu, hsz, hx, hlo, hhi⟩ := key
  exact does_mslice hS ho hu hsz hx hlo hhi hv
end
end Go.Shade

/- Contracts of functions, and calls by them. Own work. -/
namespace Go.Shade
open Go

mutual
def AV.ren (ρ : Nat → Nat) : AV → AV
  | .p x => .p x
  | .own t sz xs => .own (ρ t) sz xs
  | .agg cs => .agg (renL ρ cs)
  | .tup cs => .tup (renL ρ cs)
  | .ptr b off => .ptr (ρ b) off
  | .cptr cs => .cptr cs
  | .fn f x y => .fn f (renL ρ x) (renL ρ y)
  | .bsl b off sz n => .bsl (ρ b) off sz n
  | .cmap es => .cmap es
  | .junk => .junk
def renL (ρ : Nat → Nat) : List AV → List AV
  | [] => []
  | a :: l => a.ren ρ :: renL ρ l
end
mutual
def AV.names : AV → List Nat
  | .p _ => []
  | .own t _ _ => [t]
  | .agg cs => namesL cs
  | .tup cs => namesL cs
  | .ptr b _ => [b]
  | .cptr _ => []
  | .fn _ x y => namesL x ++ namesL y
  | .bsl b _ _ _ => [b]
  | .cmap _ => []
  | .junk => []
def namesL : List AV → List Nat
  | [] => []
  | a :: l => a.names ++ namesL l
end
theorem renL_map (ρ : Nat → Nat) : ∀ l, renL ρ l = l.map (AV.ren ρ)
  | [] => by simp [renL]
  | a :: l => by simp [renL, renL_map ρ l]
theorem mem_namesL {l : List AV} {n : Nat} : n ∈ namesL l ↔ ∃ a ∈ l, n ∈ a.names := by
  induction l with
  | nil => simp [namesL]
  | cons a l ih => simp [namesL, ih]

section
variable {g gc : Gh} {h : Array Obj} {ρ : Nat → Nat}

theorem vr_ren (hU : gc.U = g.U) : ∀ (a : AV) (v : Value), (∀ n ∈ a.names, gc.σ n = g.σ (ρ n) ∧ gc.τ n = g.τ (ρ n)) → (VR gc h a v ↔ VR g h (a.ren ρ) v)
  | .p x, v, _ => by
    rw [AV.ren]
    constructor
    · intro hv; cases hv with | p hr => exact .p (by rw [← hU]; exact hr)
    · intro hv; cases hv with | p hr => exact .p (by rw [hU]; exact hr)
  | .own t sz xs, v, hn => by
    obtain ⟨_, h2⟩ := hn t (by simp [AV.names])
    rw [AV.ren]
    constructor
    · intro hv
      cases hv with
      | own hr ht =>
        refine .own (by rw [← hU]; exact hr) ?_
        rcases ht with ⟨k1, k2, e, k3⟩ | ⟨ad, vs, T, fr, u, k1, k2, k3, k4, k5, k6⟩
        · exact .inl ⟨k1, k2, e, by rw [← h2]; exact k3⟩
        · exact .inr ⟨ad, vs, T, fr, u, k1, k2, k3, by rw [← hU]; exact k4, k5, by rw [← h2]; exact k6⟩
    · intro hv
      cases hv with
      | own hr ht =>
        refine .own (by rw [hU]; exact hr) ?_
        rcases ht with ⟨k1, k2, e, k3⟩ | ⟨ad, vs, T, fr, u, k1, k2, k3, k4, k5, k6⟩
        · exact .inl ⟨k1, k2, e, by rw [h2]; exact k3⟩
        · exact .inr ⟨ad, vs, T, fr, u, k1, k2, k3, by rw [hU]; exact k4, k5, by rw [h2]; exact k6⟩
  | .agg cs, v, hn => by
    rw [AV.ren, renL_map]
    constructor
    · intro hv
      cases hv with
      | agg hl hr =>
        refine .agg (by simpa using hl) (fun i a v ha hv => ?_)
        rw [List.getElem?_map] at ha
        obtain ⟨b, hb, rfl⟩ := Option.map_eq_some_iff.1 ha
        have hm := List.mem_of_getElem? hb
        exact (vr_ren hU b v (fun n hnn => hn n (by rw [AV.names]; exact mem_namesL.2 ⟨b, hm, hnn⟩))).1 (hr i b v hb hv)
    · intro hv
      cases hv with
      | agg hl hr =>
        refine .agg (by simpa using hl) (fun i b v hb hv => ?_)
        have hm := List.mem_of_getElem? hb
        exact (vr_ren hU b v (fun n hnn => hn n (by rw [AV.names]; exact mem_namesL.2 ⟨b, hm, hnn⟩))).2 (hr i _ v (by rw [List.getElem?_map, hb]; rfl) hv)
  | .tup cs, v, hn => by
    rw [AV.ren, renL_map]
    constructor
    · intro hv
      cases hv with
      | tup hl hr =>
        refine .tup (by simpa using hl) (fun i a v ha hv => ?_)
        rw [List.getElem?_map] at ha
        obtain ⟨b, hb, rfl⟩ := Option.map_eq_some_iff.1 ha
        have hm := List.mem_of_getElem? hb
        exact (vr_ren hU b v (fun n hnn => hn n (by rw [AV.names]; exact mem_namesL.2 ⟨b, hm, hnn⟩))).1 (hr i b v hb hv)
    · intro hv
      cases hv with
      | tup hl hr =>
        refine .tup (by simpa using hl) (fun i b v hb hv => ?_)
        have hm := List.mem_of_getElem? hb
        exact (vr_ren hU b v (fun n hnn => hn n (by rw [AV.names]; exact mem_namesL.2 ⟨b, hm, hnn⟩))).2 (hr i _ v (by rw [List.getElem?_map, hb]; rfl) hv)
  | .ptr b off, v, hn => by
    obtain ⟨h1, _⟩ := hn b (by simp [AV.names])
    rw [AV.ren]
    constructor
    · intro hv; cases hv with | ptr hs => exact .ptr (by rw [← h1]; exact hs)
    · intro hv; cases hv with | ptr hs => exact .ptr (by rw [h1]; exact hs)
  | .cptr cs, v, _ => by
    rw [AV.ren]
    constructor
    · intro hv; cases hv with | cptr f hs hp hr => exact .cptr f hs (by rw [← hU]; exact hp) (by rw [← hU]; exact hr)
    · intro hv; cases hv with | cptr f hs hp hr => exact .cptr f hs (by rw [hU]; exact hp) (by rw [hU]; exact hr)
  | .fn f x y, v, hn => by
    rw [AV.ren, renL_map, renL_map]
    constructor
    · intro hv
      cases hv with
      | fn l1 r1 l2 r2 =>
        refine .fn (by simpa using l1) (fun i a v ha hv => ?_) (by simpa using l2) (fun i a v ha hv => ?_)
        · rw [List.getElem?_map] at ha
          obtain ⟨b, hb, rfl⟩ := Option.map_eq_some_iff.1 ha
          have hm := List.mem_of_getElem? hb
          exact (vr_ren hU b v (fun n hnn => hn n (by rw [AV.names]; exact List.mem_append_left _ (mem_namesL.2 ⟨b, hm, hnn⟩)))).1 (r1 i b v hb hv)
        · rw [List.getElem?_map] at ha
          obtain ⟨b, hb, rfl⟩ := Option.map_eq_some_iff.1 ha
          have hm := List.mem_of_getElem? hb
          exact (vr_ren hU b v (fun n hnn => hn n (by rw [AV.names]; exact List.mem_append_right _ (mem_namesL.2 ⟨b, hm, hnn⟩)))).1 (r2 i b v hb hv)
    · intro hv
      cases hv with
      | fn l1 r1 l2 r2 =>
        refine .fn (by simpa using l1) (fun i b v hb hv => ?_) (by simpa using l2) (fun i b v hb hv => ?_)
        · have hm := List.mem_of_getElem? hb
          exact (vr_ren hU b v (fun n hnn => hn n (by rw [AV.names]; exact List.mem_append_left _ (mem_namesL.2 ⟨b, hm, hnn⟩)))).2 (r1 i _ v (by rw [List.getElem?_map, hb]; rfl) hv)
        · have hm := List.mem_of_getElem? hb
          exact (vr_ren hU b v (fun n hnn => hn n (by rw [AV.names]; exact List.mem_append_right _ (mem_namesL.2 ⟨b, hm, hnn⟩)))).2 (r2 i _ v (by rw [List.getElem?_map, hb]; rfl) hv)
  | .bsl b off sz n, v, hn => by
    obtain ⟨h1, _⟩ := hn b (by simp [AV.names])
    rw [AV.ren]
    constructor
    · intro hv; cases hv with | bsl hs k1 k2 k3 => exact .bsl (by rw [← h1]; exact hs) k1 k2 k3
    · intro hv; cases hv with | bsl hs k1 k2 k3 => exact .bsl (by rw [h1]; exact hs) k1 k2 k3
  | .cmap es, v, _ => by
    rw [AV.ren]
    constructor
    · intro hv; cases hv with | cmap k1 k2 => exact .cmap k1 k2
    · intro hv; cases hv with | cmap k1 k2 => exact .cmap k1 k2
  | .junk, v, _ => by
    rw [AV.ren]
    exact ⟨fun _ => .junk, fun _ => .junk⟩
termination_by a => SizeOf.sizeOf a
decreasing_by
  all_goals simp_wf
  all_goals (have := List.sizeOf_lt_of_mem hm; omega)
end

/-! ### Contracts -/
def Res.ren (ρ : Nat → Nat) : Res → Res
  | .box cs fz => .box (renL ρ cs) fz
  | .tok => .tok
  | .dead => .dead
def Res.names : Res → List Nat
  | .box cs _ => namesL cs
  | _ => []

inductive AE where
  | ret (r : AV)
  | pan (v : Value)
def AE.names : AE → List Nat
  | .ret r => r.names
  | .pan _ => []

def Callable (P : Program) (f : FuncId) : Prop := ∃ fn, P.funcs[f]? = some fn ∧ fn.body.isSome = true ∧ (fn.name == "runtime.NumGoroutine") = false

structure Fin (Γ : Globs) (g : Gh) (w : World) (pre : Mem) (g' : Gh) (w' : World) (post : Mem) : Prop where
  rel : Rel Γ g' w' post
  st : St g w pre g' w' post
  names : ∀ n, pre n ≠ none → g'.σ n = g.σ n ∧ g'.τ n = g.τ n

def GoodPost (Γ : Globs) (g : Gh) (w : World) (pre : Mem) (e : AE) (post : Mem) : Ending → World → Prop
  | .returned v, w' => ∃ r g', e = .ret r ∧ Fin Γ g w pre g' w' post ∧ VR g' w'.heap r v
  | .panicked ch, w' => ∃ v g', e = .pan v ∧ ch = [{ v := v, recovered := false }] ∧ Fin Γ g w pre g' w' post
  | .outgrown, _ => False

/-- What a call of f comes to. -/
structure Good (P : Program) (Γ : Globs) (f : FuncId) (args : List AV) (pre : ML) (e : AE) (post : ML) : Prop where
  call : Callable P f
  an : ∀ n ∈ namesL args, memL pre n ≠ none
  pn : ∀ n r, memL pre n = some r → ∀ k ∈ r.names, memL pre k ≠ none
  rn : ∀ n ∈ e.names, memL post n ≠ none
  qn : ∀ n r, memL post n = some r → ∀ k ∈ r.names, memL post k ≠ none
  dom : ∀ n, memL pre n ≠ none → memL post n ≠ none
  run : ∀ g w cargs, Rel Γ g w (memL pre) → VL g w.heap args cargs → Calls P f cargs.toArray w (GoodPost Γ g w (memL pre) e (memL post))

/-- What a contract says but for what a call comes to. -/
structure GoodF (P : Program) (f : FuncId) (args : List AV) (pre : ML) (e : AE) (post : ML) : Prop where
  call : Callable P f
  an : ∀ n ∈ namesL args, memL pre n ≠ none
  pn : ∀ n r, memL pre n = some r → ∀ k ∈ r.names, memL pre k ≠ none
  rn : ∀ n ∈ e.names, memL post n ≠ none
  qn : ∀ n r, memL post n = some r → ∀ k ∈ r.names, memL post k ≠ none
  dom : ∀ n, memL pre n ≠ none → memL post n ≠ none
theorem Good.toF {P : Program} {Γ : Globs} {f : FuncId} {args : List AV} {pre : ML} {e : AE} {post : ML} (h : Good P Γ f args pre e post) : GoodF P f args pre e post := ⟨h.call, h.an, h.pn, h.rn, h.qn, h.dom⟩
/-- What a call of f comes to, up to a number that is not told. -/
structure GoodI (P : Program) (Γ : Globs) (f : FuncId) (args : List AV) (pre : ML) (r : (Nat → Nat) → AV) (post : (Nat → Nat) → ML) : Prop where
  st : ∀ i, GoodF P f args pre (.ret (r i)) (post i)
  run : ∀ g w cargs, Rel Γ g w (memL pre) → VL g w.heap args cargs → Calls P f cargs.toArray w (fun en w' => ∃ i, GoodPost Γ g w (memL pre) (.ret (r i)) (memL (post i)) en w')

/-! ### The caller's side -/
def invOf (ρ : Nat → Nat) : ML → Nat → Option Nat
  | [], _ => none
  | (n, _) :: L, k => if k = ρ n then some n else invOf ρ L k
def applyM (m : Mem) (ρ : Nat → Nat) : ML → Mem
  | [] => m
  | (n, r) :: L => upd (applyM m ρ L) (ρ n) (some (r.ren ρ))

theorem invOf_some {ρ : Nat → Nat} : ∀ {L : ML} {k n : Nat}, invOf ρ L k = some n → k = ρ n ∧ memL L n ≠ none
  | [], k, n, h => by simp [invOf] at h
  | (n0, r) :: L, k, n, h => by
    rw [invOf] at h
    split at h
    · rename_i hk
      cases h
      exact ⟨hk, by simp [memL]⟩
    · obtain ⟨h1, h2⟩ := invOf_some h
      refine ⟨h1, ?_⟩
      rw [memL]
      split
      · simp
      · exact h2
theorem invOf_none {ρ : Nat → Nat} : ∀ {L : ML} {k : Nat}, invOf ρ L k = none → ∀ n, memL L n ≠ none → k ≠ ρ n
  | [], k, _, n, h => by simp [memL] at h
  | (n0, r) :: L, k, h, n, hn => by
    rw [invOf] at h
    split at h
    · cases h
    · rename_i hk
      rw [memL] at hn
      split at hn
      · rename_i hnn; subst hnn; exact hk
      · exact invOf_none h n hn
theorem invOf_at {ρ : Nat → Nat} {L : ML} (hinj : ∀ n n', memL L n ≠ none → memL L n' ≠ none → ρ n = ρ n' → n = n') {n : Nat} (hn : memL L n ≠ none) : invOf ρ L (ρ n) = some n := by
  cases h : invOf ρ L (ρ n) with
  | none => exact absurd rfl (invOf_none h n hn)
  | some n' =>
    obtain ⟨h1, h2⟩ := invOf_some h
    rw [hinj n n' hn h2 h1]
theorem applyM_get {m : Mem} {ρ : Nat → Nat} : ∀ {L : ML} (_ : ∀ n n', memL L n ≠ none → memL L n' ≠ none → ρ n = ρ n' → n = n') (k : Nat), applyM m ρ L k = match invOf ρ L k with
    | some n => (memL L n).map (Res.ren ρ)
    | none => m k
  | [], _, k => rfl
  | (n0, r) :: L, hinj, k => by
    rw [applyM, invOf]
    by_cases hk : k = ρ n0
    · subst hk
      simp [memL]
    · rw [upd_ne _ _ hk, if_neg hk]
      have ih := applyM_get (m := m) (ρ := ρ) (L := L) (fun n n' h1 h2 => hinj n n' (by rw [memL]; split <;> simp_all) (by rw [memL]; split <;> simp_all)) k
      rw [ih]
      cases hi : invOf ρ L k with
      | none => rfl
      | some n =>
        obtain ⟨h1, h2⟩ := invOf_some hi
        have : n ≠ n0 := fun e => hk (by rw [h1, e])
        simp [memL, this]
end Go.Shade

/- What a call does to the caller's memory. Own work. -/
namespace Go.Shade
open Go

/-- What the callee sees of the caller's names. -/
def under (g : Gh) (ρ : Nat → Nat) (pre : Mem) : Gh := { σ := fun n => if (pre n).isSome then g.σ (ρ n) else none, τ := fun n => if (pre n).isSome then g.τ (ρ n) else none, U := g.U }
/-- What the caller has behind it. -/
def over (g gc : Gh) (ρ : Nat → Nat) (L : ML) : Gh :=
  { σ := fun k => match invOf ρ L k with | some n => gc.σ n | none => g.σ k, τ := fun k => match invOf ρ L k with | some n => gc.τ n | none => g.τ k, U := gc.U }

/-- A renaming that fits. -/
structure Fits (m : Mem) (pre post : ML) (ρ : Nat → Nat) : Prop where
  old : ∀ n r, memL pre n = some r → m (ρ n) = some (r.ren ρ)
  inj : ∀ n n', memL post n ≠ none → memL post n' ≠ none → ρ n = ρ n' → n = n'
  new : ∀ n, memL post n ≠ none → memL pre n = none → m (ρ n) = none

section
variable {P : Program} {Γ : Globs} {g gc' : Gh} {w w' : World} {m : Mem} {f : FuncId} {args : List AV} {pre post : ML} {e : AE} {ρ : Nat → Nat}

theorem under_σ {n : Nat} (h : memL pre n ≠ none) : (under g ρ (memL pre)).σ n = g.σ (ρ n) ∧ (under g ρ (memL pre)).τ n = g.τ (ρ n) := by
  have : (memL pre n).isSome = true := by cases h' : memL pre n <;> simp_all
  simp [under, this]
theorem under_none {n : Nat} (h : memL pre n = none) : (under g ρ (memL pre)).σ n = none ∧ (under g ρ (memL pre)).τ n = none := by
  simp [under, h]

theorem vr_under {a : AV} {v : Value} {h : Array Obj} (h1 : ∀ n ∈ a.names, memL pre n ≠ none) (h2 : VR g h (a.ren ρ) v) : VR (under g ρ (memL pre)) h a v :=
  (vr_ren (gc := under g ρ (memL pre)) (g := g) rfl a v (fun n hnn => under_σ (h1 n hnn))).2 h2

theorem holds_under (hf : Fits m pre post ρ) {n k : Nat} (h : Holds (under g ρ (memL pre)) (memL pre) n k) : Holds g m (ρ n) k ∧ memL pre n ≠ none := by
  rcases h with ⟨cs, fz, h, h'⟩ | ⟨h, e, h'⟩
  · have hne : memL pre n ≠ none := by rw [h]; simp
    rw [(under_σ hne).1] at h'
    exact ⟨.inl ⟨_, fz, hf.old n _ h, h'⟩, hne⟩
  · have hne : memL pre n ≠ none := by rw [h]; simp
    rw [(under_σ hne).2] at h'
    exact ⟨.inr ⟨hf.old n _ h, e, h'⟩, hne⟩
theorem owns_under (hf : Fits m pre post ρ) {n k : Nat} (h : Owns (under g ρ (memL pre)) (memL pre) n k) : Owns g m (ρ n) k ∧ memL pre n ≠ none := by
  rcases h with ⟨cs, h, h'⟩ | ⟨h, e, h'⟩
  · have hne : memL pre n ≠ none := by rw [h]; simp
    rw [(under_σ hne).1] at h'
    exact ⟨.inl ⟨_, hf.old n _ h, h'⟩, hne⟩
  · have hne : memL pre n ≠ none := by rw [h]; simp
    rw [(under_σ hne).2] at h'
    exact ⟨.inr ⟨hf.old n _ h, e, h'⟩, hne⟩

theorem rel_under (hG : GoodF P f args pre e post) (hR : Rel Γ g w m) (hf : Fits m pre post ρ) : Rel Γ (under g ρ (memL pre)) w (memL pre) where
  fresh n hn := under_none hn
  box n cs fz hn := by
    have hne : memL pre n ≠ none := by rw [hn]; simp
    obtain ⟨k, vs, T, h1, h2, h3, h4, h5⟩ := hR.box (ρ n) _ fz (hf.old n _ hn)
    rw [renL_map] at h3 h4 h5
    refine ⟨k, vs, T, by rw [(under_σ hne).1]; exact h1, h2, by simpa using h3, fun i a v ha hv => ?_, by simpa [under] using h5⟩
    refine vr_under (fun q hq => hG.pn n _ hn q ?_) (h4 i _ v (by rw [List.getElem?_map, ha]; rfl) hv)
    exact mem_namesL.2 ⟨a, List.mem_of_getElem? ha, hq⟩
  tok n hn := by
    have hne : memL pre n ≠ none := by rw [hn]; simp
    have h0 := hR.tok (ρ n) (hf.old n _ hn)
    unfold TkR at h0 ⊢
    rw [(under_σ hne).2]
    exact h0
  inj n n' k h1 h2 := by
    obtain ⟨h3, h4⟩ := holds_under hf h1
    obtain ⟨h5, h6⟩ := holds_under hf h2
    exact hf.inj n n' (hG.dom n h4) (hG.dom n' h6) (hR.inj _ _ k h3 h5)
  ulen := hR.ulen
  glob := hR.glob

theorem over_at (hf : Fits m pre post ρ) {n : Nat} (hn : memL post n ≠ none) : (over g gc' ρ post).σ (ρ n) = gc'.σ n ∧ (over g gc' ρ post).τ (ρ n) = gc'.τ n := by
  simp [over, invOf_at hf.inj hn]

theorem vr_over (hf : Fits m pre post ρ) {a : AV} {v : Value} {h : Array Obj} (h1 : ∀ n ∈ a.names, memL post n ≠ none) (h2 : VR gc' h a v) : VR (over g gc' ρ post) h (a.ren ρ) v :=
  (vr_ren (gc := gc') (g := over g gc' ρ post) rfl a v (fun n hn => ⟨(over_at hf (h1 n hn)).1.symm, (over_at hf (h1 n hn)).2.symm⟩)).1 h2

theorem over_old (hf : Fits m pre post ρ) (hn : ∀ n, memL pre n ≠ none → gc'.σ n = (under g ρ (memL pre)).σ n ∧ gc'.τ n = (under g ρ (memL pre)).τ n) {k : Nat} (hk : m k ≠ none) :
    (over g gc' ρ post).σ k = g.σ k ∧ (over g gc' ρ post).τ k = g.τ k := by
  cases hi : invOf ρ post k with
  | none => simp [over, hi]
  | some n =>
    obtain ⟨h1, h2⟩ := invOf_some hi
    subst h1
    have hp : memL pre n ≠ none := fun h => hk (hf.new n h2 h)
    obtain ⟨h3, h4⟩ := hn n hp
    rw [(over_at hf h2).1, (over_at hf h2).2, h3, h4]
    exact under_σ hp

theorem holds_over (hf : Fits m pre post ρ) {k x : Nat} (h : Holds (over g gc' ρ post) (applyM m ρ post) k x) :
    (∃ n, k = ρ n ∧ memL post n ≠ none ∧ Holds gc' (memL post) n x) ∨ (invOf ρ post k = none ∧ Holds g m k x) := by
  cases hi : invOf ρ post k with
  | none =>
    right
    refine ⟨rfl, ?_⟩
    rcases h with ⟨cs, fz, h, h'⟩ | ⟨h, e, h'⟩
    · rw [applyM_get hf.inj, hi] at h
      simp only [over, hi] at h'
      exact .inl ⟨cs, fz, h, h'⟩
    · rw [applyM_get hf.inj, hi] at h
      simp only [over, hi] at h'
      exact .inr ⟨h, e, h'⟩
  | some n =>
    obtain ⟨h1, h2⟩ := invOf_some hi
    left
    refine ⟨n, h1, h2, ?_⟩
    rcases h with ⟨cs, fz, h, h'⟩ | ⟨h, e, h'⟩
    · rw [applyM_get hf.inj, hi] at h
      simp only [over, hi] at h'
      obtain ⟨r, hr, hr'⟩ := Option.map_eq_some_iff.1 h
      cases r <;> simp [Res.ren] at hr'
      obtain ⟨_, rfl⟩ := hr'
      exact .inl ⟨_, _, hr, h'⟩
    · rw [applyM_get hf.inj, hi] at h
      simp only [over, hi] at h'
      obtain ⟨r, hr, hr'⟩ := Option.map_eq_some_iff.1 h
      cases r <;> simp [Res.ren] at hr'
      exact .inr ⟨hr, e, h'⟩
theorem owns_over (hf : Fits m pre post ρ) {k x : Nat} (h : Owns (over g gc' ρ post) (applyM m ρ post) k x) :
    (∃ n, k = ρ n ∧ memL post n ≠ none ∧ Owns gc' (memL post) n x) ∨ (invOf ρ post k = none ∧ Owns g m k x) := by
  cases hi : invOf ρ post k with
  | none =>
    right
    refine ⟨rfl, ?_⟩
    rcases h with ⟨cs, h, h'⟩ | ⟨h, e, h'⟩
    · rw [applyM_get hf.inj, hi] at h
      simp only [over, hi] at h'
      exact .inl ⟨cs, h, h'⟩
    · rw [applyM_get hf.inj, hi] at h
      simp only [over, hi] at h'
      exact .inr ⟨h, e, h'⟩
  | some n =>
    obtain ⟨h1, h2⟩ := invOf_some hi
    left
    refine ⟨n, h1, h2, ?_⟩
    rcases h with ⟨cs, h, h'⟩ | ⟨h, e, h'⟩
    · rw [applyM_get hf.inj, hi] at h
      simp only [over, hi] at h'
      obtain ⟨r, hr, hr'⟩ := Option.map_eq_some_iff.1 h
      cases r <;> simp [Res.ren] at hr'
      obtain ⟨_, rfl⟩ := hr'
      exact .inl ⟨_, hr, h'⟩
    · rw [applyM_get hf.inj, hi] at h
      simp only [over, hi] at h'
      obtain ⟨r, hr, hr'⟩ := Option.map_eq_some_iff.1 h
      cases r <;> simp [Res.ren] at hr'
      exact .inr ⟨hr, e, h'⟩

theorem call_out (hG : GoodF P f args pre e post) (hR : Rel Γ g w m) (hf : Fits m pre post ρ) (hfin : Fin Γ (under g ρ (memL pre)) w (memL pre) gc' w' (memL post)) :
    Out Γ g w m (over g gc' ρ post) w' (applyM m ρ post) := by
  have hold : ∀ {k : Nat}, m k ≠ none → (over g gc' ρ post).σ k = g.σ k ∧ (over g gc' ρ post).τ k = g.τ k := fun h => over_old hf hfin.names h
  have hle : GhLe g (over g gc' ρ post) := ⟨fun n k h => by
    have : m n ≠ none := fun h0 => by rw [(hR.fresh n h0).1] at h; cases h
    rw [(hold this).1]; exact h, fun n k h => by
    have : m n ≠ none := fun h0 => by rw [(hR.fresh n h0).2] at h; cases h
    rw [(hold this).2]; exact h⟩
  -- what of the caller's other names is touched: nothing
  have hout : ∀ k x, invOf ρ post k = none → Holds g m k x → w'.heap[x]? = w.heap[x]? ∧ gc'.U x = g.U x := fun k x hi hh => by
    refine hfin.st.frame x (hR.holds_lt hh) (fun n ho => ?_)
    obtain ⟨h1, h2⟩ := owns_under hf ho
    have := hR.inj _ _ x h1.holds hh
    exact absurd this.symm (invOf_none hi n (hG.dom n h2))
  refine ⟨⟨fun k hk => ?_, fun k cs fz hk => ?_, fun k hk => ?_, fun k k' x h1 h2 => ?_, hfin.rel.ulen, hfin.rel.glob⟩, ⟨hfin.st.os, hfin.st.tape, hfin.st.output, fun a ha hno => hfin.st.fz a ha (fun n ho => hno _ (owns_under hf ho).1), hfin.st.size, fun x hx hno => ?_, hfin.st.pers, fun k x hx ho => ?_, fun k x hx ho => ?_⟩, hle, fun k hk => hold hk, fun k hk => ?_⟩
  · rw [applyM_get hf.inj] at hk
    cases hi : invOf ρ post k with
    | none =>
      rw [hi] at hk
      simp only [over, hi]
      exact hR.fresh k hk
    | some n =>
      rw [hi] at hk
      obtain ⟨_, h2⟩ := invOf_some hi
      simp only [Option.map_eq_none_iff] at hk
      exact absurd hk h2
  · rw [applyM_get hf.inj] at hk
    cases hi : invOf ρ post k with
    | none =>
      rw [hi] at hk
      refine (hR.box k cs fz hk).mono hle hfin.st.pers (fun x hx => hout k x hi (.inl ⟨cs, fz, hk, hx⟩))
    | some n =>
      rw [hi] at hk
      obtain ⟨h1, h2⟩ := invOf_some hi
      subst h1
      obtain ⟨r, hr, hr'⟩ := Option.map_eq_some_iff.1 hk
      cases r <;> simp [Res.ren] at hr'
      obtain ⟨rfl, rfl⟩ := hr'
      obtain ⟨x, vs, T, k1, k2, k3, k4, k5⟩ := hfin.rel.box n _ _ hr
      refine ⟨x, vs, T, by rw [(over_at hf h2).1]; exact k1, k2, by rw [renL_map]; simpa using k3, fun i a v ha hv => ?_, by rw [renL_map]; simpa [over] using k5⟩
      rw [renL_map, List.getElem?_map] at ha
      obtain ⟨b, hb, rfl⟩ := Option.map_eq_some_iff.1 ha
      exact vr_over hf (fun q hq => hG.qn n _ hr q (mem_namesL.2 ⟨b, List.mem_of_getElem? hb, hq⟩)) (k4 i b v hb hv)
  · rw [applyM_get hf.inj] at hk
    cases hi : invOf ρ post k with
    | none =>
      rw [hi] at hk
      exact (hR.tok k hk).mono hle (fun x e hx => hout k x hi (.inr ⟨hk, e, hx⟩))
    | some n =>
      rw [hi] at hk
      obtain ⟨h1, h2⟩ := invOf_some hi
      subst h1
      obtain ⟨r, hr, hr'⟩ := Option.map_eq_some_iff.1 hk
      cases r <;> simp [Res.ren] at hr'
      have h0 := hfin.rel.tok n hr
      unfold TkR at h0 ⊢
      rw [(over_at hf h2).2]
      exact h0
  · have key : ∀ n k x, memL post n ≠ none → Holds gc' (memL post) n x → invOf ρ post k = none → Holds g m k x → False := fun n k x hn hh hi hk => by
      obtain ⟨n', h3⟩ := hfin.st.holdm n x (hR.holds_lt hk) hh
      obtain ⟨h4, h5⟩ := holds_under hf h3
      exact invOf_none hi n' (hG.dom n' h5) (hR.inj _ _ x hk h4)
    rcases holds_over hf h1 with ⟨n, rfl, hn, h3⟩ | ⟨hi, h3⟩ <;> rcases holds_over hf h2 with ⟨n', rfl, hn', h4⟩ | ⟨hi', h4⟩
    · rw [hfin.rel.inj n n' x h3 h4]
    · exact (key n k' x hn h3 hi' h4).elim
    · exact (key n' k x hn' h4 hi h3).elim
    · exact hR.inj k k' x h3 h4
  · exact hfin.st.frame x hx (fun n ho => hno (ρ n) (owns_under hf ho).1)
  · rcases owns_over hf ho with ⟨n, rfl, hn, h3⟩ | ⟨_, h3⟩
    · obtain ⟨n', h4⟩ := hfin.st.ownm n x hx h3
      exact ⟨ρ n', (owns_under hf h4).1⟩
    · exact ⟨k, h3⟩
  · rcases holds_over hf ho with ⟨n, rfl, hn, h3⟩ | ⟨_, h3⟩
    · obtain ⟨n', h4⟩ := hfin.st.holdm n x hx h3
      exact ⟨ρ n', (holds_under hf h4).1⟩
    · exact ⟨k, h3⟩
  · rw [applyM_get hf.inj]
    cases hi : invOf ρ post k with
    | none => exact hk
    | some n =>
      obtain ⟨_, h2⟩ := invOf_some hi
      simp only [ne_eq, Option.map_eq_none_iff]
      exact h2
end
end Go.Shade

/- Rows of operations, code, functions. Own work. -/
namespace Go.Shade
open Go

def putE (env : Nat → AV) (dst : Option Nat) (r : AV) : Nat → AV := match dst with
  | some d => upd env d r
  | none => env
/-- Whatever reads as the one reads as the other. -/
def AV.Le (a b : AV) : Prop := ∀ g h v, VR g h a v → VR g h b v
def LeL (as bs : List AV) : Prop := as.length = bs.length ∧ ∀ (i : Nat) a b, as[i]? = some a → bs[i]? = some b → a.Le b

/-- What a function began with: names that stay, what is deferred. -/
structure RD where
  on : Nat → Prop
  D : List Deferred
abbrev rd (pre : ML) : RD := ⟨fun n => memL pre n ≠ none, []⟩

/-- What is known of the machine at a place: the environment, memory; and since when. -/
structure IS (Γ : Globs) (N : Nat) (R : RD) (g0 : Gh) (w0 : World) (m0 : Mem) (g : Gh) (w : World) (a : Act) (env : Nat → AV) (m : Mem) : Prop where
  rel : RelS Γ N g w a env m
  st : St g0 w0 m0 g w m
  nm : ∀ n, R.on n → m n ≠ none ∧ g.σ n = g0.σ n ∧ g.τ n = g0.τ n
  dfs : a.defers = R.D

inductive EX where
  | normal
  | exit (id : Nat)
  | ret
  | pan (v : Value)

abbrev QS := EX → (Nat → AV) → Mem → Prop

def Lift (Γ : Globs) (N : Nat) (R : RD) (g0 : Gh) (w0 : World) (m0 : Mem) (Q : QS) : Exit → Act → World → Prop
  | .normal, a, w => ∃ g env m, IS Γ N R g0 w0 m0 g w a env m ∧ Q .normal env m
  | .exit id, a, w => ∃ g env m, IS Γ N R g0 w0 m0 g w a env m ∧ Q (.exit id) env m
  | .ret, a, w => ∃ g env m, IS Γ N R g0 w0 m0 g w a env m ∧ Q .ret env m
  | .panic ch, a, w => ∃ v g env m, ch = [{ v := v, recovered := false }] ∧ IS Γ N R g0 w0 m0 g w a env m ∧ Q (.pan v) env m
  | _, _, _ => False

/-- A call, by a contract. -/
def callO (P : Program) (Γ : Globs) (pn : Value → (Nat → AV) → Mem → Prop) (fv : AV) (args : List AV) (dst : Option Nat) (env : Nat → AV) (m : Mem) (K : (Nat → AV) → Mem → Prop) : Prop :=
  (∃ f first cap args' pre e post ρ, fv = .fn (.func f) first cap ∧ LeL (first ++ args ++ cap) (renL ρ args') ∧ Good P Γ f args' pre e post ∧ Fits m pre post ρ ∧
    match e with
    | .ret r => K (putE env dst (r.ren ρ)) (applyM m ρ post)
    | .pan v => pn v env (applyM m ρ post)) ∨
  (∃ (f : FuncId) (first cap args' : List AV) (pre : ML) (ρ : Nat → Nat) (r : (Nat → Nat) → AV) (post : (Nat → Nat) → ML), fv = .fn (.func f) first cap ∧ LeL (first ++ args ++ cap) (renL ρ args') ∧ GoodI P Γ f args' pre r post ∧ (∀ i, Fits m pre (post i) ρ) ∧
    ∀ i, K (putE env dst ((r i).ren ρ)) (applyM m ρ (post i)))

/-- Is it nil? It may be open. -/
def nilV : AV → Option (Option Bool)
  | .p (.s (.slice none 0 0)) => some (some true)
  | .p (.sl _ xs) => some (if 0 < xs.flatten.length then some false else none)
  | .own _ _ xs => some (if 0 < xs.flatten.length then some false else none)
  | _ => none
def nilO (neg : Bool) (a : AV) (K : AV → Prop) : Prop := match nilV a with
  | some (some b) => K (.bool (b != neg))
  | some none => K (.bool true) ∧ K (.bool false)
  | none => False

def stepO (P : Program) (Γ : Globs) (pn : Value → (Nat → AV) → Mem → Prop) (o : CO) (env : Nat → AV) (m : Mem) (K : (Nat → AV) → Mem → Prop) : Prop :=
  match o.op with
  | .call f args => callO P Γ pn (f.ev Γ env) (args.map (X.ev Γ env)) o.dst env m K
  | .panic x => match x.ev Γ env with
    | .p (.s (.iface t v)) => pn (.iface t v) env m
    | _ => False
  | .isnil neg x => nilO neg (x.ev Γ env) fun r => K (putE env o.dst r) m
  | c => match cpure Γ env c with
    | some r => K (putE env o.dst r) m
    | none => ∃ nm, match cmem Γ env m nm c with
      | some (r, m') => K (putE env o.dst r) m'
      | none => False

/-- What an operation leaves that is not wanted. -/
abbrev undA : AV := .p (.s (.tuple #[]))
def runOps (P : Program) (Γ : Globs) (pn : Value → (Nat → AV) → Mem → Prop) : List CO → (Nat → AV) → Mem → ((Nat → AV) → Mem → Prop) → Prop
  | [], env, m, K => K env m
  | o :: l, env, m, K => match o.guard with
    | none => stepO P Γ pn o env m (fun env m => runOps P Γ pn l env m K)
    | some (s, b) => match env s with
      | .p (.s (.bool t)) => if t = b then stepO P Γ pn o env m (fun env m => runOps P Γ pn l env m K) else runOps P Γ pn l (putE env o.dst undA) m K
      | .p (.s (.tuple _)) => runOps P Γ pn l (putE env o.dst undA) m K
      | _ => False

theorem stepO_mono {P : Program} {Γ : Globs} {pn pn' : Value → (Nat → AV) → Mem → Prop} {o : CO} {env : Nat → AV} {m : Mem} {K K' : (Nat → AV) → Mem → Prop} (h : stepO P Γ pn o env m K) (hK : ∀ env m, K env m → K' env m) (hp : ∀ v env m, pn v env m → pn' v env m) :
    stepO P Γ pn' o env m K' := by
  unfold stepO at *
  split
  · rename_i f args ho
    simp only [ho] at h
    rcases h with ⟨g, first, cap, args', pre, e, post, ρ, h1, h2, h3, h4, h5⟩ | ⟨g, first, cap, args', pre, ρ, r, post, h1, h2, h3, h4, h5⟩
    · refine .inl ⟨g, first, cap, args', pre, e, post, ρ, h1, h2, h3, h4, ?_⟩
      cases e with
      | ret r => exact hK _ _ h5
      | pan v => exact hp _ _ _ h5
    · exact .inr ⟨g, first, cap, args', pre, ρ, r, post, h1, h2, h3, h4, fun i => hK _ _ (h5 i)⟩
  · rename_i x ho
    simp only [ho] at h
    split at h
    · exact hp _ _ _ h
    · exact h.elim
  · rename_i neg x ho
    simp only [ho] at h
    unfold nilO at *
    split at h
    · exact hK _ _ h
    · exact ⟨hK _ _ h.1, hK _ _ h.2⟩
    · exact h.elim
  · rename_i h1 h2 h3
    have h' : (match cpure Γ env o.op with
      | some r => K (putE env o.dst r) m
      | none => ∃ nm, match cmem Γ env m nm o.op with
        | some (r, m') => K (putE env o.dst r) m'
        | none => False) := by
      revert h
      split
      · rename_i f args ho; exact absurd ho (h1 f args)
      · rename_i x ho; exact absurd ho (h2 x)
      · rename_i neg x ho; exact absurd ho (h3 neg x)
      · exact id
    cases hc : cpure Γ env o.op with
    | some r => simp only [hc] at h' ⊢; exact hK _ _ h'
    | none =>
      simp only [hc] at h' ⊢
      obtain ⟨nm, h'⟩ := h'
      refine ⟨nm, ?_⟩
      cases hm : cmem Γ env m nm o.op with
      | some p => simp only [hm] at h' ⊢; exact hK _ _ h'
      | none => simp only [hm] at h'

def loudOp : Op → Bool
  | .call { callee := .value _, .. } | .panic _ => true
  | _ => false
def COp.loud : COp → Bool
  | .call _ _ | .panic _ | .ext .mkz _ | .ext (.f64 _) _ => true
  | _ => false
def cDst (N : Nat) : Option Nat → Option (Option Nat)
  | none => some none
  | some d => if d < N then some (some d) else none
def cGuard (N : Nat) (ops : Array Oper) : Option (Nat × Bool) → Option (Option (Nat × Bool))
  | none => some none
  | some (j, b) => (ops[j]?).bind fun q => q.dst.bind fun d => if d < N then some (some (d, b)) else none
/-- A slice against nil. -/
def cnil (P : Program) (N : Nat) (o : Oper) : Option COp := match o.op with
  | .binOp .eql t x (.const (.slice none 0 0)) _ => match P.underlying t, cX N x with
    | some (.slice _), some x => some (.isnil false x)
    | _, _ => none
  | .binOp .neq t x (.const (.slice none 0 0)) _ => match P.underlying t, cX N x with
    | some (.slice _), some x => some (.isnil true x)
    | _, _ => none
  | _ => none
def COp.isNil : COp → Bool
  | .isnil _ _ => true
  | _ => false
def COp.isExt : COp → Bool
  | .ext _ _ => true
  | _ => false
def copN (P : Program) (N : Nat) (o : Oper) : Option COp := match cnil P N o with
  | some c => some c
  | none => match copX P N o with
    | some c => if c.isExt then some c else none
    | none => match cop P N o with
      | some c => if c.isNil || c.isExt then none else some c
      | none => none
theorem copN_cases {P : Program} {N : Nat} {o : Oper} {c : COp} (h : copN P N o = some c) : (cnil P N o = some c ∧ c.isNil = true) ∨ (copX P N o = some c ∧ c.isExt = true) ∨ (cop P N o = some c ∧ c.isNil = false ∧ c.isExt = false) := by
  unfold copN at h
  split at h
  · rename_i c' hc
    cases h
    refine .inl ⟨hc, ?_⟩
    unfold cnil at hc
    split at hc
    · split at hc
      · cases hc; rfl
      · cases hc
    · split at hc
      · cases hc; rfl
      · cases hc
    · cases hc
  · split at h
    · rename_i c' hc
      split at h
      · rename_i hx
        cases h
        exact .inr (.inl ⟨hc, hx⟩)
      · cases h
    · split at h
      · rename_i c' hc
        split at h
        · cases h
        · rename_i hn
          cases h
          simp only [Bool.or_eq_true, not_or, Bool.not_eq_true] at hn
          exact .inr (.inr ⟨hc, hn.1, hn.2⟩)
      · cases h
theorem cop_of {P : Program} {N : Nat} {o : Oper} {c : COp} (h : copN P N o = some c) (hn : c.isNil = false) (hx : c.isExt = false) : cop P N o = some c := by
  rcases copN_cases h with ⟨_, h'⟩ | ⟨_, h'⟩ | ⟨h', _⟩
  · rw [hn] at h'; cases h'
  · rw [hx] at h'; cases h'
  · exact h'
theorem er_cases (c : COp) : c.er = c ∨ (∃ sz ln x lo hi, c = .ext (.mslice sz ln (Option.isSome lo) (Option.isSome hi)) (x :: (Option.toList lo ++ Option.toList hi)) ∧ c.er = .aslice sz ln x lo hi) ∨ ∃ sz b z xs, c = .ext (.mks sz b z true) xs ∧ c.er = .ext (.mks sz b z false) xs := by
  unfold COp.er
  split
  · rename_i sz ln x; exact .inr (.inl ⟨sz, ln, x, none, none, rfl, rfl⟩)
  · rename_i sz ln x a; exact .inr (.inl ⟨sz, ln, x, some a, none, rfl, rfl⟩)
  · rename_i sz ln x b; exact .inr (.inl ⟨sz, ln, x, none, some b, rfl, rfl⟩)
  · rename_i sz ln x a b; exact .inr (.inl ⟨sz, ln, x, some a, some b, rfl, rfl⟩)
  · rename_i sz b z xs; exact .inr (.inr ⟨sz, b, z, xs, rfl, rfl⟩)
  · exact .inl rfl
def cO (P : Program) (N : Nat) (ops : Array Oper) (o : Oper) : Option CO :=
  match copN P N o, cDst N o.dst, cGuard N ops o.guard with
  | some op, some dst, some guard => if op.loud = loudOp o.op then some { dst, op, guard } else none
  | _, _, _ => none

section
variable {P : Program} {N : Nat} {Γ : Globs} {R : RD} {g0 g g' : Gh} {w0 w w' : World} {m0 m m' : Mem} {a : Act} {env : Nat → AV} {o : Oper} {c : CO}

theorem RelS.put (hS : RelS Γ N g w a env m) (ho : Out Γ g w m g' w' m') {r : AV} {v : Value} (hv : VR g' w'.heap r v) (dst : Option Nat) : RelS Γ N g' w' (a.put dst v) (putE env dst r) m' := by
  cases dst with
  | none => exact ⟨ho.rel, hS.size, fun i v h => ho.vr (hS.env i v h)⟩
  | some d =>
    refine ⟨ho.rel, by simpa [Act.put] using hS.size, fun i u h => ?_⟩
    simp only [Act.put, putE] at h ⊢
    by_cases hi : i = d
    · subst hi
      rw [upd_same]
      rw [Array.getElem?_setIfInBounds] at h
      simp only [if_true] at h
      split at h
      · cases h; exact hv
      · cases h
    · rw [upd_ne _ _ hi]
      rw [Array.getElem?_setIfInBounds_ne (Ne.symm hi)] at h
      exact ho.vr (hS.env i u h)

theorem IS.put (hS : IS Γ N R g0 w0 m0 g w a env m) (ho : Out Γ g w m g' w' m') {r : AV} {v : Value} (hv : VR g' w'.heap r v) (dst : Option Nat) : IS Γ N R g0 w0 m0 g' w' (a.put dst v) (putE env dst r) m' :=
  ⟨hS.rel.put ho hv dst, hS.st.trans ho.st, fun n hn => by
    obtain ⟨h1, h2, h3⟩ := hS.nm n hn
    exact ⟨ho.dom n h1, (ho.names n h1).1.trans h2, (ho.names n h1).2.trans h3⟩, by cases dst <;> exact hS.dfs⟩

theorem IS.junk (hS : IS Γ N R g0 w0 m0 g w a env m) (dst : Option Nat) : IS Γ N R g0 w0 m0 g w (a.put dst undef) (putE env dst undA) m := hS.put (Out.refl hS.rel.rel) (.p (.s _)) dst

theorem upon_did {K : Act → World → Prop} {Q : Exit → Act → World → Prop} {v : Value} (hd : Did P a w o v w') (hk : K (a.put o.dst v) w') : o.wp P a w K Q := by
  unfold Oper.wp
  rcases hd with h | ⟨h, rfl⟩
  · rw [h]; exact hk
  · rw [h]; exact hk

theorem does_did {v : Value} (h : Does P a w o v) : Did P a w o v w := .inl h

theorem vl_renL {ρ : Nat → Nat} {pre : ML} {args' : List AV} {vl : List Value} (hn : ∀ n ∈ namesL args', memL pre n ≠ none) {as : List AV} (hle : LeL as (renL ρ args')) (hv : VL g w.heap as vl) : VL (under g ρ (memL pre)) w.heap args' vl := by
  rw [renL_map] at hle
  refine ⟨?_, fun i b v hb hvv => ?_⟩
  · have := hle.1
    rw [List.length_map] at this
    rw [← hv.1, this]
  · have hib : (args'.map (AV.ren ρ))[i]? = some (b.ren ρ) := by rw [List.getElem?_map, hb]; rfl
    have hlt : i < as.length := by rw [hle.1, List.length_map]; exact (List.getElem?_eq_some_iff.1 hb).1
    have h1 := hv.2 i _ v (List.getElem?_eq_getElem hlt) hvv
    exact vr_under (fun n hnn => hn n (mem_namesL.2 ⟨b, List.mem_of_getElem? hb, hnn⟩)) (hle.2 i _ _ (List.getElem?_eq_getElem hlt) hib g w.heap v h1)

theorem cXs_vl (hS : RelS Γ N g w a env m) {l : List Operand} {l' : List X} (h : cXs N l = some l') : VL g w.heap (l'.map (X.ev Γ env)) (l.map a.eval) := by
  obtain ⟨h1, h2⟩ := cXs_sound hS h
  exact ⟨by simp [h1], h2⟩

theorem call_step (hS : IS Γ N R g0 w0 m0 g w a env m) {f : Operand} {args : Array Operand} {ts : Array TypeId} {f' : X} {args' : List X} (ho : o.op = .call { callee := .value f, args, argTypes := ts }) (hf : cX N f = some f') (ha : cXs N args.toList = some args') {dst : Option Nat} (hd : o.dst = dst)
    {K : Act → World → Prop} {Q : Exit → Act → World → Prop} {K' : (Nat → AV) → Mem → Prop} {pn : Value → (Nat → AV) → Mem → Prop} (hc : callO P Γ pn (f'.ev Γ env) (args'.map (X.ev Γ env)) dst env m K')
    (hK : ∀ g w a env m, IS Γ N R g0 w0 m0 g w a env m → K' env m → K a w) (hP : ∀ v g w a env m, IS Γ N R g0 w0 m0 g w a env m → pn v env m → Q (.panic [{ v := v, recovered := false }]) a w) : o.wp P a w K Q := by
  subst hd
  rcases hc with ⟨fn, first, cap, bs, pre, e, post, ρ, hfv, hle, hG, hfit, hpost⟩ | ⟨fn, first, cap, bs, pre, ρ, rf, post, hfv, hle, hG, hfit, hpost⟩
  · have hfr := cX_sound hS.rel hf
    rw [hfv] at hfr
    generalize hq : a.eval f = q at hfr
    cases hfr with
    | fn l1 r1 l2 r2 =>
      rename_i vf vc
      obtain ⟨F, hF, hbody, hname⟩ := hG.call
      have hrun : (execOp a.eval o).run P w = .ok (.enter fn (vf ++ args.map a.eval ++ vc)) w := by
        unfold execOp
        simp only [ho, resolve, hq, Deferred.ofValue, Sem.run_bind, Sem.run_pure, Result.andThen_ok, invoke, callFunc]
        have hb : F.body.isNone = false := by cases hbb : F.body <;> simp_all
        have hpr : (program).run P w = .ok P w := rfl
        simp only [hpr, Result.andThen_ok, hF, hname, Bool.false_eq_true, if_false, hb, Sem.run_pure]
      unfold Oper.wp
      rw [hrun]
      have hvl : VL g w.heap (first ++ args'.map (X.ev Γ env) ++ cap) (vf.toList ++ args.toList.map a.eval ++ vc.toList) :=
        ((VRs.list ⟨l1, r1⟩).append (cXs_vl hS.rel ha)).append (VRs.list ⟨l2, r2⟩)
      have hcall := hG.run (under g ρ (memL pre)) w _ (rel_under hG.toF hS.rel.rel hfit) (vl_renL hG.an hle hvl)
      have hargs : (vf.toList ++ args.toList.map a.eval ++ vc.toList).toArray = vf ++ args.map a.eval ++ vc := by
        apply Array.ext'
        simp
      rw [hargs] at hcall
      refine hcall.mono (fun en w' hp => ?_)
      cases en with
      | returned v =>
        obtain ⟨r, gc', rfl, hfin, hv⟩ := hp
        have hout := call_out hG.toF hS.rel.rel hfit hfin
        exact hK _ _ _ _ _ (hS.put hout (vr_over hfit hG.rn hv) o.dst) hpost
      | panicked ch =>
        obtain ⟨v, gc', rfl, rfl, hfin⟩ := hp
        have hout := call_out hG.toF hS.rel.rel hfit hfin
        have hIS : IS Γ N R g0 w0 m0 (over g gc' ρ post) w' (a.put none undef) (putE env none .junk) (applyM m ρ post) := hS.put hout .junk none
        exact hP v _ _ _ _ _ hIS hpost
      | outgrown => exact hp.elim
  · have hfr := cX_sound hS.rel hf
    rw [hfv] at hfr
    generalize hq : a.eval f = q at hfr
    cases hfr with
    | fn l1 r1 l2 r2 =>
      rename_i vf vc
      obtain ⟨F, hF, hbody, hname⟩ := (hG.st id).call
      have hrun : (execOp a.eval o).run P w = .ok (.enter fn (vf ++ args.map a.eval ++ vc)) w := by
        unfold execOp
        simp only [ho, resolve, hq, Deferred.ofValue, Sem.run_bind, Sem.run_pure, Result.andThen_ok, invoke, callFunc]
        have hb : F.body.isNone = false := by cases hbb : F.body <;> simp_all
        have hpr : (program).run P w = .ok P w := rfl
        simp only [hpr, Result.andThen_ok, hF, hname, Bool.false_eq_true, if_false, hb, Sem.run_pure]
      unfold Oper.wp
      rw [hrun]
      have hvl : VL g w.heap (first ++ args'.map (X.ev Γ env) ++ cap) (vf.toList ++ args.toList.map a.eval ++ vc.toList) :=
        ((VRs.list ⟨l1, r1⟩).append (cXs_vl hS.rel ha)).append (VRs.list ⟨l2, r2⟩)
      have hcall := hG.run (under g ρ (memL pre)) w _ (rel_under (hG.st id) hS.rel.rel (hfit id)) (vl_renL (hG.st id).an hle hvl)
      have hargs : (vf.toList ++ args.toList.map a.eval ++ vc.toList).toArray = vf ++ args.map a.eval ++ vc := by
        apply Array.ext'
        simp
      rw [hargs] at hcall
      refine hcall.mono (fun en w' hp => ?_)
      obtain ⟨i, hp⟩ := hp
      cases en with
      | returned v =>
        obtain ⟨r, gc', he, hfin, hv⟩ := hp
        cases he
        have hout := call_out (hG.st i) hS.rel.rel (hfit i) hfin
        exact hK _ _ _ _ _ (hS.put hout (vr_over (hfit i) (hG.st i).rn hv) o.dst) (hpost i)
      | panicked ch =>
        obtain ⟨v, gc', he, _⟩ := hp
        cases he
      | outgrown => exact hp.elim

theorem cO_op {ops : Array Oper} (h : cO P N ops o = some c) : copN P N o = some c.op ∧ o.dst = c.dst ∧ c.op.loud = loudOp o.op ∧ ((o.guard = none ∧ c.guard = none) ∨ ∃ j b q d, o.guard = some (j, b) ∧ ops[j]? = some q ∧ q.dst = some d ∧ d < N ∧ c.guard = some (d, b)) := by
  unfold cO at h
  split at h
  · rename_i op dst gd hop hdst hg
    split at h
    · rename_i hl
      cases h
      refine ⟨hop, ?_, hl, ?_⟩
      · cases hd : o.dst with
        | none => rw [hd] at hdst; simp [cDst] at hdst; exact hdst
        | some d =>
          rw [hd] at hdst
          simp only [cDst] at hdst
          split at hdst
          · cases hdst; rfl
          · cases hdst
      · cases hgg : o.guard with
        | none => rw [hgg] at hg; simp [cGuard] at hg; exact .inl ⟨rfl, hg.symm⟩
        | some p =>
          obtain ⟨j, b⟩ := p
          rw [hgg] at hg
          simp only [cGuard] at hg
          obtain ⟨q, hq, hg⟩ := Option.bind_eq_some_iff.1 hg
          obtain ⟨d, hd, hg⟩ := Option.bind_eq_some_iff.1 hg
          split at hg
          · rename_i hdN
            cases hg
            exact .inr ⟨j, b, q, d, rfl, hq, hd, hdN, rfl⟩
          · cases hg
    · cases h
  · cases h

theorem loud_or {q : Op} (h : loudOp q = true) : (∃ f args ts, q = .call { callee := .value f, args, argTypes := ts }) ∨ ∃ x, q = .panic x := by
  unfold loudOp at h
  split at h
  · exact .inl ⟨_, _, _, rfl⟩
  · exact .inr ⟨_, rfl⟩
  · cases h

/-- What a quiet operation comes to, it does. -/
def Quiet (P : Program) (Γ : Globs) (N : Nat) (o : Oper) (c : COp) : Prop := ∀ g w a env m, RelS Γ N g w a env m → (∀ r, cpure Γ env c = some r → ∃ v, Does P a w o v ∧ VR g w.heap r v) ∧
  ∀ nm r m', cmem Γ env m nm c = some (r, m') → ∃ v g' w', Did P a w o v w' ∧ Out Γ g w m g' w' m' ∧ VR g' w'.heap r v
theorem quiet_ext {e : EOp} {xs : List X} (hc : copX P N o = some (.ext e xs)) : Quiet P Γ N o (.ext e xs) := fun _ _ _ env m hS => by
  obtain ⟨h1, h2⟩ := ext_sound hS hc
  refine ⟨fun r h => h1 r h, fun nm r m' h => ?_⟩
  simp only [cmem] at h
  obtain ⟨⟨r', us⟩, he, hh⟩ := Option.map_eq_some_iff.1 h
  simp only [Prod.mk.injEq] at hh
  obtain ⟨rfl, rfl⟩ := hh
  exact h2 nm _ us he
theorem quiet_er {q : COp} (hc : copN P N o = some q.er) (h1 : ∀ neg x, q ≠ .isnil neg x) : Quiet P Γ N o q := by
  rcases er_cases q with he | ⟨sz, ln, x, lo, hi, rfl, he⟩ | ⟨sz, b, z, xs, rfl, he⟩
  · rw [he] at hc
    rcases copN_cases hc with ⟨_, h⟩ | ⟨h, hx⟩ | ⟨h, _⟩
    · cases q <;> simp [COp.isNil] at h
      exact absurd rfl (h1 _ _)
    · cases q <;> simp [COp.isExt] at hx
      exact quiet_ext h
    · exact fun _ _ _ _ _ hS => ⟨fun _ hv => pure_sound hS h hv, fun _ _ _ hv => mem_sound hS h hv⟩
  · rw [he] at hc
    have hc := cop_of hc rfl rfl
    refine fun g w a env m hS => ⟨fun r hv => ?_, fun nm r m' hv => by simp [cmem, eMem] at hv⟩
    simp only [cpure, List.map_cons] at hv
    exact mslice_sound hS hc hv
  · rw [he] at hc
    have hc : copX P N o = some (.ext (.mks sz b z false) xs) := by
      rcases copN_cases hc with ⟨_, h⟩ | ⟨h, _⟩ | ⟨_, _, h⟩
      · simp [COp.isNil] at h
      · exact h
      · simp [COp.isExt] at h
    refine fun g w a env m hS => ⟨fun r hv => by simp [cpure, ePure] at hv, fun nm r m' hv => ?_⟩
    simp only [cmem] at hv
    obtain ⟨⟨r', us⟩, he, hh⟩ := Option.map_eq_some_iff.1 hv
    simp only [Prod.mk.injEq] at hh
    obtain ⟨rfl, rfl⟩ := hh
    exact mks_sound hS hc he

theorem quiet_step (hS : IS Γ N R g0 w0 m0 g w a env m) (hq : Quiet P Γ N o c.op) (hd : o.dst = c.dst) {K : Act → World → Prop} {Q : Exit → Act → World → Prop} {K' : (Nat → AV) → Mem → Prop}
    (hs : match cpure Γ env c.op with
      | some r => K' (putE env c.dst r) m
      | none => ∃ nm, match cmem Γ env m nm c.op with
        | some (r, m') => K' (putE env c.dst r) m'
        | none => False)
    (hK : ∀ g w a env m, IS Γ N R g0 w0 m0 g w a env m → K' env m → K a w) : o.wp P a w K Q := by
  obtain ⟨hp, hm⟩ := hq _ _ _ _ _ hS.rel
  split at hs
  · rename_i r hr
    obtain ⟨v, hv, hvr⟩ := hp r hr
    exact upon_did (does_did hv) (hK _ _ _ _ _ (hS.put (Out.refl hS.rel.rel) hvr o.dst) (by rw [hd]; exact hs))
  · obtain ⟨nm, hs⟩ := hs
    split at hs
    · rename_i r m' hr
      obtain ⟨v, g', w', hv, hout, hvr⟩ := hm nm r m' hr
      exact upon_did hv (hK _ _ _ _ _ (hS.put hout hvr o.dst) (by rw [hd]; exact hs))
    · exact hs.elim

theorem nil_value {b : AV} {v : Value} (hV : VR g w.heap b v) {q : Option Bool} (hq : nilV b = some q) : ∃ A n k, v = .slice A n k ∧ ∀ t, q = some t → A.isNone = t := by
  unfold nilV at hq
  split at hq
  · cases hq
    cases hV with
    | p hr => cases hr with
      | s => exact ⟨none, 0, 0, rfl, fun t h => by cases h; rfl⟩
  · cases hq
    cases hV with
    | p hr => cases hr with
      | sl f hn hc hm hcm hsz hp hr =>
        refine ⟨_, _, _, rfl, fun t h => ?_⟩
        split at h
        · rename_i hl
          obtain ⟨ad, _, _, _, _, rfl, _⟩ := hp hl
          cases h
          rfl
        · cases h
  · cases hq
    cases hV with
    | own hr _ => cases hr with
      | sl f hn hc hm hcm hsz hp hr =>
        refine ⟨_, _, _, rfl, fun t h => ?_⟩
        split at h
        · rename_i hl
          obtain ⟨ad, _, _, _, _, rfl, _⟩ := hp hl
          cases h
          rfl
        · cases h
  · cases hq

theorem nil_step (hS : IS Γ N R g0 w0 m0 g w a env m) {neg : Bool} {x' : X} (hc : copN P N o = some (.isnil neg x')) (hd : o.dst = c.dst) {K : Act → World → Prop} {Q : Exit → Act → World → Prop} {K' : (Nat → AV) → Mem → Prop}
    (hs : nilO neg (x'.ev Γ env) fun r => K' (putE env c.dst r) m) (hK : ∀ g w a env m, IS Γ N R g0 w0 m0 g w a env m → K' env m → K a w) : o.wp P a w K Q := by
  have key : ∃ op t u x y e, o.op = .binOp op t x y u ∧ P.underlying t = some (.slice e) ∧ cX N x = some x' ∧ a.eval y = .slice none 0 0 ∧ ((op = .eql ∧ neg = false) ∨ (op = .neq ∧ neg = true)) := by
    have hc := ((copN_cases hc).resolve_right (fun h => by rcases h with ⟨_, h⟩ | ⟨_, h, _⟩ <;> simp [COp.isNil, COp.isExt] at h)).1
    unfold cnil at hc
    split at hc
    · rename_i ho
      split at hc
      · rename_i e x'' hu hx
        cases hc
        exact ⟨_, _, _, _, _, e, ho, hu, hx, rfl, .inl ⟨rfl, rfl⟩⟩
      · cases hc
    · rename_i ho
      split at hc
      · rename_i e x'' hu hx
        cases hc
        exact ⟨_, _, _, _, _, e, ho, hu, hx, rfl, .inr ⟨rfl, rfl⟩⟩
      · cases hc
    · cases hc
  obtain ⟨op, t, u, x, y, e, ho, hu, hx, hy, hop⟩ := key
  have hV := cX_sound hS.rel hx
  have done : ∀ q, nilV (x'.ev Γ env) = some q → ∃ b : Bool, Did P a w o (.bool (b != neg)) w ∧ ∀ t, q = some t → b = t := by
    intro q hq
    obtain ⟨A, n, k, hv, hA⟩ := nil_value hV hq
    refine ⟨A.isNone, .inl ?_, hA⟩
    unfold execOp
    simp only [ho, hv, hy]
    refine exec_val' ?_
    have hg : eqGuard op t x y (.slice A n k) (.slice none 0 0) = pure () := by
      unfold eqGuard
      rcases hop with ⟨rfl, _⟩ | ⟨rfl, _⟩ <;> rfl
    rw [hg]
    have he := run_equal_slice_nil w t e A n k hu
    rcases hop with ⟨rfl, rfl⟩ | ⟨rfl, rfl⟩
    · simp only [binOp]
      simp [he]
    · simp only [binOp]
      simp [he]
  unfold nilO at hs
  split at hs
  · rename_i b hq
    obtain ⟨b', h1, h2⟩ := done _ hq
    rw [h2 b rfl] at h1
    exact upon_did h1 (hK _ _ _ _ _ (hS.put (Out.refl hS.rel.rel) (.p (.s _)) o.dst) (by rw [hd]; exact hs))
  · rename_i hq
    obtain ⟨b', h1, _⟩ := done _ hq
    refine upon_did h1 (hK _ _ _ _ _ (hS.put (Out.refl hS.rel.rel) (.p (.s _)) o.dst) ?_)
    rw [hd]
    cases h : (b' != neg) with
    | true => exact hs.1
    | false => exact hs.2
  · exact hs.elim

theorem step_sound (hS : IS Γ N R g0 w0 m0 g w a env m) {ops : Array Oper} (hcO : cO P N ops o = some c.er) {K : Act → World → Prop} {Q : Exit → Act → World → Prop} {K' : (Nat → AV) → Mem → Prop} {pn : Value → (Nat → AV) → Mem → Prop} (hs : stepO P Γ pn c env m K')
    (hK : ∀ g w a env m, IS Γ N R g0 w0 m0 g w a env m → K' env m → K a w) (hP : ∀ v g w a env m, IS Γ N R g0 w0 m0 g w a env m → pn v env m → Q (.panic [{ v := v, recovered := false }]) a w) : o.wp P a w K Q := by
  obtain ⟨hc, hd, hl, _⟩ := cO_op hcO
  have hd : o.dst = c.dst := hd
  have hc : copN P N o = some c.op.er := hc
  have hl : c.op.er.loud = loudOp o.op := hl
  unfold stepO at hs
  split at hs
  · rename_i f' args' hop
    rw [hop] at hl hc
    have hc : cop P N o = some (.call f' args') := cop_of hc rfl rfl
    rcases loud_or hl.symm with ⟨f, args, ts, ho⟩ | ⟨x, ho⟩
    · simp only [cop, ho, bind, Option.bind_eq_some_iff, pure, Option.some.injEq, COp.call.injEq] at hc
      obtain ⟨x, hx, y, hy, rfl, rfl⟩ := hc
      exact call_step hS ho hx hy hd hs hK hP
    · simp only [cop, ho, bind, Option.bind_eq_some_iff, pure, Option.some.injEq, reduceCtorEq, and_false, exists_false] at hc
  · rename_i x' hop
    rw [hop] at hl hc
    have hc : cop P N o = some (.panic x') := cop_of hc rfl rfl
    rcases loud_or hl.symm with ⟨f, args, ts, ho⟩ | ⟨x, ho⟩
    · simp only [cop, ho, bind, Option.bind_eq_some_iff, pure, Option.some.injEq, reduceCtorEq, and_false, exists_false] at hc
    · simp only [cop, ho, bind, Option.bind_eq_some_iff, pure, Option.some.injEq, COp.panic.injEq] at hc
      obtain ⟨y, hy, rfl⟩ := hc
      split at hs
      · rename_i t v hev
        have hxv := cX_sound hS.rel hy
        rw [hev] at hxv
        have hxv := vr_s hxv
        unfold Oper.wp
        have hrun : (execOp a.eval o).run P w = .halt (.panic (.iface t v)) w := by
          unfold execOp
          simp only [ho, hxv, Instr.panic, goPanic]
          rfl
        rw [hrun]
        exact hP _ _ _ _ _ _ hS hs
      · exact hs.elim
  · rename_i neg x hop
    rw [hop] at hc
    exact nil_step hS hc hd hs hK
  · rename_i h3
    exact quiet_step hS (quiet_er hc (fun neg x e => h3 neg x e)) hd hs hK

theorem guard_wanted (hS : IS Γ N R g0 w0 m0 g w a env m) {ops : Array Oper} {j d : Nat} {b t : Bool} {q : Oper} (hg : o.guard = some (j, b)) (hq : ops[j]? = some q) (hd : q.dst = some d) (he : env d = .p (.s (.bool t))) (hdN : d < N) : Region.wanted o (yielded ops a.tmps) = (t == b) := by
  have hdt : d < a.tmps.size := by rw [hS.rel.size]; exact hdN
  have hv := hS.rel.env d _ (Array.getElem?_eq_getElem hdt)
  rw [he] at hv
  have hv := vr_s hv
  simp only [Region.wanted, hg, yielded, hq, Option.bind_some, hd, Array.getElem?_eq_getElem hdt, hv]
  cases t <;> cases b <;> rfl

theorem guard_not (hS : IS Γ N R g0 w0 m0 g w a env m) {ops : Array Oper} {j d : Nat} {b : Bool} {t : Array Value} {q : Oper} (hg : o.guard = some (j, b)) (hq : ops[j]? = some q) (hd : q.dst = some d) (he : env d = .p (.s (.tuple t))) (hdN : d < N) : Region.wanted o (yielded ops a.tmps) = false := by
  have hdt : d < a.tmps.size := by rw [hS.rel.size]; exact hdN
  have hv := hS.rel.env d _ (Array.getElem?_eq_getElem hdt)
  rw [he] at hv
  have hv := vr_s hv
  simp only [Region.wanted, hg, yielded, hq, Option.bind_some, hd, Array.getElem?_eq_getElem hdt, hv]
  cases b <;> rfl

theorem runOps_sound (ops : Array Oper) {K' : (Nat → AV) → Mem → Prop} {pn : Value → (Nat → AV) → Mem → Prop} {Q : Exit → Act → World → Prop}
    (hK : ∀ g w a env m, IS Γ N R g0 w0 m0 g w a env m → K' env m → Q .normal a w) (hP : ∀ v g w a env m, IS Γ N R g0 w0 m0 g w a env m → pn v env m → Q (.panic [{ v := v, recovered := false }]) a w) :
    ∀ (l : List Oper) (lc : List CO), l.mapM (cO P N ops) = some (lc.map CO.er) → ∀ g w a env m, IS Γ N R g0 w0 m0 g w a env m → runOps P Γ pn lc env m K' → wpList P ops Q l a w
  | [], lc, h, g, w, a, env, m, hS, hr => by
    simp only [List.mapM_nil, pure, Option.some.injEq] at h
    have h : lc = [] := List.map_eq_nil_iff.1 h.symm
    subst h
    exact hK _ _ _ _ _ hS hr
  | o :: l, lc, h, g, w, a, env, m, hS, hr => by
    simp only [List.mapM_cons, bind, Option.bind_eq_some_iff, pure, Option.some.injEq] at h
    obtain ⟨c', hc, lr', hl, hlc⟩ := h
    obtain ⟨c, lr, rfl, rfl, rfl⟩ := List.map_eq_cons_iff.1 hlc.symm
    have ih := runOps_sound ops hK hP l lr hl
    obtain ⟨_, hd, _, hg⟩ := cO_op hc
    have hd : o.dst = c.dst := hd
    simp only [CO.er] at hg
    have step : stepO P Γ pn c env m (fun env m => runOps P Γ pn lr env m K') → o.wp P a w (wpList P ops Q l) Q := fun hs => step_sound hS hc hs ih hP
    unfold wpList
    unfold runOps at hr
    rcases hg with ⟨h1, h2⟩ | ⟨j, b, q, d, h1, h2, h3, hdN, h4⟩
    · rw [h2] at hr
      rw [if_pos (by simp [Region.wanted, h1])]
      exact .inl (step hr)
    · rw [h4] at hr
      simp only at hr
      split at hr
      · rename_i t he
        have hw := guard_wanted hS h1 h2 h3 he hdN
        rw [hw]
        split at hr
        · rename_i htb
          rw [if_pos (by simp [htb])]
          exact .inl (step hr)
        · rename_i htb
          rw [if_neg (by simp [htb]), hd]
          exact ih _ _ _ _ _ (hS.junk c.dst) hr
      · rename_i t he
        rw [guard_not hS h1 h2 h3 he hdN, if_neg (by simp), hd]
        exact ih _ _ _ _ _ (hS.junk c.dst) hr
      · exact hr.elim
end

/-! ### Code -/
inductive CC where
  | skip
  | reg (ops : List CO)
  | regd (ops : List CO) (bef : List (List Nat))
  | seq (a b : CC)
  | cond (c : X) (a b : CC)
  | block (id : Nat) (c : CC)
  | loop (c : CC)
  | exit (id : Nat)
  | ret
  | rest (ls : List Nat) (c : CC)
  | vld (c : CC)

/-- 'rest': these slots alone are kept from here on; it is no code. -/
def erase : CC → CC
  | .seq a b => .seq (erase a) (erase b)
  | .cond c a b => .cond c (erase a) (erase b)
  | .block id c => .block id (erase c)
  | .loop c => .loop (erase c)
  | .rest _ c => erase c
  | .vld c => erase c
  | .reg l => .reg (l.map CO.er)
  | .regd l b => .regd (l.map CO.er) b
  | c => c

def befs (ops : Array Oper) : List (List Nat) := ops.toList.map fun o => (o.after.toList.filter fun e => Region.binds .any e).map (·.on)
def cC (P : Program) (N : Nat) : Code → Option CC
  | .skip => some .skip
  | .region _ ops draw => (ops.toList.mapM (cO P N ops)).map fun l => if draw then .regd l (befs ops) else .reg l
  | .seq a b => match cC P N a, cC P N b with
    | some a, some b => some (.seq a b)
    | _, _ => none
  | .cond c a b => match cX N c, cC P N a, cC P N b with
    | some c, some a, some b => some (.cond c a b)
    | _, _, _ => none
  | .block id c => (cC P N c).map (.block id)
  | .loop c => (cC P N c).map .loop
  | .exit id => some (.exit id)
  | .ret => some .ret
  | _ => none

/-- From this state on the code comes to Q. -/
def Vld (P : Program) (Γ : Globs) (N : Nat) (R : RD) (c : CC) (Q : QS) (env : Nat → AV) (m : Mem) : Prop :=
  ∀ c0, cC P N c0 = some (erase c) → ∀ g0 w0 m0 g w a, IS Γ N R g0 w0 m0 g w a env m → c0.wp P (Lift Γ N R g0 w0 m0 Q) a w

def thenQ (K : (Nat → AV) → Mem → Prop) (Q : QS) : QS
  | .normal, env, m => K env m
  | e, env, m => Q e env m
def blockQ (id : Nat) (Q : QS) : QS
  | .exit id', env, m => if id' = id then Q .normal env m else Q (.exit id') env m
  | e, env, m => Q e env m

section
variable {P : Program} {N : Nat} {Γ : Globs} {R : RD} {Q Q' : QS} {env : Nat → AV} {m : Mem} {c d : CC}

theorem vld_mono (h : Vld P Γ N R c Q env m) (hq : ∀ e env m, Q e env m → Q' e env m) : Vld P Γ N R c Q' env m := by
  intro c0 hc g0 w0 m0 g w a hS
  refine wp_mono (h c0 hc g0 w0 m0 g w a hS) (fun e a w h => ?_)
  cases e with
  | normal => obtain ⟨g, env, m, h1, h2⟩ := h; exact ⟨g, env, m, h1, hq _ _ _ h2⟩
  | exit id => obtain ⟨g, env, m, h1, h2⟩ := h; exact ⟨g, env, m, h1, hq _ _ _ h2⟩
  | goto l => exact h.elim
  | ret => obtain ⟨g, env, m, h1, h2⟩ := h; exact ⟨g, env, m, h1, hq _ _ _ h2⟩
  | panic ch => obtain ⟨v, g, env, m, h0, h1, h2⟩ := h; exact ⟨v, g, env, m, h0, h1, hq _ _ _ h2⟩
  | outgrown => exact h.elim

theorem vld_vld (h : Vld P Γ N R c Q env m) : Vld P Γ N R (.vld c) Q env m := fun c0 hc => h c0 hc
theorem vld_rest {ls : List Nat} (h : Vld P Γ N R c Q env m) : Vld P Γ N R (.rest ls c) Q env m := fun c0 hc => h c0 hc
theorem vld_skip (h : Q .normal env m) : Vld P Γ N R .skip Q env m := by
  intro c0 hc g0 w0 m0 g w a hS
  simp only [erase] at hc
  cases c0 with
  | skip => exact wp_skip ⟨g, env, m, hS, h⟩
  | region id ops dr =>
    simp only [cC] at hc
    obtain ⟨l, _, hl⟩ := Option.map_eq_some_iff.1 hc
    split at hl <;> cases hl
  | seq x y => simp only [cC] at hc; split at hc <;> cases hc
  | cond x y z => simp only [cC] at hc; split at hc <;> cases hc
  | block i x => simp only [cC] at hc; obtain ⟨_, _, hl⟩ := Option.map_eq_some_iff.1 hc; cases hl
  | loop x => simp only [cC] at hc; obtain ⟨_, _, hl⟩ := Option.map_eq_some_iff.1 hc; cases hl
  | _ => cases hc

theorem vld_exit {id : Nat} (h : Q (.exit id) env m) : Vld P Γ N R (.exit id) Q env m := by
  intro c0 hc g0 w0 m0 g w a hS
  simp only [erase] at hc
  cases c0 with
  | exit i => cases hc; exact wp_exit ⟨g, env, m, hS, h⟩
  | region id ops dr =>
    simp only [cC] at hc
    obtain ⟨l, _, hl⟩ := Option.map_eq_some_iff.1 hc
    split at hl <;> cases hl
  | seq x y => simp only [cC] at hc; split at hc <;> cases hc
  | cond x y z => simp only [cC] at hc; split at hc <;> cases hc
  | block i x => simp only [cC] at hc; obtain ⟨_, _, hl⟩ := Option.map_eq_some_iff.1 hc; cases hl
  | loop x => simp only [cC] at hc; obtain ⟨_, _, hl⟩ := Option.map_eq_some_iff.1 hc; cases hl
  | _ => cases hc

theorem vld_ret (h : Q .ret env m) : Vld P Γ N R .ret Q env m := by
  intro c0 hc g0 w0 m0 g w a hS
  simp only [erase] at hc
  cases c0 with
  | ret => exact wp_ret ⟨g, env, m, hS, h⟩
  | region id ops dr =>
    simp only [cC] at hc
    obtain ⟨l, _, hl⟩ := Option.map_eq_some_iff.1 hc
    split at hl <;> cases hl
  | seq x y => simp only [cC] at hc; split at hc <;> cases hc
  | cond x y z => simp only [cC] at hc; split at hc <;> cases hc
  | block i x => simp only [cC] at hc; obtain ⟨_, _, hl⟩ := Option.map_eq_some_iff.1 hc; cases hl
  | loop x => simp only [cC] at hc; obtain ⟨_, _, hl⟩ := Option.map_eq_some_iff.1 hc; cases hl
  | _ => cases hc

theorem vld_reg {l : List CO} (h : runOps P Γ (fun v env m => Q (.pan v) env m) l env m (fun env m => Q .normal env m)) : Vld P Γ N R (.reg l) Q env m := by
  intro c0 hc g0 w0 m0 g w a hS
  simp only [erase] at hc
  cases c0 with
  | region id ops dr =>
    simp only [cC] at hc
    obtain ⟨l', hl', hl⟩ := Option.map_eq_some_iff.1 hc
    split at hl
    · cases hl
    · rename_i hdr
      simp only [CC.reg.injEq] at hl
      subst hl
      have hd : dr = false := by simpa using hdr
      subst hd
      exact wp_region_list (runOps_sound ops (fun g w a env m hS h => ⟨g, env, m, hS, h⟩) (fun v g w a env m hS h => ⟨v, g, env, m, rfl, hS, h⟩) ops.toList l hl' _ _ _ _ _ hS h)
  | seq x y => simp only [cC] at hc; split at hc <;> cases hc
  | cond x y z => simp only [cC] at hc; split at hc <;> cases hc
  | block i x => simp only [cC] at hc; obtain ⟨_, _, hl⟩ := Option.map_eq_some_iff.1 hc; cases hl
  | loop x => simp only [cC] at hc; obtain ⟨_, _, hl⟩ := Option.map_eq_some_iff.1 hc; cases hl
  | _ => cases hc

theorem vld_seq (h : Vld P Γ N R c (thenQ (fun env m => Vld P Γ N R d Q env m) Q) env m) : Vld P Γ N R (.seq c d) Q env m := by
  intro c0 hc g0 w0 m0 g w a hS
  simp only [erase] at hc
  cases c0 with
  | seq x y =>
    simp only [cC] at hc
    split at hc
    · rename_i cx cy hx hy
      cases hc
      refine wp_seq (wp_mono (h x hx g0 w0 m0 g w a hS) (fun e a w h => ?_))
      cases e with
      | normal => obtain ⟨g, env, m, h1, h2⟩ := h; exact h2 y hy g0 w0 m0 g w a h1
      | exit id => exact h
      | goto l => exact h.elim
      | ret => exact h
      | panic ch => exact h
      | outgrown => exact h.elim
    · cases hc
  | region id ops dr =>
    simp only [cC] at hc
    obtain ⟨l, _, hl⟩ := Option.map_eq_some_iff.1 hc
    split at hl <;> cases hl
  | cond x y z => simp only [cC] at hc; split at hc <;> cases hc
  | block i x => simp only [cC] at hc; obtain ⟨_, _, hl⟩ := Option.map_eq_some_iff.1 hc; cases hl
  | loop x => simp only [cC] at hc; obtain ⟨_, _, hl⟩ := Option.map_eq_some_iff.1 hc; cases hl
  | _ => cases hc

theorem vld_cond {x : X} {t : Bool} (hx : x.ev Γ env = .p (.s (.bool t))) (h1 : t = true → Vld P Γ N R c Q env m) (h2 : t = false → Vld P Γ N R d Q env m) : Vld P Γ N R (.cond x c d) Q env m := by
  intro c0 hc g0 w0 m0 g w a hS
  simp only [erase] at hc
  cases c0 with
  | cond x' y z =>
    simp only [cC] at hc
    split at hc
    · rename_i cx cy cz hx' hy hz
      cases hc
      have hv := cX_sound hS.rel hx'
      rw [hx] at hv
      have hv := vr_s hv
      exact wp_cond_split hv (fun ht => h1 ht y hy g0 w0 m0 g w a hS) (fun ht => h2 ht z hz g0 w0 m0 g w a hS)
    · cases hc
  | region id ops dr =>
    simp only [cC] at hc
    obtain ⟨l, _, hl⟩ := Option.map_eq_some_iff.1 hc
    split at hl <;> cases hl
  | seq x y => simp only [cC] at hc; split at hc <;> cases hc
  | block i x => simp only [cC] at hc; obtain ⟨_, _, hl⟩ := Option.map_eq_some_iff.1 hc; cases hl
  | loop x => simp only [cC] at hc; obtain ⟨_, _, hl⟩ := Option.map_eq_some_iff.1 hc; cases hl
  | _ => cases hc

theorem vld_block {id : Nat} (h : Vld P Γ N R c (blockQ id Q) env m) : Vld P Γ N R (.block id c) Q env m := by
  intro c0 hc g0 w0 m0 g w a hS
  simp only [erase] at hc
  cases c0 with
  | block i x =>
    simp only [cC] at hc
    obtain ⟨cx, hx, hl⟩ := Option.map_eq_some_iff.1 hc
    cases hl
    refine wp_block (wp_mono (h x hx g0 w0 m0 g w a hS) (fun e a w h => ?_))
    cases e with
    | normal => exact h
    | exit i =>
      obtain ⟨g, env, m, h1, h2⟩ := h
      simp only [blockQ] at h2
      simp only [Exit.inBlock]
      split
      · rename_i hi
        rw [if_pos hi] at h2
        exact ⟨g, env, m, h1, h2⟩
      · rename_i hi
        rw [if_neg hi] at h2
        exact ⟨g, env, m, h1, h2⟩
    | goto l => exact h.elim
    | ret => exact h
    | panic ch => exact h
    | outgrown => exact h.elim
  | region id ops dr =>
    simp only [cC] at hc
    obtain ⟨l, _, hl⟩ := Option.map_eq_some_iff.1 hc
    split at hl <;> cases hl
  | seq x y => simp only [cC] at hc; split at hc <;> cases hc
  | cond x y z => simp only [cC] at hc; split at hc <;> cases hc
  | loop x => simp only [cC] at hc; obtain ⟨_, _, hl⟩ := Option.map_eq_some_iff.1 hc; cases hl
  | _ => cases hc

theorem wp_loop_n {P : Program} {c : Code} {Q : Exit → Act → World → Prop} (J : Nat → Act → World → Prop)
    (round : ∀ n a w, J n a w → c.wp P (Exit.then (fun a' w' => ∃ k, k < n ∧ J k a' w') Q) a w) {n : Nat} {a : Act} {w : World} (h0 : J n a w) : (Code.loop c).wp P Q a w := by
  intro b k cs
  have key : ∀ n a w, J n a w → ∃ e a' w', Q e a' w' ∧ Arrives P (lone (b.at a (.code c :: .inLoop c :: k)) cs w) b k cs e a' w' := by
    intro n
    induction n using Nat.strongRecOn with
    | _ n ih =>
      intro a w hJ
      obtain ⟨e, a1, w1, hq, harr⟩ := round n a w hJ b (.inLoop c :: k) cs
      cases e with
      | normal =>
        obtain ⟨i, hi, hJ1⟩ := hq
        obtain ⟨e2, a2, w2, hq2, harr2⟩ := ih i hi a1 w1 hJ1
        exact ⟨e2, a2, w2, hq2, .of_steps (Steps.trans harr (.one step_inLoop)) harr2⟩
      | exit id => exact ⟨_, a1, w1, hq, .pass (x := .inLoop c) rfl (fun _ _ => .inl (by simp)) harr⟩
      | goto l => exact ⟨_, a1, w1, hq, .pass (x := .inLoop c) rfl (fun _ _ => .inl (by simp)) harr⟩
      | ret => exact ⟨_, a1, w1, hq, .pass (x := .inLoop c) rfl (fun _ _ => .inl (by simp)) harr⟩
      | panic ch => exact ⟨_, a1, w1, hq, .pass (x := .inLoop c) rfl (fun _ _ => .inl (by simp)) harr⟩
      | outgrown => exact ⟨_, a1, w1, hq, .pass (x := .inLoop c) rfl (fun _ _ => .inl (by simp)) harr⟩
  obtain ⟨e, a', w', hq, harr⟩ := key n a w h0
  exact ⟨e, a', w', hq, .of_steps (.one step_loop) harr⟩

end
end Go.Shade

/- Functions by their code; less is known; lengths. Own work. -/
namespace Go.Shade
open Go

abbrev EL := List (Nat × AV)
def look : EL → Nat → AV
  | [], _ => .junk
  | (d, a) :: L, i => if i = d then a else look L i

theorem AV.Le.refl (a : AV) : a.Le a := fun _ _ _ h => h
theorem AV.Le.trans {a b c : AV} (h : a.Le b) (k : b.Le c) : a.Le c := fun g H v hv => k g H v (h g H v hv)
theorem le_junk (a : AV) : a.Le .junk := fun _ _ _ _ => .junk
theorem LeL.refl (l : List AV) : LeL l l := ⟨rfl, fun _ a b h1 h2 => by rw [h1] at h2; cases h2; exact .refl a⟩

inductive ResLe : Res → Res → Prop
  | dead (r : Res) : ResLe r .dead
  | tok : ResLe .tok .tok
  | box {cs cs' : List AV} (fz : Bool) (h : LeL cs cs') : ResLe (.box cs fz) (.box cs' fz)
theorem ResLe.refl : ∀ r : Res, ResLe r r
  | .box cs fz => .box fz (.refl cs)
  | .tok => .tok
  | .dead => .dead _

/-- What is told in L and M is told in env and m, by other names. -/
structure Weak (R : RD) (ρ : Nat → Nat) (env : Nat → AV) (m : Mem) (L : EL) (M : ML) : Prop where
  env : ∀ i, (env i).Le ((look L i).ren ρ)
  mem : ∀ n r, memL M n = some r → ∃ r0, m (ρ n) = some r0 ∧ ResLe r0 (r.ren ρ)
  inj : ∀ n n', memL M n ≠ none → memL M n' ≠ none → ρ n = ρ n' → n = n'
  en : ∀ p ∈ L, ∀ n ∈ p.2.names, memL M n ≠ none
  mn : ∀ p ∈ M, ∀ n ∈ p.2.names, memL M n ≠ none
  R : ∀ n, R.on n → memL M n ≠ none ∧ ρ n = n

mutual
theorem ren_id : ∀ a : AV, a.ren id = a
  | .p x => by rw [AV.ren]
  | .own t sz xs => by rw [AV.ren]; rfl
  | .agg cs => by rw [AV.ren, renL_id]
  | .tup cs => by rw [AV.ren, renL_id]
  | .ptr b off => by rw [AV.ren]; rfl
  | .cptr cs => by rw [AV.ren]
  | .fn f x y => by rw [AV.ren, renL_id, renL_id]
  | .bsl b off sz n => by rw [AV.ren]; rfl
  | .cmap es => by rw [AV.ren]
  | .junk => by rw [AV.ren]
theorem renL_id : ∀ l : List AV, renL id l = l
  | [] => by rw [renL]
  | a :: l => by rw [renL, ren_id a, renL_id l]
end

theorem memL_mem : ∀ {M : ML} {n : Nat} {r : Res}, memL M n = some r → ∃ p ∈ M, p.2 = r
  | [], n, r, h => by simp [memL] at h
  | (k, q) :: M, n, r, h => by
    rw [memL] at h
    split at h
    · cases h; exact ⟨(k, q), by simp, rfl⟩
    · obtain ⟨p, hp, hr⟩ := memL_mem h
      exact ⟨p, by simp [hp], hr⟩
theorem look_mem : ∀ {L : EL} {i : Nat}, look L i = .junk ∨ ∃ p ∈ L, p.2 = look L i
  | [], i => .inl rfl
  | (d, a) :: L, i => by
    rw [look]
    split
    · exact .inr ⟨(d, a), by simp, rfl⟩
    · rcases look_mem (L := L) (i := i) with h | ⟨p, hp, h⟩
      · exact .inl h
      · exact .inr ⟨p, by simp [hp], h⟩

section
variable {P : Program} {N : Nat} {Γ : Globs} {R : RD} {g0 g : Gh} {w0 w : World} {m0 m : Mem} {a : Act} {env : Nat → AV}

theorem vr_restrict {M : ML} {ρ : Nat → Nat} {b : AV} {v : Value} {h : Array Obj} (hn : ∀ n ∈ b.names, memL M n ≠ none) (hv : VR g h (b.ren ρ) v) : VR (under g ρ (memL M)) h b v := vr_under hn hv

/-- The names of what is told. -/
theorem rel_weak {M : ML} {ρ : Nat → Nat} (hR : Rel Γ g w m) (hmem : ∀ n r, memL M n = some r → ∃ r0, m (ρ n) = some r0 ∧ ResLe r0 (r.ren ρ)) (hinj : ∀ n n', memL M n ≠ none → memL M n' ≠ none → ρ n = ρ n' → n = n')
    (hmn : ∀ n r, memL M n = some r → ∀ k ∈ r.names, memL M k ≠ none) : Rel Γ (under g ρ (memL M)) w (memL M) where
  fresh n hn := by simp [under, hn]
  box n cs fz hn := by
    obtain ⟨r0, hm, hle⟩ := hmem n _ hn
    rw [Res.ren, renL_map] at hle
    cases hle with
    | box fz hl =>
      rename_i cs0
      have hl0 : cs0.length = cs.length := by simpa using hl.1
      obtain ⟨k, vs, T, h1, h2, h3, h4, h5⟩ := hR.box (ρ n) cs0 fz hm
      refine ⟨k, vs, T, by rw [(under_σ (by rw [hn]; simp)).1]; exact h1, h2, by rw [← hl0]; exact h3, fun i b v hb hv => ?_, by rw [← hl0]; simpa [under] using h5⟩
      have hlt : i < cs0.length := by rw [hl0]; exact (List.getElem?_eq_some_iff.1 hb).1
      refine vr_restrict (fun q hq => hmn n _ hn q (mem_namesL.2 ⟨b, List.mem_of_getElem? hb, hq⟩)) ?_
      exact hl.2 i _ (b.ren ρ) (List.getElem?_eq_getElem hlt) (by rw [List.getElem?_map, hb]; rfl) g w.heap v (h4 i _ v (List.getElem?_eq_getElem hlt) hv)
  tok n hn := by
    obtain ⟨r0, hm, hle⟩ := hmem n _ hn
    rw [Res.ren] at hle
    cases hle
    have h0 := hR.tok (ρ n) hm
    unfold TkR at h0 ⊢
    rw [(under_σ (by rw [hn]; simp)).2]
    exact h0
  inj n n' k h1 h2 := by
    have old : ∀ n, Holds (under g ρ (memL M)) (memL M) n k → Holds g m (ρ n) k ∧ memL M n ≠ none := fun n h => by
      rcases h with ⟨cs, fz, h, h'⟩ | ⟨h, e, h'⟩
      · obtain ⟨r0, hm, hle⟩ := hmem n _ h
        rw [Res.ren, renL_map] at hle
        cases hle
        rw [(under_σ (by rw [h]; simp)).1] at h'
        exact ⟨.inl ⟨_, fz, hm, h'⟩, by rw [h]; simp⟩
      · obtain ⟨r0, hm, hle⟩ := hmem n _ h
        rw [Res.ren] at hle
        cases hle
        rw [(under_σ (by rw [h]; simp)).2] at h'
        exact ⟨.inr ⟨hm, e, h'⟩, by rw [h]; simp⟩
    obtain ⟨o1, o2⟩ := old n h1
    obtain ⟨o3, o4⟩ := old n' h2
    exact hinj n n' o2 o4 (hR.inj _ _ k o1 o3)
  ulen := hR.ulen
  glob := hR.glob

theorem st_weak {M : ML} {ρ : Nat → Nat} (hst : St g0 w0 m0 g w m) (hmem : ∀ n r, memL M n = some r → ∃ r0, m (ρ n) = some r0 ∧ ResLe r0 (r.ren ρ)) : St g0 w0 m0 (under g ρ (memL M)) w (memL M) where
  os := hst.os
  tape := hst.tape
  output := hst.output
  fz := hst.fz
  size := hst.size
  frame := hst.frame
  pers := hst.pers
  ownm n k hk h := by
    refine hst.ownm (ρ n) k hk ?_
    rcases h with ⟨cs, h, h'⟩ | ⟨h, e, h'⟩
    · obtain ⟨r0, hm, hle⟩ := hmem n _ h
      rw [Res.ren, renL_map] at hle
      cases hle
      rw [(under_σ (by rw [h]; simp)).1] at h'
      exact .inl ⟨_, hm, h'⟩
    · obtain ⟨r0, hm, hle⟩ := hmem n _ h
      rw [Res.ren] at hle
      cases hle
      rw [(under_σ (by rw [h]; simp)).2] at h'
      exact .inr ⟨hm, e, h'⟩
  holdm n k hk h := by
    refine hst.holdm (ρ n) k hk ?_
    rcases h with ⟨cs, fz, h, h'⟩ | ⟨h, e, h'⟩
    · obtain ⟨r0, hm, hle⟩ := hmem n _ h
      rw [Res.ren, renL_map] at hle
      cases hle
      rw [(under_σ (by rw [h]; simp)).1] at h'
      exact .inl ⟨_, fz, hm, h'⟩
    · obtain ⟨r0, hm, hle⟩ := hmem n _ h
      rw [Res.ren] at hle
      cases hle
      rw [(under_σ (by rw [h]; simp)).2] at h'
      exact .inr ⟨hm, e, h'⟩

theorem IS.weak {L : EL} {M : ML} {ρ : Nat → Nat} (hS : IS Γ N R g0 w0 m0 g w a env m) (hw : Weak R ρ env m L M) : IS Γ N R g0 w0 m0 (under g ρ (memL M)) w a (look L) (memL M) := by
  have hmn : ∀ n r, memL M n = some r → ∀ k ∈ r.names, memL M k ≠ none := fun n r h k hk => by
    obtain ⟨p, hp, rfl⟩ := memL_mem h
    exact hw.mn p hp k hk
  refine ⟨⟨rel_weak hS.rel.rel hw.mem hw.inj hmn, hS.rel.size, fun i v hv => ?_⟩, st_weak hS.st hw.mem, fun n hn => ?_, hS.dfs⟩
  · refine vr_restrict (fun n hnn => ?_) (hw.env i g w.heap v (hS.rel.env i v hv))
    rcases look_mem (L := L) (i := i) with h | ⟨p, hp, h⟩
    · rw [h] at hnn; simp [AV.names] at hnn
    · exact hw.en p hp n (by rw [h]; exact hnn)
  · obtain ⟨h1, h2, h3⟩ := hS.nm n hn
    obtain ⟨h4, h5⟩ := hw.R n hn
    have h6 := under_σ (g := g) (ρ := ρ) h4
    rw [h5] at h6
    exact ⟨h4, h6.1.trans h2, h6.2.trans h3⟩

inductive RV where
  | tmp (d : Nat)
  | cell (d : Nat) (agg : Bool) (n : Nat)
def cRes (P : Program) (N : Nat) : ResultVar → Option RV
  | .tmp t => if t < N then some (.tmp t) else none
  | .cell t ty => if t < N then (sizeT P ty).map (RV.cell t (isAggT P ty)) else none
def RV.ev (env : Nat → AV) (m : Mem) : RV → Option AV
  | .tmp d => some (env d)
  | .cell d agg n => match env d with
    | .ptr b off => match m b with
      | some (.box cs _) => subA agg cs off n
      | _ => none
    | _ => none
def evRs (env : Nat → AV) (m : Mem) (rs : List RV) : Option AV := (rs.mapM (RV.ev env m)).map fun l => match l with
  | [r] => r
  | l => .tup l

/-- A box's part is read. -/
theorem box_read (hR : Rel Γ g w m) {b off n : Nat} {cs : List AV} {fz : Bool} (hm : m b = some (.box cs fz)) {k : Nat} (hk : g.σ b = some k) {t : TypeId} (hn : sizeT P t = some n) {r : AV} (hr : subA (isAggT P t) cs off n = some r) :
    ∃ v, (loadVar t ⟨k, off, none⟩).run P w = .ok v w ∧ VR g w.heap r v := by
  obtain ⟨k', vs, T, hk', hh, hl, hvs, _⟩ := hR.box b cs fz hm
  rw [hk] at hk'
  cases hk'
  obtain ⟨i, d, hi, hd, rfl⟩ := sizeT_spec hn
  have h2 := run_isAgg hd w
  have hcell : ∀ j v, vs[j]? = some v → w.cell? ⟨k, j, none⟩ = some v := fun j v hj => by simp [World.cell?, hh, hj]
  unfold subA at hr
  cases hb : isAggT P t with
  | true =>
    rw [hb] at hr h2
    simp only [if_true] at hr
    split at hr
    · rename_i hle
      cases hr
      have hld := run_loadCells_list (P := P) w ⟨k, off, none⟩ (vs.extract off (off + i.size)).toList (fun j v hj => by
        rw [add_spot rfl]
        refine hcell _ _ ?_
        rw [Array.getElem?_toList, Array.getElem?_extract] at hj
        split at hj
        · exact hj
        · cases hj)
      have hsz : (vs.extract off (off + i.size)).toList.length = i.size := by simp; omega
      rw [hsz] at hld
      exact ⟨.agg (vs.extract off (off + i.size)), by simp only [loadVar, Sem.run_bind, h2, Result.andThen_ok, if_true, run_sizeOf hn w, hld, Sem.run_pure], vr_agg_sub hl hvs hle⟩
    · cases hr
  | false =>
    rw [hb] at hr h2
    simp only [Bool.false_eq_true, if_false] at hr
    have hlt : off < vs.size := Nat.lt_of_lt_of_le (List.getElem?_eq_some_iff.1 hr).1 hl
    have hld : (Go.load ⟨k, off, none⟩).run P w = .ok vs[off] w := by
      unfold Go.load
      simp only [Sem.run, hcell off _ (Array.getElem?_eq_getElem hlt)]
    exact ⟨vs[off], by simp only [loadVar, Sem.run_bind, h2, Result.andThen_ok, Bool.false_eq_true, if_false, hld], hvs off r _ hr (Array.getElem?_eq_getElem hlt)⟩

def resF (tmps : Array Value) : ResultVar → Sem Value
  | .tmp t => pure (tmps.getD t undef)
  | .cell a t => do loadVar t (← asAddr (tmps.getD a undef))
theorem run_res1 (hS : RelS Γ N g w a env m) {rv : ResultVar} {rc : RV} (hc : cRes P N rv = some rc) {r : AV} (hr : rc.ev env m = some r) : ∃ v, (resF a.tmps rv).run P w = .ok v w ∧ VR g w.heap r v := by
  cases rv with
  | tmp t =>
    simp only [cRes] at hc
    split at hc
    · rename_i ht
      cases hc
      simp only [RV.ev, Option.some.injEq] at hr
      subst hr
      have ht' : t < a.tmps.size := by rw [hS.size]; exact ht
      exact ⟨a.tmps[t], by simp [resF, Array.getD, ht'], hS.env t _ (Array.getElem?_eq_getElem ht')⟩
    · cases hc
  | cell t ty =>
    simp only [cRes] at hc
    split at hc
    · rename_i ht
      obtain ⟨n, hn, rfl⟩ := Option.map_eq_some_iff.1 hc
      simp only [RV.ev] at hr
      split at hr
      · rename_i b off he
        split at hr
        · rename_i cs fz hm
          have ht' : t < a.tmps.size := by rw [hS.size]; exact ht
          have hv := hS.env t _ (Array.getElem?_eq_getElem ht')
          rw [he] at hv
          obtain ⟨k, hk, hq⟩ := vr_ptr hv
          obtain ⟨v, h1, h2⟩ := box_read (P := P) hS.rel hm hk hn hr
          exact ⟨v, by simp [resF, Array.getD, ht', hq, asAddr, h1], h2⟩
        · cases hr
      · cases hr
    · cases hc
theorem run_resL (hS : RelS Γ N g w a env m) : ∀ {l : List ResultVar} {lc : List RV}, l.mapM (cRes P N) = some lc → ∀ {rs : List AV}, lc.mapM (RV.ev env m) = some rs → ∃ vl, (l.mapM (resF a.tmps)).run P w = .ok vl w ∧ VL g w.heap rs vl
  | [], lc, h, rs, hr => by
    simp only [List.mapM_nil, pure, Option.some.injEq] at h
    subst h
    simp only [List.mapM_nil, pure, Option.some.injEq] at hr
    subst hr
    exact ⟨[], by simp, rfl, fun i a v h => by simp at h⟩
  | x :: l, lc, h, rs, hr => by
    simp only [List.mapM_cons, bind, Option.bind_eq_some_iff, pure, Option.some.injEq] at h
    obtain ⟨c, hc, lr, hl, rfl⟩ := h
    simp only [List.mapM_cons, bind, Option.bind_eq_some_iff, pure, Option.some.injEq] at hr
    obtain ⟨r, hr1, rr, hr2, rfl⟩ := hr
    obtain ⟨v, h1, h2⟩ := run_res1 hS hc hr1
    obtain ⟨vl, h3, h4⟩ := run_resL hS hl hr2
    refine ⟨v :: vl, by simp [List.mapM_cons, h1, h3], by simp [h4.1], fun i b u hb hu => ?_⟩
    cases i with
    | zero => simp at hb hu; subst hb; subst hu; exact h2
    | succ i => exact h4.2 i b u (by simpa using hb) (by simpa using hu)
theorem run_results (hS : RelS Γ N g w a env m) {fn : Func} {rs : List RV} (hc : fn.results.toList.mapM (cRes P N) = some rs) {r : AV} (hr : evRs env m rs = some r) : ∃ v, (results fn a.tmps).run P w = .ok v w ∧ VR g w.heap r v := by
  obtain ⟨l, hl, rfl⟩ := Option.map_eq_some_iff.1 hr
  obtain ⟨vl, h1, h2⟩ := run_resL hS hc hl
  have h3 : (fn.results.mapM (resF a.tmps)).run P w = .ok vl.toArray w := by
    rw [Array.mapM_eq_mapM_toList]
    simp [h1]
  have h4 : results fn a.tmps = (do let vs ← fn.results.mapM (resF a.tmps); pure (if h : vs.size = 1 then vs[0] else .tuple vs)) := by
    unfold results
    congr 1
  rw [h4]
  simp only [Sem.run_bind, h3, Result.andThen_ok, Sem.run_pure]
  refine ⟨_, rfl, ?_⟩
  match l, vl, h2 with
  | [], vl, h2 =>
    have : vl = [] := List.eq_nil_of_length_eq_zero h2.1.symm
    subst this
    exact .tup rfl (fun i a v h => by simp at h)
  | [r], [v], h2 => exact h2.2 0 r v rfl rfl
  | [r], [], h2 => exact absurd h2.1 (by simp)
  | [r], _ :: _ :: _, h2 => exact absurd h2.1 (by simp)
  | r1 :: r2 :: l, vl, h2 =>
    have hne : ¬ vl.toArray.size = 1 := by have := h2.1; simp at this ⊢; omega
    simp only [hne, dif_neg, not_false_eq_true]
    exact .tup (by simpa using h2.1) (fun i b v hb hv => h2.2 i b v hb (by simpa using hv))

/-! ### A function's contract out of its code -/
def argE (args : List AV) : EL := args.zipIdx.map fun (a, i) => (i, a)
theorem look_argE (args : List AV) (i : Nat) : look (argE args) i = args.getD i .junk := by
  have key : ∀ (l : List AV) (s : Nat), look ((l.zipIdx s).map fun (a, i) => (i, a)) i = if s ≤ i then l.getD (i - s) .junk else .junk := by
    intro l
    induction l with
    | nil => intro s; simp [look]
    | cons a l ih =>
      intro s
      rw [List.zipIdx_cons, List.map_cons, look, ih]
      by_cases h1 : i = s
      · subst h1; simp
      · rw [if_neg h1]
        by_cases h2 : s ≤ i
        · rw [if_pos (by omega), if_pos h2, show i - s = (i - (s + 1)) + 1 by omega]
          simp
        · rw [if_neg (by omega), if_neg h2]
  have := key args 0
  simpa [argE] using this

/-- A function's end: its results, by the contract's names. -/
structure Ends (R : RD) (e : AE) (post : ML) (env : Nat → AV) (m : Mem) (ρ : Nat → Nat) : Prop where
  mem : ∀ n q, memL post n = some q → ∃ q0, m (ρ n) = some q0 ∧ ResLe q0 (q.ren ρ)
  inj : ∀ n n', memL post n ≠ none → memL post n' ≠ none → ρ n = ρ n' → n = n'
  R : ∀ n, R.on n → ρ n = n
def finQ (R : RD) (rs : List RV) (e : AE) (post : ML) : QS
  | .normal, env, m | .ret, env, m => ∃ ρ r0 r, evRs env m rs = some r0 ∧ e = .ret r ∧ r0.Le (r.ren ρ) ∧ Ends R e post env m ρ
  | .pan v, env, m => e = .pan v ∧ ∃ ρ, Ends R e post env m ρ
  | .exit _, _, _ => False

/-- Closed facts of a function, and its code. -/
structure Fun (P : Program) (f : FuncId) (N : Nat) (cc : CC) (rs : List RV) (np : Nat) : Prop where
  is : ∃ fn c0, P.funcs[f]? = some fn ∧ fn.body = some c0 ∧ (fn.name == "runtime.NumGoroutine") = false ∧ fn.ntmps = N ∧ cC P N c0 = some (erase cc) ∧ fn.results.toList.mapM (cRes P N) = some rs
  np : np ≤ N

theorem good_of {f : FuncId} {cc : CC} {rs : List RV} {np : Nat} (hF : Fun P f N cc rs np) {args : List AV} {pre post : ML} {e : AE} (hnp : args.length = np)
    (an : ∀ n ∈ namesL args, memL pre n ≠ none) (pn : ∀ p ∈ pre, ∀ k ∈ p.2.names, memL pre k ≠ none) (rn : ∀ n ∈ e.names, memL post n ≠ none) (qn : ∀ p ∈ post, ∀ k ∈ p.2.names, memL post k ≠ none) (dom : ∀ n, memL pre n ≠ none → memL post n ≠ none)
    (h : Vld P Γ N (rd pre) cc (finQ (rd pre) rs e post) (look (argE args)) (memL pre)) : Good P Γ f args pre e post := by
  obtain ⟨fn, c0, hf, hb, hname, rfl, hc, hrs⟩ := hF.is
  have qn' : ∀ n r, memL post n = some r → ∀ k ∈ r.names, memL post k ≠ none := fun n r hr k hk => by
    obtain ⟨p, hp, rfl⟩ := memL_mem hr
    exact qn p hp k hk
  refine ⟨⟨fn, hf, by simp [hb], hname⟩, an, fun n r hr k hk => ?_, rn, qn', dom, fun g w cargs hR hv => ?_⟩
  · obtain ⟨p, hp, rfl⟩ := memL_mem hr
    exact pn p hp k hk
  · refine calls_of_wp hf hb ?_
    have hlen : cargs.length = args.length := hv.1.symm
    have hnp' := hF.np
    have hS : IS Γ fn.ntmps (rd pre) g w (memL pre) g w { tmps := cargs.toArray ++ Array.replicate (fn.ntmps - cargs.toArray.size) undef, defers := [] } (look (argE args)) (memL pre) := by
      refine ⟨⟨hR, by simp; omega, fun i v hi => ?_⟩, St.refl _ _ _, fun n hn => ⟨hn, rfl, rfl⟩, rfl⟩
      rw [look_argE]
      simp only at hi
      by_cases hlt : i < args.length
      · rw [List.getD_eq_getElem?_getD, List.getElem?_eq_getElem hlt]
        rw [Array.getElem?_append_left (by simp; omega)] at hi
        exact hv.2 i _ v (List.getElem?_eq_getElem hlt) (by simpa using hi)
      · rw [List.getD_eq_getElem?_getD, List.getElem?_eq_none (by omega)]
        exact .junk
    refine wp_mono (h c0 hc g w (memL pre) g w _ hS) (fun ex a w' hl => ?_)
    have fin : ∀ g' env m ρ, IS Γ fn.ntmps (rd pre) g w (memL pre) g' w' a env m → Ends (rd pre) e post env m ρ → Fin Γ g w (memL pre) (under g' ρ (memL post)) w' (memL post) := fun g' env m ρ hS' hm =>
      ⟨rel_weak hS'.rel.rel hm.mem hm.inj qn', st_weak hS'.st hm.mem, fun n hn => by
        obtain ⟨_, h2, h3⟩ := hS'.nm n hn
        have h6 := under_σ (g := g') (ρ := ρ) (dom n hn)
        rw [hm.R n hn] at h6
        exact ⟨h6.1.trans h2, h6.2.trans h3⟩⟩
    have done : (∃ g' env m, IS Γ fn.ntmps (rd pre) g w (memL pre) g' w' a env m ∧ finQ (rd pre) rs e post .ret env m) → a.defers = [] ∧ ∃ v, (results fn a.tmps).run P w' = .ok v w' ∧ GoodPost Γ g w (memL pre) e (memL post) (.returned v) w' := by
      rintro ⟨g', env, m, hS', ρ, r0, r, hr0, rfl, hle, hm⟩
      obtain ⟨v, h1, h2⟩ := run_results hS'.rel hrs hr0
      exact ⟨hS'.dfs, v, h1, r, _, rfl, fin g' env m ρ hS' hm, vr_restrict rn (hle _ _ _ h2)⟩
    cases ex with
    | normal => exact done hl
    | ret => exact done hl
    | exit id => obtain ⟨_, _, _, _, h2⟩ := hl; exact h2
    | goto l => exact hl.elim
    | panic ch =>
      obtain ⟨v, g', env, m, rfl, hS', rfl, ρ, hm⟩ := hl
      exact ⟨hS'.dfs, v, _, rfl, rfl, fin g' env m ρ hS' hm⟩
    | outgrown => exact hl.elim
end
end Go.Shade

/- An operation looks at no more than its own slots and names. Own work. -/
namespace Go.Shade
open Go

def X.rd : X → List Nat
  | .t n => [n]
  | _ => []
def COp.xs : COp → List X
  | .mv x => [x]
  | .pick c a b => [c, a, b]
  | .bin _ x y => [x, y]
  | .beq _ x y => [x, y]
  | .eqs _ _ x y => [x, y]
  | .isnil _ x => [x]
  | .un _ x => [x]
  | .toInt _ x => [x]
  | .toStr x => [x]
  | .strId x => [x]
  | .build _ parts => parts.map (·.2.2)
  | .field _ _ _ x => [x]
  | .index _ _ _ x i => [x, i]
  | .sindex x i => [x, i]
  | .extract _ x => [x]
  | .len x => [x]
  | .slen x => [x]
  | .minmax _ x y => [x, y]
  | .slice _ x lo hi => x :: (lo.toList ++ hi.toList)
  | .faddr _ x => [x]
  | .iaddrS _ x i => [x, i]
  | .iaddrA _ _ x i => [x, i]
  | .mkfn _ first cap => first ++ cap
  | .mkif _ x => [x]
  | .nilchk x => [x]
  | .arrptr _ x => [x]
  | .load _ _ a => [a]
  | .store _ a x => [a, x]
  | .box x => [x]
  | .alloc _ => []
  | .bslice _ _ _ parts => parts.map (·.2)
  | .append _ _ _ s x => [s, x]
  | .aslice _ _ x lo hi => x :: (lo.toList ++ hi.toList)
  | .call f args => f :: args
  | .panic x => [x]
  | .ext _ xs => xs
def CO.rd (o : CO) : List Nat := (o.op.xs.flatMap X.rd) ++ (match o.guard with
  | some (d, _) => [d]
  | none => [])

section
variable {P : Program} {Γ : Globs} {env env' : Nat → AV} {m m' m2 : Mem} {c : COp}

theorem ev_rd {x : X} (h : ∀ n ∈ x.rd, env' n = env n) : x.ev Γ env' = x.ev Γ env := by
  cases x with
  | t n => exact h n (by simp [X.rd])
  | _ => rfl
theorem evO_congr {x : Option X} (h : ∀ y ∈ x.toList, y.ev Γ env' = y.ev Γ env) : evO Γ env' x = evO Γ env x := by
  cases x with
  | none => rfl
  | some y => simp only [evO, h y (by simp)]

theorem cpure_congr (h : ∀ x ∈ c.xs, x.ev Γ env' = x.ev Γ env) : cpure Γ env' c = cpure Γ env c := by
  cases c <;> simp only [COp.xs, List.mem_cons, List.not_mem_nil, or_false, forall_eq_or_imp, forall_eq, List.mem_append, List.mem_map] at h <;> simp only [cpure]
  case mv => rw [h]
  case pick => rw [h.1, h.2.1, h.2.2]
  case bin => rw [h.1, h.2]
  case beq => rw [h.1, h.2]
  case eqs => rw [h.1, h.2]
  case un => rw [h]
  case toInt => rw [h]
  case toStr => rw [h]
  case strId => rw [h]
  case field => rw [h]
  case index => rw [h.1, h.2]
  case sindex => rw [h.1, h.2]
  case extract => rw [h]
  case len => rw [h]
  case slen => rw [h]
  case minmax => rw [h.1, h.2]
  case slice sz x lo hi => rw [h.1, evO_congr (fun y hy => h.2 y (.inl hy)), evO_congr (fun y hy => h.2 y (.inr hy))]
  case faddr => rw [h]
  case iaddrS => rw [h.1, h.2]
  case iaddrA => rw [h.1, h.2]
  case mkfn f first cap => rw [List.map_congr_left (fun x hx => h x (.inl hx)), List.map_congr_left (fun x hx => h x (.inr hx))]
  case mkif => rw [h]
  case nilchk => rw [h]
  case load => rw [h]
  case build zero parts =>
    have h' : ∀ p ∈ parts, p.2.2.ev Γ env' = p.2.2.ev Γ env := fun p hp => h _ ⟨p, hp, rfl⟩
    have e1 : (parts.map fun (p : Nat × Nat × X) => (p.1, (p.2.2.ev Γ env').cells)) = parts.map fun p => (p.1, (p.2.2.ev Γ env).cells) := List.map_congr_left (fun p hp => by rw [h' p hp])
    have e2 : (parts.all fun (p : Nat × Nat × X) => (p.2.2.ev Γ env').celled && (p.2.2.ev Γ env').cells.length == p.2.1 && decide (p.1 + p.2.1 ≤ zero.length)) =
        parts.all fun p => (p.2.2.ev Γ env).celled && (p.2.2.ev Γ env).cells.length == p.2.1 && decide (p.1 + p.2.1 ≤ zero.length) := by
      rw [Bool.eq_iff_iff, List.all_eq_true, List.all_eq_true]
      exact ⟨fun k p hp => by rw [← h' p hp]; exact k p hp, fun k p hp => by rw [h' p hp]; exact k p hp⟩
    rw [e2, e1]
  case arrptr => rw [h]
  case ext e xs => rw [List.map_congr_left (fun x hx => h x hx)]

theorem cmem_congr (h : ∀ x ∈ c.xs, x.ev Γ env' = x.ev Γ env) (nm : Nat) : cmem Γ env' m nm c = cmem Γ env m nm c := by
  cases c <;> simp only [COp.xs, List.mem_cons, List.not_mem_nil, or_false, forall_eq_or_imp, forall_eq, List.mem_append, List.mem_map] at h <;> simp only [cmem]
  case load => rw [h]
  case store => rw [h.1, h.2]
  case box => rw [h]
  case bslice sz len zero parts =>
    have h' : ∀ p ∈ parts, p.2.ev Γ env' = p.2.ev Γ env := fun p hp => h _ ⟨p, hp, rfl⟩
    have e1 : (parts.mapM fun (p : Nat × X) => (toPVs (p.2.ev Γ env').cells).map fun l => (p.1, l)) = parts.mapM fun (p : Nat × X) => (toPVs (p.2.ev Γ env).cells).map fun l => (p.1, l) := by
      clear h
      induction parts with
      | nil => rfl
      | cons p parts ih => rw [List.mapM_cons, List.mapM_cons, ih (fun q hq => h' q (by simp [hq])), h' p (by simp)]
    have e2 : (parts.all fun p => (p.2.ev Γ env').celled) = parts.all fun p => (p.2.ev Γ env).celled := by
      rw [Bool.eq_iff_iff, List.all_eq_true, List.all_eq_true]
      exact ⟨fun k p hp => by rw [← h' p hp]; exact k p hp, fun k p hp => by rw [h' p hp]; exact k p hp⟩
    rw [e1, e2]
  case append => rw [h.1, h.2]
  case aslice sz len x lo hi => rw [h.1, evO_congr (fun y hy => h.2 y (.inl hy)), evO_congr (fun y hy => h.2 y (.inr hy))]
  case ext e xs => rw [List.map_congr_left (fun x hx => h x hx)]

/-- The names that it looks at, and those that it writes. -/
def cfoot (Γ : Globs) (env : Nat → AV) (nm : Nat) : COp → List Nat × List Nat
  | .load _ _ a => match a.ev Γ env with
    | .ptr b _ => ([b], [])
    | _ => ([], [])
  | .store _ a _ => match a.ev Γ env with
    | .ptr b _ => ([b], [b])
    | _ => ([], [])
  | .aslice _ _ a _ _ => match a.ev Γ env with
    | .ptr b _ => ([b], [b])
    | _ => ([], [])
  | .append _ _ _ s _ => match s.ev Γ env with
    | .own t _ _ => ([nm, t], [nm, t])
    | _ => ([nm], [nm])
  | .ext e xs => eFoot e (xs.map (X.ev Γ env)) nm
  | _ => ([nm], [nm])

def overM (W : List Nat) (d m : Mem) : Mem := fun n => if n ∈ W then d n else m n

theorem overM_upd1 {b : Nat} {r : Option Res} : overM [b] (upd m b r) m2 = upd m2 b r := by
  funext n
  by_cases h : n = b <;> simp [overM, upd, h]
theorem overM_nil : overM [] m m2 = m2 := by
  funext n
  simp [overM]
theorem overM_upd2 {b t : Nat} {r s : Option Res} : overM [b, t] (upd (upd m t s) b r) m2 = upd (upd m2 t s) b r := by
  funext n
  by_cases h : n = b <;> by_cases h' : n = t <;> simp [overM, upd, h, h']
theorem overM_self {W : List Nat} (h : ∀ n, n ∉ W → m' n = m n) : overM W m' m = m' := by
  funext n
  by_cases hn : n ∈ W <;> simp [overM, hn, h]

theorem srcC_loc {sz : Nat} {x : AV} {p : Nat × List AV} (h : srcC sz m x = some p) (h2 : ∀ b off s n, x = .bsl b off s n → m2 b = m b) : srcC sz m2 x = some p := by
  cases x <;> simp only [srcC] at h ⊢ <;> try exact h
  rw [h2 _ _ _ _ rfl]
  exact h
theorem memL_one {b n : Nat} {q : Res} (h : memL [(b, q)] n ≠ none) : n = b := by
  simp only [memL] at h
  split at h
  · assumption
  · exact absurd rfl h
theorem e_loc {e : EOp} {vs : List AV} {nm : Nat} {r : AV} {us : ML} (h : eMem e vs m nm = some (r, us)) : (∀ n ∈ (eFoot e vs nm).2, n ∈ (eFoot e vs nm).1) ∧ (∀ n, memL us n ≠ none → n ∈ (eFoot e vs nm).2) ∧
    ∀ m2 : Mem, (∀ n ∈ (eFoot e vs nm).1, m2 n = m n) → eMem e vs m2 nm = some (r, us) := by
  cases e <;> simp only [eMem, reduceCtorEq] at h
  case copy sz =>
    unfold copyE at h
    split at h
    · rename_i b off s n x
      have hf : (eFoot (.copy sz) [.bsl b off s n, x] nm).2 = [b] ∧ b ∈ (eFoot (.copy sz) [.bsl b off s n, x] nm).1 ∧ ∀ c o t k, x = .bsl c o t k → c ∈ (eFoot (.copy sz) [.bsl b off s n, x] nm).1 := by
        cases x <;> simp [eFoot]
        rintro c o t k rfl _ _ _
        exact .inr rfl
      split at h
      · rename_i cs hm
        simp only [Option.bind_eq_some_iff] at h
        obtain ⟨⟨k, l⟩, hsrc, h⟩ := h
        simp only at h
        split at h
        · rename_i hc
          cases h
          rw [hf.1]
          refine ⟨by simpa using hf.2.1, fun i hi => by rw [memL_one hi]; simp, fun m2 h2 => ?_⟩
          have h3 := h2 b hf.2.1
          have h4 := srcC_loc (m2 := m2) hsrc (fun c o t q e => h2 c (hf.2.2 c o t q e))
          simp only [eMem, copyE, h3, hm, h4, Option.bind_some]
          rw [if_pos hc]
        · cases h
      · cases h
    · cases h
  case mks sz bytes zero own =>
    unfold mksE at h
    split at h
    · split at h
      · rename_i hm
        simp only [Option.bind_eq_some_iff] at h
        obtain ⟨i, hi, j, hj, h⟩ := h
        split at h
        · rename_i hc
          simp only [eFoot]
          have hus : ∀ q, memL us q ≠ none → q = nm := fun q hq => by
            split at h <;> cases h <;> exact memL_one hq
          refine ⟨by simp, fun q hq => by rw [hus q hq]; simp, fun m2 h2 => ?_⟩
          simp only [eMem, mksE, h2 _ (List.mem_singleton.2 rfl), hm, hi, hj, Option.bind_some]
          rw [if_pos hc]
          exact h
        · cases h
      · cases h
    · cases h
  case mkz =>
    unfold mkzE at h
    split at h
    · split at h
      · rename_i hm
        split at h
        · rename_i hc
          cases h
          simp only [eFoot]
          refine ⟨by simp, fun q hq => by rw [memL_one hq]; simp, fun m2 h2 => ?_⟩
          simp only [eMem, mkzE, h2 _ (List.mem_singleton.2 rfl), hm]
          rw [if_pos hc]
        · cases h
      · cases h
    · cases h
  case bconv =>
    unfold bconvE at h
    split at h
    · split at h
      · rename_i hm
        split at h
        · rename_i hc
          cases h
          simp only [eFoot]
          refine ⟨by simp, fun q hq => by rw [memL_one hq]; simp, fun m2 h2 => ?_⟩
          simp only [eMem, bconvE, h2 _ (List.mem_singleton.2 rfl), hm]
          rw [if_pos hc]
        · cases h
      · cases h
    · cases h
  case toBys =>
    unfold toBysE at h
    split at h
    · split at h
      · rename_i hc
        cases h
        refine ⟨by simp [eFoot], fun q hq => by simp [memL] at hq, fun m2 _ => ?_⟩
        simp only [eMem, toBysE]
        rw [if_pos hc]
      · cases h
    · cases h

theorem cmem_loc {nm : Nat} {r : AV} (h : cmem Γ env m nm c = some (r, m')) : (∀ n ∈ (cfoot Γ env nm c).2, n ∈ (cfoot Γ env nm c).1) ∧ (∀ n, n ∉ (cfoot Γ env nm c).2 → m' n = m n) ∧
    ∀ m2 : Mem, (∀ n ∈ (cfoot Γ env nm c).1, m2 n = m n) → cmem Γ env m2 nm c = some (r, overM (cfoot Γ env nm c).2 m' m2) := by
  cases c <;> simp only [cmem, reduceCtorEq] at h
  case load agg n a =>
    split at h
    · rename_i b off hev
      simp only [cfoot, hev]
      split at h
      · rename_i cs fz hm
        obtain ⟨x, hx, he⟩ := Option.map_eq_some_iff.1 h
        simp only [Prod.mk.injEq] at he
        obtain ⟨rfl, rfl⟩ := he
        refine ⟨by simp, by simp, fun m2 h2 => ?_⟩
        simp only [cmem, hev, h2 b (by simp), hm, hx, Option.map_some, overM_nil]
      · cases h
    · cases h
  case store n a x =>
    split at h
    · rename_i b off hev
      simp only [cfoot, hev]
      split at h
      · rename_i cs hm
        split at h
        · rename_i hc
          cases h
          refine ⟨by simp, fun n hn => upd_ne _ _ (by simpa using hn), fun m2 h2 => ?_⟩
          simp only [cmem, hev, h2 b (by simp), hm, hc, if_true, overM_upd1]
        · cases h
      · cases h
    · cases h
  case box x =>
    simp only [cfoot]
    split at h
    · rename_i hm
      split at h
      · rename_i hc
        cases h
        refine ⟨by simp, fun n hn => upd_ne _ _ (by simpa using hn), fun m2 h2 => ?_⟩
        simp only [cmem, h2 nm (by simp), hm, hc, if_true, overM_upd1]
      · cases h
    · cases h
  case alloc zero =>
    simp only [cfoot]
    split at h
    · rename_i hm
      cases h
      refine ⟨by simp, fun n hn => upd_ne _ _ (by simpa using hn), fun m2 h2 => ?_⟩
      simp only [cmem, h2 nm (by simp), hm, overM_upd1]
    · cases h
  case bslice sz len zero parts =>
    simp only [cfoot]
    split at h
    · rename_i ps hm hps
      split at h
      · rename_i hc
        cases h
        refine ⟨by simp, fun n hn => upd_ne _ _ (by simpa using hn), fun m2 h2 => ?_⟩
        simp only [cmem, h2 nm (by simp), hm, hps, overM_upd1]
        rw [if_pos hc]
      · cases h
    · cases h
  case append sz bytes zero s x =>
    split at h
    · rename_i ys xs hm hy hx
      split at h
      · rename_i hc
        split at h
        · rename_i t sz' xs' hev
          simp only [cfoot, hev]
          split at h
          · rename_i ht
            cases h
            refine ⟨by simp, fun n hn => ?_, fun m2 h2 => ?_⟩
            · simp only [List.mem_cons, List.not_mem_nil, or_false, not_or] at hn
              rw [upd_ne _ _ hn.1, upd_ne _ _ hn.2]
            · simp only [cmem, h2 nm (by simp), hm, hy, hev, h2 t (by simp), ht, overM_upd2]
              rw [hev] at hx
              simp only [hx]
              rw [if_pos hc]
          · cases h
        · rename_i hev
          simp only [cfoot, hev]
          cases h
          refine ⟨by simp, fun n hn => upd_ne _ _ (by simpa using hn), fun m2 h2 => ?_⟩
          simp only [cmem, h2 nm (by simp), hm, hy, hev, overM_upd1]
          rw [hev] at hx
          simp only [hx]
          rw [if_pos hc]
        · cases h
      · cases h
    · cases h
  case aslice sz len x lo hi =>
    split at h
    · rename_i b off hev
      simp only [cfoot, hev]
      split at h
      · rename_i cs fz hm
        simp only [bind, Option.bind_eq_some_iff] at h
        obtain ⟨l, hl, hh, hhi, ⟨p, q⟩, hb, ps, hps, h⟩ := h
        simp only at hb hps h
        split at h
        · rename_i hc
          cases h
          refine ⟨by simp, fun n hn => upd_ne _ _ (by simpa using hn), fun m2 h2 => ?_⟩
          simp only [cmem, hev, h2 b (by simp), hm, bind, hl, hhi, hb, hps, Option.bind_some, overM_upd1]
          rw [if_pos hc]
        · cases h
      · cases h
    · cases h
  case ext e xs =>
    obtain ⟨⟨r', us⟩, he, hh⟩ := Option.map_eq_some_iff.1 h
    simp only [Prod.mk.injEq] at hh
    obtain ⟨rfl, rfl⟩ := hh
    obtain ⟨h1, h2, h3⟩ := e_loc he
    simp only [cfoot]
    refine ⟨h1, fun n hn => ?_, fun m2 hm2 => ?_⟩
    · unfold updL
      cases hu : memL us n with
      | none => rfl
      | some q => exact absurd (h2 n (by simp [hu])) hn
    · simp only [cmem, h3 m2 hm2, Option.map_some, Option.some.injEq, Prod.mk.injEq, true_and]
      funext n
      unfold overM updL
      by_cases hn : n ∈ (eFoot e (xs.map (X.ev Γ env)) nm).2
      · rw [if_pos hn, hm2 n (h1 n hn)]
      · rw [if_neg hn]
        cases hu : memL us n with
        | none => rfl
        | some q => exact absurd (h2 n (by simp [hu])) hn

/-! ### A step with what it touches -/
def stepT (P : Program) (Γ : Globs) (o : CO) (env : Nat → AV) (m : Mem) (K : (Nat → AV) → Mem → List Nat × List Nat → Prop) : Prop :=
  match o.op with
  | .call f args => ∃ g first cap args' pre r post ρ W, f.ev Γ env = .fn (.func g) first cap ∧ LeL (first ++ args.map (X.ev Γ env) ++ cap) (renL ρ args') ∧ Good P Γ g args' pre (.ret r) post ∧ Fits m pre post ρ ∧
      (∀ p ∈ post, ρ p.1 ∈ W ∨ memL pre p.1 = memL post p.1) ∧ (∀ n ∈ W, ∃ p ∈ post, n = ρ p.1) ∧ K (putE env o.dst (r.ren ρ)) (applyM m ρ post) (post.map fun p => ρ p.1, W)
  | .panic _ => False
  | .isnil _ _ => False
  | c => match cpure Γ env c with
    | some r => K (putE env o.dst r) m ([], [])
    | none => ∃ nm, match cmem Γ env m nm c with
      | some (r, m') => K (putE env o.dst r) m' (cfoot Γ env nm c)
      | none => False
def runT (P : Program) (Γ : Globs) : List CO → (Nat → AV) → Mem → List (List Nat × List Nat) → ((Nat → AV) → Mem → List (List Nat × List Nat) → Prop) → Prop
  | [], env, m, tr, K => K env m tr
  | o :: l, env, m, tr, K => match o.guard with
    | none => stepT P Γ o env m (fun env m f => runT P Γ l env m (f :: tr) K)
    | some (s, b) => match env s with
      | .p (.s (.bool t)) => if t = b then stepT P Γ o env m (fun env m f => runT P Γ l env m (f :: tr) K) else runT P Γ l (putE env o.dst undA) m (([], []) :: tr) K
      | .p (.s (.tuple _)) => runT P Γ l (putE env o.dst undA) m (([], []) :: tr) K
      | _ => False

structure LS where
  c : CO
  F : List Nat
  W : List Nat
  r : AV
  d : Mem
abbrev EM := (Nat → AV) × Mem
def LS.next (s : LS) (e : EM) : EM := (putE e.1 s.c.dst s.r, overM s.W s.d e.2)

/-- It goes so wherever its own slots and names are as they are here. -/
structure Loc (P : Program) (Γ : Globs) (e : EM) (s : LS) : Prop where
  sub : ∀ n ∈ s.W, n ∈ s.F
  run : ∀ e' : EM, (∀ x ∈ s.c.rd, e'.1 x = e.1 x) → (∀ n ∈ s.F, e'.2 n = e.2 n) → ∀ pn (K : (Nat → AV) → Mem → Prop), K (s.next e').1 (s.next e').2 → runOps P Γ pn [s.c] e'.1 e'.2 K

theorem step_loc {o : CO} {K : (Nat → AV) → Mem → List Nat × List Nat → Prop} (h : stepT P Γ o env m K) : ∃ s : LS, s.c = o ∧ K (s.next (env, m)).1 (s.next (env, m)).2 (s.F, s.W) ∧ (∀ n ∈ s.W, n ∈ s.F) ∧
    ∀ e' : EM, (∀ x ∈ o.op.xs.flatMap X.rd, e'.1 x = env x) → (∀ n ∈ s.F, e'.2 n = m n) → ∀ pn (K : (Nat → AV) → Mem → Prop), K (s.next e').1 (s.next e').2 → stepO P Γ pn o e'.1 e'.2 K := by
  have hx : ∀ e' : EM, (∀ x ∈ o.op.xs.flatMap X.rd, e'.1 x = env x) → ∀ x ∈ o.op.xs, x.ev Γ e'.1 = x.ev Γ env := fun e' he x hxx => ev_rd (fun n hn => he n (List.mem_flatMap.2 ⟨x, hxx, hn⟩))
  unfold stepT at h
  split at h
  · rename_i f args hop
    obtain ⟨g, first, cap, args', pre, r, post, ρ, W, h1, h2, h3, h4, h5, h6, h7⟩ := h
    have hinj := h4.inj
    have hov : ∀ m2 : Mem, (∀ n ∈ post.map (fun p => ρ p.1), m2 n = m n) → applyM m2 ρ post = overM W (applyM m ρ post) m2 := by
      intro m2 hm2
      funext n
      unfold overM
      by_cases hn : n ∈ W
      · rw [if_pos hn, applyM_get hinj, applyM_get hinj]
        cases hi : invOf ρ post n with
        | some k => rfl
        | none =>
          obtain ⟨p, hp, rfl⟩ := h6 n hn
          exact hm2 _ (List.mem_map.2 ⟨p, hp, rfl⟩)
      · rw [if_neg hn, applyM_get hinj]
        cases hi : invOf ρ post n with
        | none => rfl
        | some k =>
          obtain ⟨rfl, hk⟩ := invOf_some hi
          have hkm : ∃ p ∈ post, p.1 = k := by
            clear hi h5 h6 h7 hn hinj h4 h3 hm2
            induction post with
            | nil => simp [memL] at hk
            | cons p post ih =>
              rw [memL] at hk
              split at hk
              · rename_i e; exact ⟨p, by simp, e.symm⟩
              · obtain ⟨q, hq, e⟩ := ih hk; exact ⟨q, by simp [hq], e⟩
          obtain ⟨p, hp, rfl⟩ := hkm
          have h8 := (h5 p hp).resolve_left hn
          simp only
          rw [← h8, hm2 _ (List.mem_map.2 ⟨p, hp, rfl⟩)]
          cases hpp : memL pre p.1 with
          | none => rw [← h8] at hk; exact absurd hpp hk
          | some q => rw [h4.old _ _ hpp]; rfl
    have hself := hov m (fun _ _ => rfl)
    refine ⟨⟨o, post.map fun p => ρ p.1, W, r.ren ρ, applyM m ρ post⟩, rfl, ?_, ?_, fun e' he hm pn K' hK => ?_⟩
    · simp only [LS.next]
      rw [← hself]
      exact h7
    · intro n hn
      obtain ⟨p, hp, rfl⟩ := h6 n hn
      exact List.mem_map.2 ⟨p, hp, rfl⟩
    · unfold stepO
      rw [hop]
      simp only
      have hx' := hx e' he
      rw [hop] at hx'
      simp only [COp.xs, List.mem_cons, forall_eq_or_imp] at hx'
      have hpost : ∀ n, memL post n ≠ none → ρ n ∈ post.map fun p => ρ p.1 := fun n hn => by
        obtain ⟨q, hq⟩ := Option.ne_none_iff_exists'.1 hn
        clear hov hself h5 h6 h7 hinj h4 h3 hK hm
        induction post with
        | nil => simp [memL] at hn
        | cons p post ih =>
          rw [memL] at hn hq
          split at hn
          · rename_i e; subst e; simp
          · rename_i e
            rw [if_neg e] at hq
            have := ih hn hq
            rw [List.map_cons]
            exact List.mem_cons_of_mem _ this
      refine .inl ⟨g, first, cap, args', pre, .ret r, post, ρ, by rw [hx'.1]; exact h1, by rw [List.map_congr_left hx'.2]; exact h2, h3, ⟨fun n q hq => ?_, hinj, fun n hn hp => ?_⟩, ?_⟩
      · have := h3.dom n (by rw [hq]; simp)
        rw [hm _ (hpost n this)]
        exact h4.old n q hq
      · rw [hm _ (hpost n hn)]
        exact h4.new n hn hp
      · simp only
        rw [hov e'.2 hm]
        exact hK
  · exact h.elim
  · exact h.elim
  · rename_i hc1 hc2 hc3
    have hso : ∀ (e : EM) pn (K : (Nat → AV) → Mem → Prop), (match cpure Γ e.1 o.op with
      | some r => K (putE e.1 o.dst r) e.2
      | none => ∃ nm, match cmem Γ e.1 e.2 nm o.op with
        | some (r, m') => K (putE e.1 o.dst r) m'
        | none => False) → stepO P Γ pn o e.1 e.2 K := by
      intro e pn K hK
      unfold stepO
      split
      · rename_i f args hop; exact absurd hop (hc1 f args)
      · rename_i x hop; exact absurd hop (hc2 x)
      · rename_i neg x hop; exact absurd hop (hc3 neg x)
      · exact hK
    split at h
    · rename_i r hr
      refine ⟨⟨o, [], [], r, m⟩, rfl, ?_, by simp, fun e' he hm pn K' hK => hso e' pn K' ?_⟩
      · simp only [LS.next, overM_nil]; exact h
      · rw [cpure_congr (hx e' he), hr]
        simpa only [LS.next, overM_nil] using hK
    · rename_i hr
      obtain ⟨nm, h⟩ := h
      split at h
      · rename_i r m' hm'
        obtain ⟨k1, k2, k3⟩ := cmem_loc hm'
        refine ⟨⟨o, (cfoot Γ env nm o.op).1, (cfoot Γ env nm o.op).2, r, m'⟩, rfl, ?_, k1, fun e' he hm pn K' hK => hso e' pn K' ?_⟩
        · simp only [LS.next]
          rw [overM_self k2]
          exact h
        · rw [cpure_congr (hx e' he), hr]
          refine ⟨nm, ?_⟩
          rw [cmem_congr (hx e' he), k3 e'.2 hm]
          exact hK
      · exact h.elim

/-- What the text's order does. -/
def thro : List LS → EM → EM
  | [], e => e
  | s :: l, e => thro l (s.next e)
def Locs (P : Program) (Γ : Globs) : List LS → EM → Prop
  | [], _ => True
  | s :: l, e => Loc P Γ e s ∧ Locs P Γ l (s.next e)

theorem run_loc {K : (Nat → AV) → Mem → List (List Nat × List Nat) → Prop} : ∀ {l : List CO} {env : Nat → AV} {m : Mem} {tr : List (List Nat × List Nat)}, runT P Γ l env m tr K →
    ∃ ss : List LS, ss.map LS.c = l ∧ Locs P Γ ss (env, m) ∧ K (thro ss (env, m)).1 (thro ss (env, m)).2 ((ss.map fun s => (s.F, s.W)).reverse ++ tr)
  | [], env, m, tr, h => ⟨[], rfl, trivial, h⟩
  | o :: l, env, m, tr, h => by
    have go : o.guard = none ∨ (∃ s b t, o.guard = some (s, b) ∧ env s = .p (.s (.bool t)) ∧ t = b) → stepT P Γ o env m (fun env m f => runT P Γ l env m (f :: tr) K) →
        ∃ ss : List LS, ss.map LS.c = o :: l ∧ Locs P Γ ss (env, m) ∧ K (thro ss (env, m)).1 (thro ss (env, m)).2 ((ss.map fun s => (s.F, s.W)).reverse ++ tr) := by
      intro hg hs
      obtain ⟨s, rfl, hk, hsub, hl⟩ := step_loc hs
      obtain ⟨ss, h1, h2, h3⟩ := run_loc hk
      refine ⟨s :: ss, by simp [h1], ⟨⟨hsub, fun e' he hm pn K' hK => ?_⟩, h2⟩, by simpa [thro] using h3⟩
      have he1 : ∀ x ∈ s.c.op.xs.flatMap X.rd, e'.1 x = env x := fun x hx => he x (List.mem_append_left _ hx)
      unfold runOps
      rcases hg with hg | ⟨q, b, t, hg, hq, rfl⟩
      · rw [hg]
        exact hl e' he1 hm pn _ hK
      · have : e'.1 q = env q := he q (by simp [CO.rd, hg])
        rw [hg]
        simp only [this, hq, if_true]
        exact hl e' he1 hm pn _ hK
    unfold runT at h
    split at h
    · rename_i hg
      exact go (.inl hg) h
    · rename_i q b hg
      split at h
      · rename_i t hq
        split at h
        · rename_i htb
          exact go (.inr ⟨q, b, t, hg, hq, htb⟩) h
        · rename_i htb
          obtain ⟨ss, h1, h2, h3⟩ := run_loc h
          refine ⟨⟨o, [], [], undA, m⟩ :: ss, by simp [h1], ⟨⟨by simp, fun e' he hm pn K' hK => ?_⟩, ?_⟩, ?_⟩
          · have : e'.1 q = env q := he q (by simp [CO.rd, hg])
            unfold runOps
            simp only [hg, this, hq, htb, if_false]
            simp only [LS.next, overM_nil] at hK
            exact hK
          · simpa only [LS.next, overM_nil] using h2
          · simpa [thro, LS.next, overM_nil] using h3
      · rename_i t hq
        obtain ⟨ss, h1, h2, h3⟩ := run_loc h
        refine ⟨⟨o, [], [], undA, m⟩ :: ss, by simp [h1], ⟨⟨by simp, fun e' he hm pn K' hK => ?_⟩, ?_⟩, ?_⟩
        · have : e'.1 q = env q := he q (by simp [CO.rd, hg])
          unfold runOps
          simp only [hg, this, hq]
          simp only [LS.next, overM_nil] at hK
          exact hK
        · simpa only [LS.next, overM_nil] using h2
        · simpa [thro, LS.next, overM_nil] using h3
      · exact h.elim
end
end Go.Shade

/- Regions that draw their order: where what is not ordered is apart, the text's order is enough. Own work. -/
namespace Go.Shade
open Go

def LS.conf (s s' : LS) : Prop := (∃ d, s.c.dst = some d ∧ (s'.c.dst = some d ∨ d ∈ s'.c.rd)) ∨ (∃ d, s'.c.dst = some d ∧ d ∈ s.c.rd) ∨ (∃ n ∈ s.W, n ∈ s'.F) ∨ ∃ n ∈ s'.W, n ∈ s.F

/-- What holds behind those of S, in the text's order. -/
def foldS (S : Nat → Prop) [DecidablePred S] : Nat → List LS → EM → EM
  | _, [], e => e
  | k, s :: l, e => foldS S (k + 1) l (if S k then s.next e else e)

section
variable {P : Program} {Γ : Globs}

theorem next_env_other {s : LS} {e : EM} {x : Nat} (h : s.c.dst ≠ some x) : (s.next e).1 x = e.1 x := by
  simp only [LS.next]
  cases hd : s.c.dst with
  | none => rfl
  | some d => exact upd_ne _ _ (fun h' => h (by rw [hd, h']))
theorem next_mem_other {s : LS} {e : EM} {n : Nat} (h : n ∉ s.W) : (s.next e).2 n = e.2 n := by
  simp only [LS.next, overM, if_neg h]
theorem next_env_congr {s : LS} {e e' : EM} {x : Nat} (h : e'.1 x = e.1 x) : (s.next e').1 x = (s.next e).1 x := by
  simp only [LS.next]
  cases hd : s.c.dst with
  | none => exact h
  | some d =>
    simp only [putE, upd]
    split
    · rfl
    · exact h
theorem next_mem_congr {s : LS} {e e' : EM} {n : Nat} (h : e'.2 n = e.2 n) : (s.next e').2 n = (s.next e).2 n := by
  simp only [LS.next, overM]
  split
  · rfl
  · exact h

theorem next_comm {s s' : LS} (hs : ∀ n ∈ s.W, n ∈ s.F) (hc : ¬ s.conf s') (e : EM) : s.next (s'.next e) = s'.next (s.next e) := by
  have h1 : ∀ d, s.c.dst = some d → s'.c.dst ≠ some d := fun d hd hd' => hc (.inl ⟨d, hd, .inl hd'⟩)
  have h2 : ∀ n ∈ s.W, n ∉ s'.W := fun n hn hn' => hc (.inr (.inr (.inr ⟨n, hn', hs n hn⟩)))
  apply Prod.ext
  · funext x
    by_cases hx : s.c.dst = some x
    · have hx' := h1 x hx
      rw [next_env_other hx']
      simp only [LS.next, hx, putE, upd_same]
    · rw [next_env_other hx]
      exact next_env_congr (next_env_other hx).symm
  · funext n
    by_cases hn : n ∈ s.W
    · rw [next_mem_other (h2 n hn)]
      simp only [LS.next, overM, if_pos hn]
    · rw [next_mem_other hn]
      exact next_mem_congr (next_mem_other hn).symm

variable {S S' : Nat → Prop} [DecidablePred S] [DecidablePred S']

theorem foldS_next {s : LS} (hs : ∀ n ∈ s.W, n ∈ s.F) : ∀ (l : List LS) (k : Nat) (e : EM), (∀ j s', l[j]? = some s' → S (k + j) → ¬ s.conf s') → foldS S k l (s.next e) = s.next (foldS S k l e)
  | [], _, _, _ => rfl
  | s' :: l, k, e, h => by
    simp only [foldS]
    have ih := fun e => foldS_next hs l (k + 1) e (fun j t ht hS => h (j + 1) t (by simpa using ht) (by rw [show k + (j + 1) = k + 1 + j by omega]; exact hS))
    split
    · rename_i hk
      rw [← ih, next_comm hs (h 0 s' rfl hk)]
    · rw [← ih]

/-- One more. -/
theorem foldS_add {i : Nat} : ∀ (l : List LS) (k j : Nat) (s : LS) (e : EM), l[j]? = some s → i = k + j → ¬ S i → (∀ n, S' n ↔ (n = i ∨ S n)) → (∀ n ∈ s.W, n ∈ s.F) → (∀ j' s', l[j']? = some s' → j < j' → S (k + j') → ¬ s.conf s') →
    foldS S' k l e = s.next (foldS S k l e)
  | [], _, _, _, _, h, _, _, _, _, _ => by simp at h
  | s' :: l, k, 0, s, e, h, hi, hn, hS, hs, hc => by
    simp only [List.getElem?_cons_zero, Option.some.injEq] at h
    subst h
    have hik : i = k := by omega
    subst hik
    simp only [foldS]
    rw [if_pos ((hS _).2 (.inl rfl)), if_neg hn]
    rw [← foldS_next hs l _ e (fun j t ht hSj => hc (j + 1) t (by simpa using ht) (by omega) (by rw [show i + (j + 1) = i + 1 + j by omega]; exact hSj))]
    have same : ∀ (l : List LS) (k' : Nat) (e : EM), i < k' → foldS S' k' l e = foldS S k' l e := by
      intro l
      induction l with
      | nil => intro k' e _; rfl
      | cons t l ih =>
        intro k' e hk'
        simp only [foldS]
        have : S' k' ↔ S k' := ⟨fun h => ((hS k').1 h).resolve_left (by omega), fun h => (hS k').2 (.inr h)⟩
        by_cases hk : S k'
        · rw [if_pos hk, if_pos (this.2 hk), ih _ _ (by omega)]
        · rw [if_neg hk, if_neg (fun h => hk (this.1 h)), ih _ _ (by omega)]
    exact same l (i + 1) _ (by omega)
  | s' :: l, k, j + 1, s, e, h, hi, hn, hS, hs, hc => by
    simp only [foldS]
    have : S' k ↔ S k := ⟨fun h => ((hS k).1 h).resolve_left (by omega), fun h => (hS k).2 (.inr h)⟩
    have ih := fun e => foldS_add l (k + 1) j s e (by simpa using h) (by omega) hn hS hs (fun j' t ht hj hSj => hc (j' + 1) t (by simpa using ht) (by omega) (by rw [show k + (j' + 1) = k + 1 + j' by omega]; exact hSj))
    by_cases hk : S k
    · rw [if_pos hk, if_pos (this.2 hk), ih]
    · rw [if_neg hk, if_neg (fun h => hk (this.1 h)), ih]

/-- Where only such as do not write it turn. -/
theorem foldS_env {x : Nat} : ∀ (l : List LS) (k : Nat) (e e' : EM), e'.1 x = e.1 x → (∀ j s, l[j]? = some s → ¬ (S (k + j) ↔ S' (k + j)) → s.c.dst ≠ some x) → (foldS S' k l e').1 x = (foldS S k l e).1 x
  | [], _, _, _, h, _ => h
  | s :: l, k, e, e', h, hw => by
    simp only [foldS]
    refine foldS_env l (k + 1) _ _ ?_ (fun j t ht hS => hw (j + 1) t (by simpa using ht) (by rw [show k + (j + 1) = k + 1 + j by omega]; exact hS))
    by_cases h1 : S k <;> by_cases h2 : S' k <;> simp only [h1, h2, if_true, if_false]
    · exact next_env_congr h
    · rw [next_env_other (hw 0 s rfl (by simp [h1, h2]))]; exact h
    · rw [next_env_other (hw 0 s rfl (by simp [h1, h2]))]; exact h
    · exact h
theorem foldS_mem {x : Nat} : ∀ (l : List LS) (k : Nat) (e e' : EM), e'.2 x = e.2 x → (∀ j s, l[j]? = some s → ¬ (S (k + j) ↔ S' (k + j)) → x ∉ s.W) → (foldS S' k l e').2 x = (foldS S k l e).2 x
  | [], _, _, _, h, _ => h
  | s :: l, k, e, e', h, hw => by
    simp only [foldS]
    refine foldS_mem l (k + 1) _ _ ?_ (fun j t ht hS => hw (j + 1) t (by simpa using ht) (by rw [show k + (j + 1) = k + 1 + j by omega]; exact hS))
    by_cases h1 : S k <;> by_cases h2 : S' k <;> simp only [h1, h2, if_true, if_false]
    · exact next_mem_congr h
    · rw [next_mem_other (hw 0 s rfl (by simp [h1, h2]))]; exact h
    · rw [next_mem_other (hw 0 s rfl (by simp [h1, h2]))]; exact h
    · exact h

theorem locs_at : ∀ {l : List LS} {e : EM}, Locs P Γ l e → ∀ (j : Nat) (s : LS) (k : Nat), l[j]? = some s → ∃ e', Loc P Γ e' s ∧ ∀ (S : Nat → Prop) [DecidablePred S], (∀ n, S n ↔ n < k + j) → e' = foldS S k l e
  | [], _, _, j, s, _, h => by simp at h
  | s' :: l, e, hL, 0, s, k, h => by
    simp only [List.getElem?_cons_zero, Option.some.injEq] at h
    subst h
    refine ⟨e, hL.1, fun S _ hS => ?_⟩
    have none : ∀ (l : List LS) (k' : Nat) (e : EM), k ≤ k' → foldS S k' l e = e := by
      intro l
      induction l with
      | nil => intro _ _ _; rfl
      | cons t l ih =>
        intro k' e hk
        simp only [foldS]
        rw [if_neg (fun h => by have := (hS k').1 h; omega), ih _ _ (by omega)]
    exact (none (s' :: l) k e (Nat.le_refl _)).symm
  | s' :: l, e, hL, j + 1, s, k, h => by
    obtain ⟨e', h1, h2⟩ := locs_at hL.2 j s (k + 1) (by simpa using h)
    refine ⟨e', h1, fun S _ hS => ?_⟩
    rw [h2 S (fun n => by rw [hS n]; omega)]
    simp only [foldS]
    rw [if_pos ((hS k).2 (by omega))]

theorem thro_fold (S : Nat → Prop) [DecidablePred S] : ∀ (l : List LS) (k : Nat) (e : EM), (∀ n, n < k + l.length → S n) → thro l e = foldS S k l e
  | [], _, _, _ => rfl
  | s :: l, k, e, h => by
    simp only [thro, foldS]
    rw [if_pos (h k (by simp))]
    exact thro_fold S l (k + 1) _ (fun n hn => h n (by simp; omega))

/-! ### Which are not ordered -/
def masks (acc : List Nat) : List (List Nat) → List Nat
  | [] => acc
  | b :: r => masks (acc ++ [b.foldl (fun m k => m ||| 2 ^ k ||| acc.getD k 0) 0]) r
def down (bef : List (List Nat)) (S : Nat → Prop) : Prop := ∀ j b, bef[j]? = some b → S j → ∀ k ∈ b, S k

theorem fold_bits (acc : List Nat) : ∀ (b : List Nat) (m i : Nat), (b.foldl (fun m k => m ||| 2 ^ k ||| acc.getD k 0) m).testBit i = true → m.testBit i = true ∨ ∃ k ∈ b, i = k ∨ (acc.getD k 0).testBit i = true
  | [], m, i, h => .inl h
  | k :: b, m, i, h => by
    rw [List.foldl_cons] at h
    rcases fold_bits acc b _ i h with h | ⟨k', hk', h⟩
    · rw [Nat.testBit_or, Nat.testBit_or, Nat.testBit_two_pow] at h
      simp only [Bool.or_eq_true, decide_eq_true_eq] at h
      rcases h with (h | h) | h
      · exact .inl h
      · exact .inr ⟨k, by simp, .inl h.symm⟩
      · exact .inr ⟨k, by simp, .inr h⟩
    · exact .inr ⟨k', by simp [hk'], h⟩

theorem masks_sound (T : Nat → Prop) (bef : List (List Nat)) (hT : down bef T) : ∀ (r : List (List Nat)) (acc : List Nat), (∀ i, r[i]? = bef[acc.length + i]?) → (∀ j i, T j → (acc.getD j 0).testBit i = true → T i) →
    ∀ j i, T j → ((masks acc r).getD j 0).testBit i = true → T i
  | [], acc, _, hacc => hacc
  | b :: r, acc, hr, hacc => by
    rw [masks]
    refine masks_sound T bef hT r _ (fun i => ?_) (fun j i hj h => ?_)
    · have := hr (i + 1)
      rw [List.getElem?_cons_succ] at this
      rw [this]
      simp only [List.length_append, List.length_cons, List.length_nil]
      congr 1
      omega
    · by_cases hlt : j < acc.length
      · rw [List.getD_eq_getElem?_getD, List.getElem?_append_left hlt, ← List.getD_eq_getElem?_getD] at h
        exact hacc j i hj h
      · by_cases heq : j = acc.length
        · subst heq
          rw [List.getD_eq_getElem?_getD, List.getElem?_append_right (Nat.le_refl _)] at h
          simp only [Nat.sub_self, List.getElem?_cons_zero, Option.getD_some] at h
          have hb : bef[acc.length]? = some b := by have := hr 0; simpa using this.symm
          rcases fold_bits acc b 0 i h with h | ⟨k, hk, h⟩
          · simp at h
          · have hTk := hT _ _ hb hj k hk
            rcases h with rfl | h
            · exact hTk
            · exact hacc k i hTk h
        · rw [List.getD_eq_getElem?_getD, List.getElem?_append_right (by omega)] at h
          have : j - acc.length = (j - acc.length - 1) + 1 := by omega
          rw [this] at h
          simp at h

/-- Slots and names: those of an operation. -/
structure Tch where
  rd : List Nat
  dst : Option Nat
  F : List Nat
  W : List Nat
def hasD (d : Option Nat) (l : List Nat) : Bool := match d with
  | some d => l.contains d
  | none => false
def Tch.confB (s s' : Tch) : Bool := (s.dst.isSome && s.dst == s'.dst) || hasD s.dst s'.rd || hasD s'.dst s.rd || s.W.any (fun n => s'.F.contains n) || s'.W.any (fun n => s.F.contains n)
def LS.tch (s : LS) : Tch := ⟨s.c.rd, s.c.dst, s.F, s.W⟩
theorem hasD_spec {d : Option Nat} {l : List Nat} : hasD d l = true ↔ ∃ x, d = some x ∧ x ∈ l := by
  cases d with
  | none => simp [hasD]
  | some d => simp [hasD]
theorem conf_spec {s s' : LS} (h : s.tch.confB s'.tch = false) : ¬ s.conf s' := by
  intro hc
  simp only [Tch.confB, LS.tch, Bool.or_eq_false_iff] at h
  obtain ⟨⟨⟨⟨h1, h2⟩, h3⟩, h4⟩, h5⟩ := h
  rcases hc with ⟨d, hd, h | h⟩ | ⟨d, hd, h⟩ | ⟨n, hn, h⟩ | ⟨n, hn, h⟩
  · simp [hd, h] at h1
  · rw [(hasD_spec).2 ⟨d, hd, h⟩] at h2; cases h2
  · rw [(hasD_spec).2 ⟨d, hd, h⟩] at h3; cases h3
  · have := (List.any_eq_false.1 h4) n hn; simp [h] at this
  · have := (List.any_eq_false.1 h5) n hn; simp [h] at this

def apartB (ms : List Nat) (ts : List Tch) : Bool := ts.zipIdx.all fun (t, j) => (ts.take j).zipIdx.all fun (s, i) => (ms.getD j 0).testBit i || !s.confB t
def tches : List CO → List (List Nat × List Nat) → List Tch
  | c :: l, f :: r => ⟨c.rd, c.dst, f.1, f.2⟩ :: tches l r
  | _, _ => []
def indep (l : List CO) (bef : List (List Nat)) (tr : List (List Nat × List Nat)) : Bool :=
  bef.zipIdx.all (fun ((b, j) : List Nat × Nat) => b.all fun (k : Nat) => decide (k < j)) && apartB (masks [] bef) (tches l tr.reverse)

theorem tches_ls : ∀ (ss : List LS), tches (ss.map LS.c) (ss.map fun s => (s.F, s.W)) = ss.map LS.tch
  | [] => rfl
  | s :: ss => by simp [tches, LS.tch, tches_ls ss]

theorem indep_spec {ss : List LS} {bef : List (List Nat)} (h : indep (ss.map LS.c) bef ((ss.map fun s => (s.F, s.W)).reverse) = true) :
    (∀ (j : Nat) b, bef[j]? = some b → ∀ k ∈ b, k < j) ∧ ∀ T : Nat → Prop, down bef T → ∀ (i j : Nat) (s t : LS), ss[i]? = some s → ss[j]? = some t → i < j → T j → T i ∨ ¬ s.conf t := by
  simp only [indep, Bool.and_eq_true, List.reverse_reverse, tches_ls, apartB] at h
  obtain ⟨h1, h2⟩ := h
  refine ⟨fun j b hb k hk => ?_, fun T hT i j s t hs ht hij hTj => ?_⟩
  · have := List.all_eq_true.1 h1 (b, j) (List.mem_zipIdx_iff_getElem?.2 (by simpa using hb))
    have := List.all_eq_true.1 this k hk
    simpa using this
  · have h3 := List.all_eq_true.1 h2 (t.tch, j) (List.mem_zipIdx_iff_getElem?.2 (by simp [ht]))
    have h4 := List.all_eq_true.1 h3 (s.tch, i) (List.mem_zipIdx_iff_getElem?.2 (by simp [hij, hs]))
    simp only [Bool.or_eq_true, Bool.not_eq_true'] at h4
    rcases h4 with h4 | h4
    · exact .inl (masks_sound T bef hT bef [] (fun i => by simp) (fun j i _ h => by simp at h) j i hTj h4)
    · exact .inr (conf_spec h4)
end
end Go.Shade

/- The rule for regions that draw their order. Own work. -/
namespace Go.Shade
open Go

section
variable {P : Program} {N : Nat} {Γ : Globs} {R : RD} {g0 : Gh} {w0 : World} {m0 : Mem}

def on (listed : Array Bool) (j : Nat) : Prop := listed.getD j false = true
instance (listed : Array Bool) : DecidablePred (on listed) := fun j => inferInstanceAs (Decidable (listed.getD j false = true))

theorem on_set {listed : Array Bool} {i n : Nat} (hi : i < listed.size) : on (listed.setIfInBounds i true) n ↔ (n = i ∨ on listed n) := by
  unfold on
  rw [Array.getD_eq_getD_getElem?, Array.getD_eq_getD_getElem?, Array.getElem?_setIfInBounds]
  by_cases h : i = n
  · subst h; simp [hi]
  · simp [h, Ne.symm h]

theorem mapM_get {α β : Type} {f : α → Option β} : ∀ {l : List α} {r : List β}, l.mapM f = some r → l.length = r.length ∧ ∀ (i : Nat) x, l[i]? = some x → ∃ y, r[i]? = some y ∧ f x = some y
  | [], r, h => by
    simp only [List.mapM_nil, pure, Option.some.injEq] at h
    subst h
    exact ⟨rfl, fun i x h => by simp at h⟩
  | a :: l, r, h => by
    simp only [List.mapM_cons, bind, Option.bind_eq_some_iff, pure, Option.some.injEq] at h
    obtain ⟨b, hb, r', hr, rfl⟩ := h
    obtain ⟨h1, h2⟩ := mapM_get hr
    refine ⟨by simp [h1], fun i x hx => ?_⟩
    cases i with
    | zero => simp at hx; subst hx; exact ⟨b, rfl, hb⟩
    | succ i => exact h2 i x (by simpa using hx)

theorem runOps_one {ops : Array Oper} {i : Nat} {o : Oper} {c : CO} (ho : ops[i]? = some o) (hc : cO P N ops o = some c.er) {g : Gh} {w : World} {a : Act} {env : Nat → AV} {m : Mem} (hS : IS Γ N R g0 w0 m0 g w a env m)
    {K' : (Nat → AV) → Mem → Prop} {pn : Value → (Nat → AV) → Mem → Prop} {K : Act → World → Prop} {Q : Exit → Act → World → Prop} (hr : runOps P Γ pn [c] env m K')
    (hK : ∀ g w a env m, IS Γ N R g0 w0 m0 g w a env m → K' env m → K a w) (hP : ∀ v g w a env m, IS Γ N R g0 w0 m0 g w a env m → pn v env m → Q (.panic [{ v := v, recovered := false }]) a w) : wpOp P ops Q i K a w := by
  obtain ⟨_, hd, _, hg⟩ := cO_op hc
  have hd : o.dst = c.dst := hd
  simp only [CO.er] at hg
  unfold wpOp
  rw [ho]
  simp only
  unfold runOps at hr
  rcases hg with ⟨h1, h2⟩ | ⟨j, b, q, d, h1, h2, h3, hdN, h4⟩
  · rw [h2] at hr
    rw [if_pos (by simp [Region.wanted, h1])]
    exact .inl (step_sound hS hc hr hK hP)
  · rw [h4] at hr
    simp only at hr
    split at hr
    · rename_i t he
      have hw := guard_wanted hS h1 h2 h3 he hdN
      rw [hw]
      split at hr
      · rename_i htb
        rw [if_pos (by simp [htb])]
        exact .inl (step_sound hS hc hr hK hP)
      · rename_i htb
        rw [if_neg (by simp [htb]), hd]
        exact hK _ _ _ _ _ (hS.junk c.dst) hr
    · rename_i t he
      rw [guard_not hS h1 h2 h3 he hdN, if_neg (by simp), hd]
      exact hK _ _ _ _ _ (hS.junk c.dst) hr
    · exact hr.elim

theorem any_order {ops : Array Oper} {lc : List CO} (hops : ops.toList.mapM (cO P N ops) = some (lc.map CO.er)) {ss : List LS} (hss : ss.map LS.c = lc) {e0 : EM} (hL : Locs P Γ ss e0)
    (hI : indep lc (befs ops) ((ss.map fun s => (s.F, s.W)).reverse) = true) {Q : Exit → Act → World → Prop}
    (hQ : ∀ g w a env m, IS Γ N R g0 w0 m0 g w a env m → (env, m) = thro ss e0 → Q .normal a w) :
    ∀ (fuel : Nat) (listed : Array Bool) (g : Gh) (w : World) (a : Act), listed.size = ops.size → listed.toList.count false = fuel → down (befs ops) (on listed) →
      IS Γ N R g0 w0 m0 g w a (foldS (on listed) 0 ss e0).1 (foldS (on listed) 0 ss e0).2 → wpAny P .any ops Q fuel listed a w := by
  subst hss
  obtain ⟨hlt, hconf⟩ := indep_spec hI
  obtain ⟨hlen, hget⟩ := mapM_get hops
  have hn : ss.length = ops.size := by simpa using hlen.symm
  have hbef : ∀ (i : Nat) o, ops[i]? = some o → (befs ops)[i]? = some ((o.after.toList.filter fun e => Region.binds .any e).map (·.on)) := fun i o ho => by
    unfold befs
    rw [List.getElem?_map, Array.getElem?_toList, ho]
    rfl
  have ready : ∀ (listed : Array Bool), listed.size = ops.size → Region.ready .any ops listed = [] → ∀ j, j < ops.size → on listed j := by
    intro listed hsz hr j
    induction j using Nat.strongRecOn with
    | _ j ih =>
      intro hj
      by_cases hon : on listed j
      · exact hon
      · exfalso
        have hmem : j ∈ Region.ready .any ops listed := by
          refine mem_ready.2 ⟨?_, ops[j], Array.getElem?_eq_getElem hj, fun e he hb => ?_⟩
          · unfold on at hon
            rw [Array.getD_eq_getD_getElem?, Array.getElem?_eq_getElem (by omega)] at hon ⊢
            simpa using hon
          · have hb' := hbef j _ (Array.getElem?_eq_getElem hj)
            have hlt' := hlt j _ hb' e.on (List.mem_map.2 ⟨e, List.mem_filter.2 ⟨by simpa using he, hb⟩, rfl⟩)
            exact ih e.on hlt' (by omega)
        rw [hr] at hmem
        cases hmem
  have fin : ∀ (listed : Array Bool) g w a, listed.size = ops.size → Region.ready .any ops listed = [] → IS Γ N R g0 w0 m0 g w a (foldS (on listed) 0 ss e0).1 (foldS (on listed) 0 ss e0).2 → Q .normal a w := by
    intro listed g w a hsz hr hS
    refine hQ g w a _ _ hS ?_
    exact (thro_fold (on listed) ss 0 e0 (fun n hlt => ready listed hsz hr n (by omega))).symm
  have ready' : ∀ (listed : Array Bool), listed.toList.count false = 0 → Region.ready .any ops listed = [] := by
    intro listed hc
    rw [List.eq_nil_iff_forall_not_mem]
    intro j hj
    obtain ⟨h1, _⟩ := mem_ready.1 hj
    rw [List.count_eq_zero] at hc
    refine hc ?_
    rw [Array.getD_eq_getD_getElem?] at h1
    cases hg : listed[j]? with
    | none => rw [hg] at h1; cases h1
    | some b =>
      rw [hg] at h1
      simp only [Option.getD_some] at h1
      subst h1
      exact Array.mem_def.1 (Array.mem_of_getElem? hg)
  intro fuel
  induction fuel with
  | zero =>
    intro listed g w a hsz hc hd hS
    exact ⟨ready' listed hc, fin listed g w a hsz (ready' listed hc) hS⟩
  | succ fuel ih =>
    intro listed g w a hsz hc hd hS
    refine ⟨fun hr => fin listed g w a hsz hr hS, fun i hi => ?_⟩
    obtain ⟨h0, o, ho, hall⟩ := mem_ready.1 hi
    obtain ⟨c, hci, hco⟩ := hget i o (by simpa using ho)
    rw [List.getElem?_map, List.getElem?_map, Option.map_map] at hci
    obtain ⟨s, hs, rfl⟩ := Option.map_eq_some_iff.1 hci
    have hil : i < listed.size := by rw [hsz]; exact (Array.getElem?_eq_some_iff.1 ho).1
    have hnon : ¬ on listed i := by
      unfold on
      rw [Array.getD_eq_getD_getElem?, Array.getElem?_eq_getElem hil] at h0 ⊢
      simpa using h0
    -- with i the set is still closed
    have hdown : down (befs ops) (on (listed.setIfInBounds i true)) := by
      intro j b hb hj k hk
      rw [on_set hil] at hj ⊢
      rcases hj with rfl | hj
      · rw [hbef _ o ho] at hb
        cases hb
        obtain ⟨e, he, rfl⟩ := List.mem_map.1 hk
        obtain ⟨he1, he2⟩ := List.mem_filter.1 he
        exact .inr (hall e (by simpa using he1) he2)
      · exact .inr (hd j b hb hj k hk)
    obtain ⟨e', hloc, he'⟩ := locs_at hL i s 0 hs
    have he' := he' (fun n => n < i) (fun n => by rw [Nat.zero_add])
    -- what i looks at is as the text has it
    have hdiff : ∀ j t, ss[j]? = some t → ¬ (j < i ↔ on listed j) → ¬ s.conf t ∧ ¬ t.conf s := by
      intro j t ht hne
      by_cases hji : j < i
      · have hnj : ¬ on listed j := fun h => hne ⟨fun _ => h, fun _ => hji⟩
        have h1 := hconf (on (listed.setIfInBounds i true)) hdown j i t s ht hs hji ((on_set hil).2 (.inl rfl))
        have h2 : ¬ t.conf s := h1.resolve_left (fun h => by
          rcases (on_set hil).1 h with h | h
          · omega
          · exact hnj h)
        refine ⟨fun h => h2 ?_, h2⟩
        rcases h with ⟨d, hd, h | h⟩ | ⟨d, hd, h⟩ | ⟨n, hn, h⟩ | ⟨n, hn, h⟩
        · exact .inl ⟨d, h, .inl hd⟩
        · exact .inr (.inl ⟨d, hd, h⟩)
        · exact .inl ⟨d, hd, .inr h⟩
        · exact .inr (.inr (.inr ⟨n, hn, h⟩))
        · exact .inr (.inr (.inl ⟨n, hn, h⟩))
      · have hoj : on listed j := Classical.byContradiction fun h => hne ⟨fun h' => absurd h' hji, fun h' => absurd h' h⟩
        have hne' : j ≠ i := fun h => hnon (h ▸ hoj)
        have h1 := hconf (on listed) hd i j s t hs ht (by omega) hoj
        have h2 : ¬ s.conf t := h1.resolve_left hnon
        refine ⟨h2, fun h => h2 ?_⟩
        rcases h with ⟨d, hd, h | h⟩ | ⟨d, hd, h⟩ | ⟨n, hn, h⟩ | ⟨n, hn, h⟩
        · exact .inl ⟨d, h, .inl hd⟩
        · exact .inr (.inl ⟨d, hd, h⟩)
        · exact .inl ⟨d, hd, .inr h⟩
        · exact .inr (.inr (.inr ⟨n, hn, h⟩))
        · exact .inr (.inr (.inl ⟨n, hn, h⟩))
    have hE : ∀ x ∈ s.c.rd, (foldS (on listed) 0 ss e0).1 x = e'.1 x := fun x hx => by
      rw [he']
      refine foldS_env ss 0 e0 e0 rfl (fun j t ht hne hdst => ?_)
      rw [Nat.zero_add] at hne
      exact (hdiff j t ht hne).1 (.inr (.inl ⟨x, hdst, hx⟩))
    have hM : ∀ n ∈ s.F, (foldS (on listed) 0 ss e0).2 n = e'.2 n := fun n hn => by
      rw [he']
      refine foldS_mem ss 0 e0 e0 rfl (fun j t ht hne hw => ?_)
      rw [Nat.zero_add] at hne
      exact (hdiff j t ht hne).1 (.inr (.inr (.inr ⟨n, hw, hn⟩)))
    have hrun := hloc.run (foldS (on listed) 0 ss e0) hE hM (fun _ _ _ => False) (fun env m => (env, m) = s.next (foldS (on listed) 0 ss e0)) rfl
    refine runOps_one ho hco hS hrun (fun g w a env m hS' heq => ?_) (fun v g w a env m _ h => h.elim)
    have hadd : foldS (on (listed.setIfInBounds i true)) 0 ss e0 = s.next (foldS (on listed) 0 ss e0) := by
      refine foldS_add ss 0 i s e0 hs (by omega) hnon (fun n => on_set hil) hloc.sub (fun j t ht hij hoj => ?_)
      rw [Nat.zero_add] at hoj
      exact (hdiff j t ht (fun h => by have := h.2 hoj; omega)).1
    refine ih (listed.setIfInBounds i true) g w a (by simpa using hsz) ?_ hdown ?_
    · have h1 : listed[i] = false := by
        rw [Array.getD_eq_getD_getElem?, Array.getElem?_eq_getElem hil] at h0
        simpa using h0
      rw [Array.toList_setIfInBounds, List.count_set (by simpa using hil)]
      simp [h1, hc]
    · rw [hadd, ← heq]
      exact hS'

theorem vld_regd (hm : P.follows .mixedOrders = true) {Q : QS} {env : Nat → AV} {m : Mem} {l : List CO} {bef : List (List Nat)}
    (h : runT P Γ l env m [] (fun env m tr => indep l bef tr = true ∧ Q .normal env m)) : Vld P Γ N R (.regd l bef) Q env m := by
  intro c0 hc g0 w0 m0 g w a hS
  simp only [erase] at hc
  cases c0 with
  | region id ops dr =>
    simp only [cC] at hc
    obtain ⟨l', hl', hl⟩ := Option.map_eq_some_iff.1 hc
    split at hl
    · rename_i hdr
      simp only [CC.regd.injEq] at hl
      obtain ⟨rfl, rfl⟩ := hl
      subst hdr
      obtain ⟨ss, h1, h2, h3, h4⟩ := run_loc h
      rw [List.append_nil] at h3
      refine wp_region_any hm (any_order hl' h1 h2 h3 (Q := Lift Γ N R g0 w0 m0 Q) (g0 := g0) (w0 := w0) (m0 := m0) (R := R) (fun g w a env m hS' he => ?_) ops.size _ g _ a (by simp) (by simp) ?_ ?_)
      · refine ⟨g, env, m, hS', ?_⟩
        have e1 : env = (thro ss (_, _)).1 := congrArg Prod.fst he
        have e2 : m = (thro ss (_, _)).2 := congrArg Prod.snd he
        rw [e1, e2]
        exact h4
      · intro j b _ hj
        unfold on at hj
        rw [Array.getD_eq_getD_getElem?] at hj
        simp only [Array.getElem?_replicate] at hj
        split at hj <;> simp at hj
      · have none : ∀ (l : List LS) (k : Nat) (e : EM), foldS (on (Array.replicate ops.size false)) k l e = e := by
          intro l
          induction l with
          | nil => intro _ _; rfl
          | cons t l ih =>
            intro k e
            simp only [foldS]
            rw [if_neg (fun h => ?_), ih]
            unfold on at h
            rw [Array.getD_eq_getD_getElem?] at h
            simp only [Array.getElem?_replicate] at h
            split at h <;> simp at h
        rw [none]
        have ho := hS.rel.rel.same (w' := { w with drawn := w.drawn + 1 }) rfl ⟨rfl, rfl, rfl⟩
        exact ⟨⟨ho.rel, hS.rel.size, hS.rel.env⟩, hS.st.trans ho.st, hS.nm, hS.dfs⟩
    · cases hl
  | seq x y => simp only [cC] at hc; split at hc <;> cases hc
  | cond x y z => simp only [cC] at hc; split at hc <;> cases hc
  | block i x => simp only [cC] at hc; obtain ⟨_, _, hl⟩ := Option.map_eq_some_iff.1 hc; cases hl
  | loop x => simp only [cC] at hc; obtain ⟨_, _, hl⟩ := Option.map_eq_some_iff.1 hc; cases hl
  | _ => cases hc
end
end Go.Shade

/- Evaluation of code over lists of slots and names, to be done by simp, one step at a time, values first. Own work. -/
namespace Go.Shade
open Go

def bindO {α : Type} (o : Option α) (k : α → Prop) : Prop := ∃ a, o = some a ∧ k a
def putL (L : EL) (dst : Option Nat) (r : AV) : EL := match dst with
  | some d => (d, r) :: L
  | none => L
theorem look_putL (L : EL) (dst : Option Nat) (r : AV) : look (putL L dst r) = putE (look L) dst r := by
  cases dst with
  | none => rfl
  | some d => funext i; rfl
theorem memL_cons (M : ML) (n : Nat) (r : Res) : memL ((n, r) :: M) = upd (memL M) n (some r) := by
  funext i
  simp [memL, upd]

abbrev QE := EX → EL → ML → Prop
def toQ (Q : QE) : QS := fun e env m => ∃ L M, env = look L ∧ m = memL M ∧ Q e L M
def toK (K : EL → ML → Prop) : (Nat → AV) → Mem → Prop := fun env m => ∃ L M, env = look L ∧ m = memL M ∧ K L M
def toP (pn : Value → EL → ML → Prop) : Value → (Nat → AV) → Mem → Prop := fun v env m => ∃ L M, env = look L ∧ m = memL M ∧ pn v L M

/-! ### Memory -/
def loadE (agg : Bool) (n : Nat) (M : ML) : AV → Option AV
  | .ptr b off => match memL M b with
    | some (.box cs _) => subA agg cs off n
    | _ => none
  | .cptr cs => subP agg cs n
  | _ => none
def storeE (n : Nat) (M : ML) (x : AV) : AV → Option ML
  | .ptr b off => match memL M b with
    | some (.box cs false) => if x.celled && x.cells.all AV.oneCell && x.cells.length == n && decide (off + n ≤ cs.length) then some ((b, .box (cs.take off ++ x.cells ++ cs.drop (off + n)) false) :: M) else none
    | _ => none
  | _ => none
def freshE (M : ML) : Bool := (memL M M.length).isNone
def boxE (M : ML) (x : AV) : Option (AV × ML) := if freshE M && x.celled then some (.ptr M.length 0, (M.length, .box x.cells false) :: M) else none
def bsliceE (M : ML) (sz len : Nat) (zero : List PV) (vs : List (Nat × AV)) : Option (AV × ML) :=
  (vs.mapM (fun (p : Nat × AV) => (toPVs p.2.cells).map fun l => (p.1, l))).bind fun ps =>
    if freshE M && (vs.all fun p => p.2.celled) && (ps.all fun p => p.2.length == sz && p.2.all PV.oneCell && decide (p.1 < len)) && zero.length == sz && zero.all PV.oneCell && decide (len ≤ 281474976710656) then
      some (.own M.length sz (setEls (List.replicate len zero) ps), (M.length, .tok) :: M) else none
def appE (M : ML) (sz bytes : Nat) (zero : List PV) (s x : AV) : Option (AV × ML) :=
  (x.asSrc sz).bind fun ys => (s.asSl sz).bind fun xs =>
    if freshE M ∧ zero.length = sz ∧ sz ≠ 0 ∧ bytes ≠ 0 ∧ zero.all PV.oneCell ∧ (xs.length + ys.length) * bytes ≤ 140737488355328 then
      match s with
      | .own t _ _ => match memL M t with
        | some .tok => some (.own M.length sz (xs ++ ys), (M.length, .tok) :: (t, .dead) :: M)
        | _ => none
      | .p (.s (.slice none 0 0)) => some (.own M.length sz ys, (M.length, .tok) :: M)
      | _ => none
    else none
def intO : Option AV → Option (Option Int)
  | none => some none
  | some x => x.asInt.map some
def asliceE (M : ML) (sz len : Nat) (lo hi : Option AV) : AV → Option (AV × ML)
  | .ptr b off => match memL M b with
    | some (.box cs _) => (intO lo).bind fun lo => (intO hi).bind fun hi => (bounds len lo hi).bind fun (l, h) => (toPVs ((cs.drop (off + l)).take (h - l))).bind fun ps =>
      if sz = 1 ∧ off + h ≤ cs.length ∧ ps.all PV.oneCell ∧ len ≤ 281474976710656 then some (.p (.sl 1 (ps.map fun p => [p])), (b, .box cs true) :: M) else none
    | _ => none
  | _ => none

/-- Operations that came later. -/
def extE (e : EOp) (vs : List AV) (M : ML) : Option (AV × ML) := match ePure e vs with
  | some r => some (r, M)
  | none => (eMem e vs (memL M) M.length).map fun p => (p.1, p.2 ++ M)
theorem memL_app : ∀ (us M : ML), memL (us ++ M) = updL (memL M) us
  | [], M => rfl
  | (k, r) :: us, M => by
    funext n
    have ih := congrFun (memL_app us M) n
    simp only [updL] at ih ⊢
    rw [List.cons_append, memL, memL]
    by_cases h : n = k
    · simp [h]
    · simp only [if_neg h]
      exact ih

/-! ### Operations -/
def callE (P : Program) (Γ : Globs) (pn : Value → EL → ML → Prop) (fv : AV) (args : List AV) (dst : Option Nat) (L : EL) (M : ML) (K : EL → ML → Prop) : Prop :=
  callO P Γ (toP pn) fv args dst (look L) (memL M) (toK K)
def panE (pn : Value → EL → ML → Prop) (x : AV) (L : EL) (M : ML) : Prop := ∃ t v, x = .p (.s (.iface t v)) ∧ pn (.iface t v) L M
def stepE (P : Program) (Γ : Globs) (pn : Value → EL → ML → Prop) (o : CO) (L : EL) (M : ML) (K : EL → ML → Prop) : Prop :=
  match o.op with
  | .call f args => callE P Γ pn (f.ev Γ (look L)) (args.map (X.ev Γ (look L))) o.dst L M K
  | .panic x => panE pn (x.ev Γ (look L)) L M
  | .isnil neg x => nilO neg (x.ev Γ (look L)) fun r => K (putL L o.dst r) M
  | .load agg n a => bindO (loadE agg n M (a.ev Γ (look L))) fun r => K (putL L o.dst r) M
  | .store n a x => bindO (storeE n M (x.ev Γ (look L)) (a.ev Γ (look L))) fun M' => K (putL L o.dst .junk) M'
  | .box x => bindO (boxE M (x.ev Γ (look L))) fun r => K (putL L o.dst r.1) r.2
  | .alloc zero => bindO (boxE M (.agg (zero.map AV.p))) fun r => K (putL L o.dst r.1) r.2
  | .bslice sz len zero parts => bindO (bsliceE M sz len zero (parts.map fun p => (p.1, p.2.ev Γ (look L)))) fun r => K (putL L o.dst r.1) r.2
  | .append sz bytes zero s x => bindO (appE M sz bytes zero (s.ev Γ (look L)) (x.ev Γ (look L))) fun r => K (putL L o.dst r.1) r.2
  | .aslice sz len x lo hi => bindO (asliceE M sz len (lo.map (X.ev Γ (look L))) (hi.map (X.ev Γ (look L))) (x.ev Γ (look L))) fun r => K (putL L o.dst r.1) r.2
  | .ext e xs => bindO (extE e (xs.map (X.ev Γ (look L))) M) fun r => K (putL L o.dst r.1) r.2
  | c => bindO (cpure Γ (look L) c) fun r => K (putL L o.dst r) M
def gateE (v : AV) (b : Bool) (A B : Prop) : Prop := (∃ t, v = .bool t ∧ (t = b → A) ∧ (t ≠ b → B)) ∨ (v = undA ∧ B)
def runE (P : Program) (Γ : Globs) (pn : Value → EL → ML → Prop) : List CO → EL → ML → (EL → ML → Prop) → Prop
  | [], L, M, K => K L M
  | ⟨dst, op, none⟩ :: l, L, M, K => stepE P Γ pn ⟨dst, op, none⟩ L M (fun L M => runE P Γ pn l L M K)
  | ⟨dst, op, some (s, b)⟩ :: l, L, M, K => gateE (look L s) b (stepE P Γ pn ⟨dst, op, some (s, b)⟩ L M (fun L M => runE P Γ pn l L M K)) (runE P Γ pn l (putL L dst undA) M K)

section
variable {P : Program} {Γ : Globs} {pn : Value → EL → ML → Prop} {L : EL} {M : ML} {K : EL → ML → Prop} {o : CO}

theorem toK_put {dst : Option Nat} {r : AV} (h : K (putL L dst r) M) : toK K (putE (look L) dst r) (memL M) := ⟨_, _, (look_putL _ _ _).symm, rfl, h⟩

theorem parts_eq : ∀ parts : List (Nat × X), (parts.mapM fun (p : Nat × X) => (toPVs (p.2.ev Γ (look L)).cells).map fun l => (p.1, l)) = (parts.map fun p => (p.1, p.2.ev Γ (look L))).mapM (fun (p : Nat × AV) => (toPVs p.2.cells).map fun l => (p.1, l))
  | [] => rfl
  | p :: parts => by rw [List.map_cons, List.mapM_cons, List.mapM_cons, parts_eq parts]

theorem cmem_box {x : X} {r : AV × ML} (h : boxE M (x.ev Γ (look L)) = some r) : cmem Γ (look L) (memL M) M.length (.box x) = some (r.1, memL r.2) := by
  unfold boxE at h
  split at h
  · rename_i hc
    cases h
    simp only [Bool.and_eq_true, freshE, Option.isNone_iff_eq_none] at hc
    simp only [cmem, hc.1, hc.2, if_true, memL_cons]
  · cases h

theorem stepE_sound (h : stepE P Γ pn o L M K) : stepO P Γ (toP pn) o (look L) (memL M) (toK K) := by
  obtain ⟨dst, op, gd⟩ := o
  have pure : (∃ r, cpure Γ (look L) op = some r ∧ K (putL L dst r) M) → (∀ f args, op ≠ .call f args) → (∀ x, op ≠ .panic x) → (∀ neg x, op ≠ .isnil neg x) → stepO P Γ (toP pn) ⟨dst, op, gd⟩ (look L) (memL M) (toK K) := by
    rintro ⟨r, hr, hk⟩ h1 h2 h3
    unfold stepO
    split
    · rename_i f args e; exact absurd e (h1 f args)
    · rename_i x e; exact absurd e (h2 x)
    · rename_i neg x e; exact absurd e (h3 neg x)
    · simp only [hr]
      exact toK_put hk
  have mem : (∃ nm r M', cpure Γ (look L) op = none ∧ cmem Γ (look L) (memL M) nm op = some (r, memL M') ∧ K (putL L dst r) M') → (∀ f args, op ≠ .call f args) → (∀ x, op ≠ .panic x) → (∀ neg x, op ≠ .isnil neg x) → stepO P Γ (toP pn) ⟨dst, op, gd⟩ (look L) (memL M) (toK K) := by
    rintro ⟨nm, r, M', hp, hr, hk⟩ h1 h2 h3
    unfold stepO
    split
    · rename_i f args e; exact absurd e (h1 f args)
    · rename_i x e; exact absurd e (h2 x)
    · rename_i neg x e; exact absurd e (h3 neg x)
    · simp only [hp]
      refine ⟨nm, ?_⟩
      simp only [hr]
      exact toK_put hk
  cases op <;> simp only [stepE] at h
  case ext e xs =>
    obtain ⟨⟨r, M'⟩, hr, hk⟩ := h
    unfold extE at hr
    split at hr
    · rename_i r' hp
      cases hr
      exact pure ⟨r, by simp only [cpure, hp], hk⟩ (by simp) (by simp) (by simp)
    · rename_i hp
      obtain ⟨⟨r', us⟩, he, hh⟩ := Option.map_eq_some_iff.1 hr
      simp only [Prod.mk.injEq] at hh
      obtain ⟨rfl, rfl⟩ := hh
      exact mem ⟨M.length, _, _, by simp only [cpure, hp], by simp only [cmem, he, Option.map_some, memL_app], hk⟩ (by simp) (by simp) (by simp)
  case call f args => exact h
  case panic x =>
    obtain ⟨t, v, hx, hp⟩ := h
    unfold stepO
    simp only [hx]
    exact ⟨_, _, rfl, rfl, hp⟩
  case isnil neg x =>
    unfold stepO
    simp only
    unfold nilO at *
    split at h
    · exact toK_put h
    · exact ⟨toK_put h.1, toK_put h.2⟩
    · exact h.elim
  case load agg n a =>
    obtain ⟨r, hr, hk⟩ := h
    unfold loadE at hr
    split at hr
    · rename_i b off hev
      refine mem ⟨0, r, M, by simp [cpure, hev], ?_, hk⟩ (by simp) (by simp) (by simp)
      split at hr
      · rename_i cs fz hm
        simp only [cmem, hev, hm, hr, Option.map_some]
      · cases hr
    · rename_i cs hev
      exact pure ⟨r, by simp [cpure, hev, hr], hk⟩ (by simp) (by simp) (by simp)
    · cases hr
  case store n a x =>
    obtain ⟨M', hr, hk⟩ := h
    unfold storeE at hr
    split at hr
    · rename_i b off hev
      split at hr
      · rename_i cs hm
        split at hr
        · rename_i hc
          cases hr
          refine mem ⟨0, .junk, _, by simp [cpure], ?_, hk⟩ (by simp) (by simp) (by simp)
          simp only [cmem, hev, hm, hc, if_true, memL_cons]
        · cases hr
      · cases hr
    · cases hr
  case box x =>
    obtain ⟨r, hr, hk⟩ := h
    exact mem ⟨M.length, r.1, r.2, by simp [cpure], cmem_box hr, hk⟩ (by simp) (by simp) (by simp)
  case alloc zero =>
    obtain ⟨r, hr, hk⟩ := h
    unfold boxE at hr
    split at hr
    · rename_i hc
      cases hr
      simp only [Bool.and_eq_true, freshE, Option.isNone_iff_eq_none] at hc
      refine mem ⟨M.length, _, _, by simp [cpure], ?_, hk⟩ (by simp) (by simp) (by simp)
      simp only [cmem, hc.1, memL_cons, AV.cells]
    · cases hr
  case bslice sz len zero parts =>
    obtain ⟨r, hr, hk⟩ := h
    unfold bsliceE at hr
    obtain ⟨ps, hps, hr⟩ := Option.bind_eq_some_iff.1 hr
    split at hr
    · rename_i hc
      cases hr
      have e1 := (parts_eq parts).trans hps
      have e2 : (parts.all fun p => (p.2.ev Γ (look L)).celled) = (parts.map fun p => (p.1, p.2.ev Γ (look L))).all fun p => p.2.celled := by
        rw [List.all_map]
        rfl
      refine mem ⟨M.length, _, _, by simp [cpure], ?_, hk⟩ (by simp) (by simp) (by simp)
      simp only [Bool.and_eq_true, freshE, Option.isNone_iff_eq_none] at hc
      simp only [cmem, e1, hc.1.1.1.1.1, memL_cons]
      rw [if_pos]
      simp only [Bool.and_eq_true]
      exact ⟨⟨⟨⟨by rw [e2]; exact hc.1.1.1.1.2, hc.1.1.1.2⟩, hc.1.1.2⟩, hc.1.2⟩, hc.2⟩
    · cases hr
  case append sz bytes zero s x =>
    obtain ⟨r, hr, hk⟩ := h
    unfold appE at hr
    obtain ⟨ys, hy, hr⟩ := Option.bind_eq_some_iff.1 hr
    obtain ⟨xs, hx, hr⟩ := Option.bind_eq_some_iff.1 hr
    split at hr
    · rename_i hc
      obtain ⟨hc0, hc⟩ := hc
      simp only [freshE, Option.isNone_iff_eq_none] at hc0
      refine mem ⟨M.length, r.1, r.2, by simp [cpure], ?_, hk⟩ (by simp) (by simp) (by simp)
      simp only [cmem, hy, hx, hc0]
      rw [if_pos hc]
      split at hr
      · rename_i t sz' xs' hev
        split at hr
        · rename_i ht
          cases hr
          simp only [hev, ht, memL_cons]
        · cases hr
      · rename_i hev
        cases hr
        simp only [hev, memL_cons]
      · cases hr
    · cases hr
  case aslice sz len x lo hi =>
    obtain ⟨r, hr, hk⟩ := h
    unfold asliceE at hr
    split at hr
    · rename_i b off hev
      split at hr
      · rename_i cs fz hm
        obtain ⟨l, hl, hr⟩ := Option.bind_eq_some_iff.1 hr
        obtain ⟨h', hh, hr⟩ := Option.bind_eq_some_iff.1 hr
        obtain ⟨⟨p, q⟩, hb, hr⟩ := Option.bind_eq_some_iff.1 hr
        simp only at hr
        obtain ⟨ps, hps, hr⟩ := Option.bind_eq_some_iff.1 hr
        split at hr
        · rename_i hc
          cases hr
          have e1 : evO Γ (look L) lo = some l := by rw [← hl]; cases lo <;> rfl
          have e2 : evO Γ (look L) hi = some h' := by rw [← hh]; cases hi <;> rfl
          refine mem ⟨0, _, _, by simp [cpure], ?_, hk⟩ (by simp) (by simp) (by simp)
          simp only [cmem, hev, hm, e1, e2, bind, Option.bind_some, hb, hps, memL_cons]
          rw [if_pos hc]
        · cases hr
      · cases hr
    · cases hr
  all_goals exact pure h (by simp) (by simp) (by simp)

theorem runE_sound : ∀ {l : List CO} {L : EL} {M : ML}, runE P Γ pn l L M K → runOps P Γ (toP pn) l (look L) (memL M) (toK K)
  | [], L, M, h => ⟨L, M, rfl, rfl, h⟩
  | ⟨dst, op, none⟩ :: l, L, M, h => by
    unfold runE at h
    unfold runOps
    have := stepE_sound h
    refine stepO_mono this ?_ (fun _ _ _ h => h)
    rintro env m ⟨L, M, rfl, rfl, h⟩
    exact runE_sound h
  | ⟨dst, op, some (s, b)⟩ :: l, L, M, h => by
    unfold runE at h
    unfold runOps
    rcases h with ⟨t, ht, h1, h2⟩ | ⟨ht, h2⟩
    rotate_left
    · simp only [ht]
      rw [← look_putL]
      exact runE_sound h2
    simp only [ht]
    split
    · rename_i htb
      refine stepO_mono (stepE_sound (h1 htb)) ?_ (fun _ _ _ h => h)
      rintro env m ⟨L, M, rfl, rfl, h⟩
      exact runE_sound h
    · rename_i htb
      rw [← look_putL]
      exact runE_sound (h2 htb)
end
end Go.Shade

/- Evaluation of code; calls and ends by lists of names. Own work. -/
namespace Go.Shade
open Go

/-! ### Comparing -/
def LeP : PV → PV → Prop
  | .s (.slice none 0 0), .sl _ xs => xs = []
  | x, y => x = y
mutual
def LeA : AV → AV → Prop
  | _, .junk => True
  | .own _ sz xs, .p (.sl sz' ys) => sz = sz' ∧ xs = ys
  | .agg cs, .agg ds => LeAs cs ds
  | .tup cs, .tup ds => LeAs cs ds
  | .p x, .p y => LeP x y
  | a, b => a = b
def LeAs : List AV → List AV → Prop
  | [], [] => True
  | a :: as, b :: bs => LeA a b ∧ LeAs as bs
  | _, _ => False
end

theorem leP_sound {U : Nat → Option Nat} {h : Array Obj} {x y : PV} (hl : LeP x y) {v : Value} (hr : PR U h x v) : PR U h y v := by
  unfold LeP at hl
  split at hl
  · rename_i sz xs
    subst hl
    cases hr with
    | s =>
      refine .sl (fun _ => undef) rfl (Nat.le_refl _) (Nat.zero_le _) (Nat.zero_le _) (by simp) (fun h => absurd h (by simp)) (by simp)
  · subst hl; exact hr
mutual
theorem leA_sound : ∀ {a b : AV}, LeA a b → a.Le b
  | a, .junk, _ => le_junk a
  | .own t sz xs, .p (.sl sz' ys), h => by
    rw [LeA] at h
    obtain ⟨rfl, rfl⟩ := h
    intro g H v hv
    cases hv with
    | own hr _ => exact .p hr
  | .agg cs, .agg ds, h => by
    rw [LeA] at h
    obtain ⟨h1, h2⟩ := leAs_sound h
    intro g H v hv
    cases hv with
    | agg hl hr =>
      refine .agg (by rw [← h1]; exact hl) (fun i b v hb hv => ?_)
      have hlt : i < cs.length := by rw [h1]; exact (List.getElem?_eq_some_iff.1 hb).1
      exact h2 i _ b (List.getElem?_eq_getElem hlt) hb g H v (hr i _ v (List.getElem?_eq_getElem hlt) hv)
  | .tup cs, .tup ds, h => by
    rw [LeA] at h
    obtain ⟨h1, h2⟩ := leAs_sound h
    intro g H v hv
    cases hv with
    | tup hl hr =>
      refine .tup (by rw [← h1]; exact hl) (fun i b v hb hv => ?_)
      have hlt : i < cs.length := by rw [h1]; exact (List.getElem?_eq_some_iff.1 hb).1
      exact h2 i _ b (List.getElem?_eq_getElem hlt) hb g H v (hr i _ v (List.getElem?_eq_getElem hlt) hv)
  | .p x, .p y, h => by
    have h : LeP x y := by
      cases x <;> cases y <;> simpa only [LeA] using h
    intro g H v hv
    cases hv with
    | p hr => exact .p (leP_sound h hr)
  | .own t sz xs, .p (.s v), h => by rw [LeA] at h; cases h; all_goals simp
  | .own t sz xs, .own .., h => by rw [LeA] at h; rw [h]; exact .refl _; all_goals simp
  | .own t sz xs, .agg _, h => by rw [LeA] at h; cases h; all_goals simp
  | .own t sz xs, .tup _, h => by rw [LeA] at h; cases h; all_goals simp
  | .own t sz xs, .ptr .., h => by rw [LeA] at h; cases h; all_goals simp
  | .own t sz xs, .cptr _, h => by rw [LeA] at h; cases h; all_goals simp
  | .own t sz xs, .bsl .., h => by rw [LeA] at h; cases h; all_goals simp
  | .own t sz xs, .cmap .., h => by rw [LeA] at h; cases h; all_goals simp
  | .agg cs, .bsl .., h => by rw [LeA] at h; cases h; all_goals simp
  | .agg cs, .cmap .., h => by rw [LeA] at h; cases h; all_goals simp
  | .tup cs, .bsl .., h => by rw [LeA] at h; cases h; all_goals simp
  | .tup cs, .cmap .., h => by rw [LeA] at h; cases h; all_goals simp
  | .p x, .bsl .., h => by rw [LeA] at h; cases h; all_goals simp
  | .p x, .cmap .., h => by rw [LeA] at h; cases h; all_goals simp
  | .own t sz xs, .fn .., h => by rw [LeA] at h; cases h; all_goals simp
  | .agg cs, .p _, h => by rw [LeA] at h; cases h; all_goals simp
  | .agg cs, .own .., h => by rw [LeA] at h; cases h; all_goals simp
  | .agg cs, .tup _, h => by rw [LeA] at h; cases h; all_goals simp
  | .agg cs, .ptr .., h => by rw [LeA] at h; cases h; all_goals simp
  | .agg cs, .cptr _, h => by rw [LeA] at h; cases h; all_goals simp
  | .agg cs, .fn .., h => by rw [LeA] at h; cases h; all_goals simp
  | .tup cs, .p _, h => by rw [LeA] at h; cases h; all_goals simp
  | .tup cs, .own .., h => by rw [LeA] at h; cases h; all_goals simp
  | .tup cs, .agg _, h => by rw [LeA] at h; cases h; all_goals simp
  | .tup cs, .ptr .., h => by rw [LeA] at h; cases h; all_goals simp
  | .tup cs, .cptr _, h => by rw [LeA] at h; cases h; all_goals simp
  | .tup cs, .fn .., h => by rw [LeA] at h; cases h; all_goals simp
  | .p x, .own .., h => by rw [LeA] at h; cases h; all_goals simp
  | .p x, .agg _, h => by rw [LeA] at h; cases h; all_goals simp
  | .p x, .tup _, h => by rw [LeA] at h; cases h; all_goals simp
  | .p x, .ptr .., h => by rw [LeA] at h; cases h; all_goals simp
  | .p x, .cptr _, h => by rw [LeA] at h; cases h; all_goals simp
  | .p x, .fn .., h => by rw [LeA] at h; cases h; all_goals simp
  | .ptr .., b, h => by cases b <;> first | exact le_junk _ | (rw [LeA] at h; (first | (rw [h]; exact .refl _) | cases h); all_goals simp)
  | .cptr .., b, h => by cases b <;> first | exact le_junk _ | (rw [LeA] at h; (first | (rw [h]; exact .refl _) | cases h); all_goals simp)
  | .fn .., b, h => by cases b <;> first | exact le_junk _ | (rw [LeA] at h; (first | (rw [h]; exact .refl _) | cases h); all_goals simp)
  | .bsl .., b, h => by cases b <;> first | exact le_junk _ | (rw [LeA] at h; (first | (rw [h]; exact .refl _) | cases h); all_goals simp)
  | .cmap _, b, h => by cases b <;> first | exact le_junk _ | (rw [LeA] at h; (first | (rw [h]; exact .refl _) | cases h); all_goals simp)
  | .junk, b, h => by cases b <;> first | exact le_junk _ | (rw [LeA] at h; (first | (rw [h]; exact .refl _) | cases h); all_goals simp)
theorem leAs_sound : ∀ {as bs : List AV}, LeAs as bs → LeL as bs
  | [], [], _ => .refl _
  | a :: as, b :: bs, h => by
    rw [LeAs] at h
    obtain ⟨h1, h2⟩ := leAs_sound h.2
    refine ⟨by simp [h1], fun i x y hx hy => ?_⟩
    cases i with
    | zero => simp at hx hy; subst hx; subst hy; exact leA_sound h.1
    | succ i => exact h2 i x y (by simpa using hx) (by simpa using hy)
  | [], _ :: _, h => by rw [LeAs] at h; exact h.elim; all_goals simp
  | _ :: _, [], h => by rw [LeAs] at h; exact h.elim; all_goals simp
end
end Go.Shade

/- Calls, ends, code: the rules by lists. Own work. -/
namespace Go.Shade
open Go

/-- A renaming by a list, and a shift for the rest. -/
def rho (l : List (Nat × Nat)) (s : Nat) (n : Nat) : Nat := match l with
  | [] => n + s
  | (a, b) :: l => if n = a then b else rho l s n
def renM (ρ : Nat → Nat) (post : ML) : ML := post.map fun p => (ρ p.1, p.2.ren ρ)
def keys (M : ML) : List Nat := M.map (·.1)

theorem memL_keys : ∀ {M : ML} {n : Nat}, memL M n ≠ none ↔ n ∈ keys M
  | [], n => by simp [memL, keys]
  | (k, r) :: M, n => by
    have ih := memL_keys (M := M) (n := n)
    simp only [memL, keys, List.map_cons, List.mem_cons] at ih ⊢
    by_cases h : n = k
    · simp [h]
    · simp only [h, if_false, false_or]; exact ih
theorem applyM_list {m : Mem} {M : ML} (hm : m = memL M) {ρ : Nat → Nat} : ∀ post : ML, applyM m ρ post = memL (renM ρ post ++ M)
  | [] => by simp [applyM, renM, hm]
  | (n, r) :: post => by
    rw [applyM, applyM_list hm post]
    simp only [renM, List.map_cons, List.cons_append, memL_cons]

def injB (l : List Nat) : Bool := match l with
  | [] => true
  | a :: l => !l.contains a && injB l
theorem injB_spec {ρ : Nat → Nat} : ∀ {l : List Nat}, injB (l.map ρ) = true → ∀ n n', n ∈ l → n' ∈ l → ρ n = ρ n' → n = n'
  | [], _, n, n', h, _, _ => by simp at h
  | a :: l, hi, n, n', h, h', he => by
    rw [List.map_cons, injB, Bool.and_eq_true, Bool.not_eq_true'] at hi
    obtain ⟨h1, h2⟩ := hi
    have no : ∀ k ∈ l, ρ a ≠ ρ k := fun k hk e => by
      have : (l.map ρ).contains (ρ a) = true := by
        rw [List.contains_iff_mem, e]
        exact List.mem_map_of_mem hk
      rw [this] at h1
      cases h1
    rcases List.mem_cons.1 h with rfl | h3 <;> rcases List.mem_cons.1 h' with rfl | h4
    · rfl
    · exact absurd he (no _ h4)
    · exact absurd he.symm (no _ h3)
    · exact injB_spec h2 n n' h3 h4 he

/-- The names of the one are the other's, as told. -/
def oldsE (M : ML) (ρ : Nat → Nat) : ML → Prop
  | [] => True
  | (n, r) :: pre => memL M (ρ n) = some (r.ren ρ) ∧ oldsE M ρ pre
def newsE (M pre : ML) (ρ : Nat → Nat) : List Nat → Prop
  | [] => True
  | n :: l => ((memL pre n).isSome = true ∨ memL M (ρ n) = none) ∧ newsE M pre ρ l
theorem oldsE_spec {M : ML} {ρ : Nat → Nat} : ∀ {pre : ML}, oldsE M ρ pre → ∀ n r, memL pre n = some r → memL M (ρ n) = some (r.ren ρ)
  | [], _, n, r, h => by simp [memL] at h
  | (k, q) :: pre, h, n, r, hn => by
    rw [memL] at hn
    split at hn
    · rename_i e
      subst e
      cases hn
      exact h.1
    · exact oldsE_spec h.2 n r hn
theorem newsE_spec {M pre : ML} {ρ : Nat → Nat} : ∀ {l : List Nat}, newsE M pre ρ l → ∀ n ∈ l, memL pre n = none → memL M (ρ n) = none
  | [], _, n, h, _ => by simp at h
  | k :: l, h, n, hn, hp => by
    rcases List.mem_cons.1 hn with rfl | h'
    · exact h.1.resolve_left (by rw [hp]; simp)
    · exact newsE_spec h.2 n h' hp

section
variable {P : Program} {Γ : Globs} {N : Nat} {R : RD} {L : EL} {M : ML} {pre post : ML} {ρ : Nat → Nat}

theorem fits_of (h1 : oldsE M ρ pre) (h2 : injB ((keys post).map ρ) = true) (h3 : newsE M pre ρ (keys post)) : Fits (memL M) pre post ρ :=
  ⟨oldsE_spec h1, fun n n' k1 k2 => injB_spec h2 n n' (memL_keys.1 k1) (memL_keys.1 k2), fun n k1 k2 => newsE_spec h3 n (memL_keys.1 k1) k2⟩

/-- A call that returns. 'l' says which of the caller's names the contract's are; new ones get new names. -/
theorem callE_ret {f : FuncId} {first cap args args' : List AV} {dst : Option Nat} {K : EL → ML → Prop} {pn : Value → EL → ML → Prop} {r : AV} (hG : Good P Γ f args' pre (.ret r) post) (l : List (Nat × Nat))
    (hle : LeAs (first ++ args ++ cap) (renL (rho l M.length) args')) (h1 : oldsE M (rho l M.length) pre) (h2 : injB ((keys post).map (rho l M.length)) = true) (h3 : newsE M pre (rho l M.length) (keys post))
    (hK : K (putL L dst (r.ren (rho l M.length))) (renM (rho l M.length) post ++ M)) : callE P Γ pn (.fn (.func f) first cap) args dst L M K := by
  refine .inl ⟨f, first, cap, args', pre, .ret r, post, rho l M.length, rfl, leAs_sound hle, hG, fits_of h1 h2 h3, ?_⟩
  simp only
  rw [← look_putL, applyM_list rfl]
  exact ⟨_, _, rfl, rfl, hK⟩
theorem callE_pan {f : FuncId} {first cap args args' : List AV} {dst : Option Nat} {K : EL → ML → Prop} {pn : Value → EL → ML → Prop} {v : Value} (hG : Good P Γ f args' pre (.pan v) post) (l : List (Nat × Nat))
    (hle : LeAs (first ++ args ++ cap) (renL (rho l M.length) args')) (h1 : oldsE M (rho l M.length) pre) (h2 : injB ((keys post).map (rho l M.length)) = true) (h3 : newsE M pre (rho l M.length) (keys post))
    (hK : pn v L (renM (rho l M.length) post ++ M)) : callE P Γ pn (.fn (.func f) first cap) args dst L M K := by
  refine .inl ⟨f, first, cap, args', pre, .pan v, post, rho l M.length, rfl, leAs_sound hle, hG, fits_of h1 h2 h3, ?_⟩
  simp only
  rw [applyM_list rfl]
  exact ⟨_, _, rfl, rfl, hK⟩

def cellE (agg : Bool) (n : Nat) (M : ML) : AV → Option AV
  | .ptr b off => match memL M b with
    | some (.box cs _) => subA agg cs off n
    | _ => none
  | _ => none
def rvE (L : EL) (M : ML) : RV → Option AV
  | .tmp d => some (look L d)
  | .cell d agg n => cellE agg n M (look L d)
def rvsE (L : EL) (M : ML) : List RV → Option (List AV)
  | [] => some []
  | x :: l => (rvE L M x).bind fun a => (rvsE L M l).bind fun as => some (a :: as)
def oneE : List AV → AV
  | [r] => r
  | l => .tup l
theorem rvE_eq (x : RV) : RV.ev (look L) (memL M) x = rvE L M x := by
  cases x with
  | tmp d => rfl
  | cell d agg n =>
    simp only [RV.ev, rvE, cellE]
    all_goals (cases look L d <;> rfl)
theorem rvsE_eq : ∀ l : List RV, l.mapM (RV.ev (look L) (memL M)) = rvsE L M l
  | [] => rfl
  | x :: l => by
    rw [List.mapM_cons, rvE_eq, rvsE_eq l, rvsE]
    rfl
def memsE (M : ML) (ρ : Nat → Nat) : ML → Prop
  | [] => True
  | (n, .tok) :: post => memL M (ρ n) = some .tok ∧ memsE M ρ post
  | (n, .dead) :: post => memL M (ρ n) ≠ none ∧ memsE M ρ post
  | (n, .box cs fz) :: post => (∃ cs0, memL M (ρ n) = some (.box cs0 fz) ∧ LeAs cs0 (renL ρ cs)) ∧ memsE M ρ post
theorem memsE_spec : ∀ {post : ML}, memsE M ρ post → ∀ n q, memL post n = some q → ∃ q0, memL M (ρ n) = some q0 ∧ ResLe q0 (q.ren ρ)
  | [], _, n, r, h => by simp [memL] at h
  | (k, q0) :: post, h, n, q, hn => by
    have ih : memsE M ρ post := by cases q0 <;> exact h.2
    rw [memL] at hn
    split at hn
    · rename_i e
      subst e
      cases hn
      cases q0 with
      | tok => exact ⟨_, h.1, .tok⟩
      | dead =>
        obtain ⟨r0, hr0⟩ := Option.ne_none_iff_exists'.1 h.1
        exact ⟨r0, hr0, .dead _⟩
      | box cs fz =>
        obtain ⟨cs0, h1, h2⟩ := h.1
        exact ⟨_, h1, .box fz (leAs_sound h2)⟩
    · exact memsE_spec ih n q hn
def fixE (ρ : Nat → Nat) (l : List Nat) : Bool := l.all fun n => ρ n == n

def endE (pre : ML) (e : AE) (post : ML) (r0 : AV) (M : ML) : Prop := ∃ ρ r, e = .ret r ∧ r0.Le (r.ren ρ) ∧ Ends (rd pre) e post (fun _ => .junk) (memL M) ρ
def finE (pre : ML) (rs : List RV) (e : AE) (post : ML) : QE
  | .normal, L, M | .ret, L, M => bindO (rvsE L M rs) fun l => endE pre e post (oneE l) M
  | .pan v, _, M => e = .pan v ∧ ∃ ρ, Ends (rd pre) e post (fun _ => .junk) (memL M) ρ
  | .exit _, _, _ => False
theorem endE_by {r0 r : AV} (l : List (Nat × Nat)) (hle : LeA r0 (r.ren (rho l 0))) (h1 : memsE M (rho l 0) post) (h2 : injB ((keys post).map (rho l 0)) = true) (h3 : fixE (rho l 0) (keys pre) = true) : endE pre (.ret r) post r0 M :=
  ⟨rho l 0, r, rfl, leA_sound hle, memsE_spec h1, fun n n' k1 k2 => injB_spec h2 n n' (memL_keys.1 k1) (memL_keys.1 k2), fun n hn => by
    have := List.all_eq_true.1 h3 n (memL_keys.1 hn)
    simpa using this⟩
theorem finE_sound {rs : List RV} {e : AE} {ex : EX} {env : Nat → AV} {m : Mem} (h : toQ (finE pre rs e post) ex env m) : finQ (rd pre) rs e post ex env m := by
  obtain ⟨L, M, rfl, rfl, h⟩ := h
  have go : bindO (rvsE L M rs) (fun l => endE pre e post (oneE l) M) → finQ (rd pre) rs e post .ret (look L) (memL M) := by
    rintro ⟨l, hl, ρ, r, h1, h2, h3⟩
    refine ⟨ρ, oneE l, r, ?_, h1, h2, ⟨h3.mem, h3.inj, h3.R⟩⟩
    unfold evRs
    rw [rvsE_eq, hl]
    rfl
  cases ex with
  | normal => exact go h
  | ret => exact go h
  | exit id => exact h.elim
  | pan v => obtain ⟨h1, ρ, h2⟩ := h; exact ⟨h1, ρ, h2.mem, h2.inj, h2.R⟩

/-! ### Drawn regions -/
def footP : AV → Bool → List Nat × List Nat
  | .ptr b _, wr => ([b], if wr then [b] else [])
  | _, _ => ([], [])
def footA (nm : Nat) : AV → List Nat × List Nat
  | .own t _ _ => ([nm, t], [nm, t])
  | _ => ([nm], [nm])
def extF (e : EOp) (vs : List AV) (nm : Nat) : List Nat × List Nat := match ePure e vs with
  | some _ => ([], [])
  | none => eFoot e vs nm
def callTE (P : Program) (Γ : Globs) (fv : AV) (args : List AV) (dst : Option Nat) (L : EL) (M : ML) (K : EL → ML → List Nat × List Nat → Prop) : Prop :=
  ∃ g first cap args' pre r post ρ W, fv = .fn (.func g) first cap ∧ LeL (first ++ args ++ cap) (renL ρ args') ∧ Good P Γ g args' pre (.ret r) post ∧ Fits (memL M) pre post ρ ∧
      (∀ p ∈ post, ρ p.1 ∈ W ∨ memL pre p.1 = memL post p.1) ∧ (∀ n ∈ W, ∃ p ∈ post, n = ρ p.1) ∧ K (putL L dst (r.ren ρ)) (renM ρ post ++ M) (post.map fun p => ρ p.1, W)
def stepTE (P : Program) (Γ : Globs) (o : CO) (L : EL) (M : ML) (K : EL → ML → List Nat × List Nat → Prop) : Prop :=
  match o.op with
  | .call f args => callTE P Γ (f.ev Γ (look L)) (args.map (X.ev Γ (look L))) o.dst L M K
  | .panic _ => False
  | .isnil _ _ => False
  | .load agg n a => bindO (loadE agg n M (a.ev Γ (look L))) fun r => K (putL L o.dst r) M (footP (a.ev Γ (look L)) false)
  | .store n a x => bindO (storeE n M (x.ev Γ (look L)) (a.ev Γ (look L))) fun M' => K (putL L o.dst .junk) M' (footP (a.ev Γ (look L)) true)
  | .box x => bindO (boxE M (x.ev Γ (look L))) fun r => K (putL L o.dst r.1) r.2 ([M.length], [M.length])
  | .alloc zero => bindO (boxE M (.agg (zero.map AV.p))) fun r => K (putL L o.dst r.1) r.2 ([M.length], [M.length])
  | .bslice sz len zero parts => bindO (bsliceE M sz len zero (parts.map fun p => (p.1, p.2.ev Γ (look L)))) fun r => K (putL L o.dst r.1) r.2 ([M.length], [M.length])
  | .append sz bytes zero s x => bindO (appE M sz bytes zero (s.ev Γ (look L)) (x.ev Γ (look L))) fun r => K (putL L o.dst r.1) r.2 (footA M.length (s.ev Γ (look L)))
  | .aslice sz len x lo hi => bindO (asliceE M sz len (lo.map (X.ev Γ (look L))) (hi.map (X.ev Γ (look L))) (x.ev Γ (look L))) fun r => K (putL L o.dst r.1) r.2 (footP (x.ev Γ (look L)) true)
  | .ext e xs => bindO (extE e (xs.map (X.ev Γ (look L))) M) fun r => K (putL L o.dst r.1) r.2 (extF e (xs.map (X.ev Γ (look L))) M.length)
  | c => bindO (cpure Γ (look L) c) fun r => K (putL L o.dst r) M ([], [])
def runTE (P : Program) (Γ : Globs) : List CO → EL → ML → List (List Nat × List Nat) → (EL → ML → List (List Nat × List Nat) → Prop) → Prop
  | [], L, M, tr, K => K L M tr
  | ⟨dst, op, none⟩ :: l, L, M, tr, K => stepTE P Γ ⟨dst, op, none⟩ L M (fun L M f => runTE P Γ l L M (f :: tr) K)
  | ⟨dst, op, some (s, b)⟩ :: l, L, M, tr, K => gateE (look L s) b (stepTE P Γ ⟨dst, op, some (s, b)⟩ L M (fun L M f => runTE P Γ l L M (f :: tr) K)) (runTE P Γ l (putL L dst undA) M (([], []) :: tr) K)
def toT {T : Type} (K : EL → ML → T → Prop) : (Nat → AV) → Mem → T → Prop := fun env m f => ∃ L M, env = look L ∧ m = memL M ∧ K L M f

theorem callTE_ret {f : FuncId} {first cap args args' : List AV} {dst : Option Nat} {K : EL → ML → List Nat × List Nat → Prop} {r : AV} (hG : Good P Γ f args' pre (.ret r) post) (l : List (Nat × Nat))
    (hle : LeAs (first ++ args ++ cap) (renL (rho l M.length) args')) (h1 : oldsE M (rho l M.length) pre) (h2 : injB ((keys post).map (rho l M.length)) = true) (h3 : newsE M pre (rho l M.length) (keys post))
    (hK : K (putL L dst (r.ren (rho l M.length))) (renM (rho l M.length) post ++ M) ((keys post).map (rho l M.length), (keys post).map (rho l M.length))) : callTE P Γ (.fn (.func f) first cap) args dst L M K := by
  refine ⟨f, first, cap, args', pre, r, post, rho l M.length, post.map fun p => rho l M.length p.1, rfl, leAs_sound hle, hG, fits_of h1 h2 h3, fun p hp => .inl (List.mem_map.2 ⟨p, hp, rfl⟩), fun n hn => ?_, ?_⟩
  · obtain ⟨p, hp, rfl⟩ := List.mem_map.1 hn
    exact ⟨p, hp, rfl⟩
  · have e : (keys post).map (rho l M.length) = post.map fun p => rho l M.length p.1 := by rw [keys, List.map_map]; rfl
    rw [e] at hK
    exact hK

theorem stepT_mono {o : CO} {env : Nat → AV} {m : Mem} {K K' : (Nat → AV) → Mem → List Nat × List Nat → Prop} (h : stepT P Γ o env m K) (hK : ∀ env m f, K env m f → K' env m f) : stepT P Γ o env m K' := by
  unfold stepT at *
  split
  · rename_i f args ho
    simp only [ho] at h
    obtain ⟨g, first, cap, args', pre, r, post, ρ, W, h1, h2, h3, h4, h5, h6, h7⟩ := h
    exact ⟨g, first, cap, args', pre, r, post, ρ, W, h1, h2, h3, h4, h5, h6, hK _ _ _ h7⟩
  · rename_i x ho
    simp only [ho] at h
  · rename_i neg x ho
    simp only [ho] at h
  · rename_i h1 h2 h3
    have h' : (match cpure Γ env o.op with
      | some r => K (putE env o.dst r) m ([], [])
      | none => ∃ nm, match cmem Γ env m nm o.op with
        | some (r, m') => K (putE env o.dst r) m' (cfoot Γ env nm o.op)
        | none => False) := by
      revert h
      split
      · rename_i f args ho; exact absurd ho (h1 f args)
      · rename_i x ho; exact absurd ho (h2 x)
      · rename_i neg x ho; exact absurd ho (h3 neg x)
      · exact id
    cases hc : cpure Γ env o.op with
    | some r => simp only [hc] at h' ⊢; exact hK _ _ _ h'
    | none =>
      simp only [hc] at h' ⊢
      obtain ⟨nm, h'⟩ := h'
      refine ⟨nm, ?_⟩
      cases hm : cmem Γ env m nm o.op with
      | some p => simp only [hm] at h' ⊢; exact hK _ _ _ h'
      | none => simp only [hm] at h'
end
end Go.Shade

/- Drawn regions and code by lists. Own work. -/
namespace Go.Shade
open Go

section
variable {P : Program} {Γ : Globs} {N : Nat} {R : RD} {L : EL} {M : ML} {o : CO}

theorem stepTE_sound {K : EL → ML → List Nat × List Nat → Prop} (h : stepTE P Γ o L M K) : stepT P Γ o (look L) (memL M) (toT K) := by
  obtain ⟨dst, op, gd⟩ := o
  have pure : (∃ r, cpure Γ (look L) op = some r ∧ K (putL L dst r) M ([], [])) → (∀ f args, op ≠ .call f args) → (∀ x, op ≠ .panic x) → (∀ neg x, op ≠ .isnil neg x) → stepT P Γ ⟨dst, op, gd⟩ (look L) (memL M) (toT K) := by
    rintro ⟨r, hr, hk⟩ h1 h2 h3
    unfold stepT
    split
    · rename_i f args e; exact absurd e (h1 f args)
    · rename_i x e; exact absurd e (h2 x)
    · rename_i neg x e; exact absurd e (h3 neg x)
    · simp only [hr]
      exact ⟨_, _, (look_putL _ _ _).symm, rfl, hk⟩
  have mem : (∃ nm r M', cpure Γ (look L) op = none ∧ cmem Γ (look L) (memL M) nm op = some (r, memL M') ∧ K (putL L dst r) M' (cfoot Γ (look L) nm op)) → (∀ f args, op ≠ .call f args) → (∀ x, op ≠ .panic x) → (∀ neg x, op ≠ .isnil neg x) → stepT P Γ ⟨dst, op, gd⟩ (look L) (memL M) (toT K) := by
    rintro ⟨nm, r, M', hp, hr, hk⟩ h1 h2 h3
    unfold stepT
    split
    · rename_i f args e; exact absurd e (h1 f args)
    · rename_i x e; exact absurd e (h2 x)
    · rename_i neg x e; exact absurd e (h3 neg x)
    · simp only [hp]
      refine ⟨nm, ?_⟩
      simp only [hr]
      exact ⟨_, _, (look_putL _ _ _).symm, rfl, hk⟩
  cases op <;> simp only [stepTE] at h
  case ext e xs =>
    obtain ⟨⟨r, M'⟩, hr, hk⟩ := h
    unfold extE at hr
    unfold extF at hk
    split at hr
    · rename_i r' hp
      cases hr
      simp only [hp] at hk
      exact pure ⟨r, by simp only [cpure, hp], hk⟩ (by simp) (by simp) (by simp)
    · rename_i hp
      obtain ⟨⟨r', us⟩, he, hh⟩ := Option.map_eq_some_iff.1 hr
      simp only [Prod.mk.injEq] at hh
      obtain ⟨rfl, rfl⟩ := hh
      simp only [hp] at hk
      exact mem ⟨M.length, r', us ++ M, by simp only [cpure, hp], by simp only [cmem, he, Option.map_some, memL_app], by simp only [cfoot]; exact hk⟩ (by simp) (by simp) (by simp)
  case call f args =>
    obtain ⟨g, first, cap, args', pre, r, post, ρ, W, h1, h2, h3, h4, h5, h6, h7⟩ := h
    unfold stepT
    refine ⟨g, first, cap, args', pre, r, post, ρ, W, h1, h2, h3, h4, h5, h6, _, _, (look_putL _ _ _).symm, applyM_list rfl post, h7⟩
  case load agg n a =>
    obtain ⟨r, hr, hk⟩ := h
    unfold loadE at hr
    split at hr
    · rename_i b off hev
      refine mem ⟨0, r, M, by simp [cpure, hev], ?_, by simpa [cfoot, hev, footP] using hk⟩ (by simp) (by simp) (by simp)
      split at hr
      · rename_i cs fz hm
        simp only [cmem, hev, hm, hr, Option.map_some]
      · cases hr
    · rename_i cs hev
      exact pure ⟨r, by simp [cpure, hev, hr], by simpa [hev, footP] using hk⟩ (by simp) (by simp) (by simp)
    · cases hr
  case store n a x =>
    obtain ⟨M', hr, hk⟩ := h
    unfold storeE at hr
    split at hr
    · rename_i b off hev
      split at hr
      · rename_i cs hm
        split at hr
        · rename_i hc
          cases hr
          simp only [hev, footP, if_true] at hk
          refine mem ⟨0, .junk, _, by simp [cpure], ?_, by simp only [cfoot, hev]; exact hk⟩ (by simp) (by simp) (by simp)
          simp only [cmem, hev, hm, hc, if_true, memL_cons]
        · cases hr
      · cases hr
    · cases hr
  case box x =>
    obtain ⟨r, hr, hk⟩ := h
    exact mem ⟨M.length, r.1, r.2, by simp [cpure], cmem_box hr, hk⟩ (by simp) (by simp) (by simp)
  case alloc zero =>
    obtain ⟨r, hr, hk⟩ := h
    unfold boxE at hr
    split at hr
    · rename_i hc
      cases hr
      simp only [Bool.and_eq_true, freshE, Option.isNone_iff_eq_none] at hc
      refine mem ⟨M.length, _, _, by simp [cpure], ?_, hk⟩ (by simp) (by simp) (by simp)
      simp only [cmem, hc.1, memL_cons, AV.cells]
    · cases hr
  case bslice sz len zero parts =>
    obtain ⟨r, hr, hk⟩ := h
    unfold bsliceE at hr
    obtain ⟨ps, hps, hr⟩ := Option.bind_eq_some_iff.1 hr
    split at hr
    · rename_i hc
      cases hr
      have e1 := (parts_eq parts).trans hps
      have e2 : (parts.all fun p => (p.2.ev Γ (look L)).celled) = (parts.map fun p => (p.1, p.2.ev Γ (look L))).all fun p => p.2.celled := by
        rw [List.all_map]
        rfl
      refine mem ⟨M.length, _, _, by simp [cpure], ?_, hk⟩ (by simp) (by simp) (by simp)
      simp only [Bool.and_eq_true, freshE, Option.isNone_iff_eq_none] at hc
      simp only [cmem, e1, hc.1.1.1.1.1, memL_cons]
      rw [if_pos]
      simp only [Bool.and_eq_true]
      exact ⟨⟨⟨⟨by rw [e2]; exact hc.1.1.1.1.2, hc.1.1.1.2⟩, hc.1.1.2⟩, hc.1.2⟩, hc.2⟩
    · cases hr
  case append sz bytes zero s x =>
    obtain ⟨r, hr, hk⟩ := h
    unfold appE at hr
    obtain ⟨ys, hy, hr⟩ := Option.bind_eq_some_iff.1 hr
    obtain ⟨xs, hx, hr⟩ := Option.bind_eq_some_iff.1 hr
    split at hr
    · rename_i hc
      obtain ⟨hc0, hc⟩ := hc
      simp only [freshE, Option.isNone_iff_eq_none] at hc0
      refine mem ⟨M.length, r.1, r.2, by simp [cpure], ?_, by cases hs : s.ev Γ (look L) <;> simpa [cfoot, hs, footA] using hk⟩ (by simp) (by simp) (by simp)
      simp only [cmem, hy, hx, hc0]
      rw [if_pos hc]
      split at hr
      · rename_i t sz' xs' hev
        split at hr
        · rename_i ht
          cases hr
          simp only [hev, ht, memL_cons]
        · cases hr
      · rename_i hev
        cases hr
        simp only [hev, memL_cons]
      · cases hr
    · cases hr
  case aslice sz len x lo hi =>
    obtain ⟨r, hr, hk⟩ := h
    unfold asliceE at hr
    split at hr
    · rename_i b off hev
      split at hr
      · rename_i cs fz hm
        obtain ⟨l, hl, hr⟩ := Option.bind_eq_some_iff.1 hr
        obtain ⟨h', hh, hr⟩ := Option.bind_eq_some_iff.1 hr
        obtain ⟨⟨p, q⟩, hb, hr⟩ := Option.bind_eq_some_iff.1 hr
        simp only at hr
        obtain ⟨ps, hps, hr⟩ := Option.bind_eq_some_iff.1 hr
        split at hr
        · rename_i hc
          cases hr
          have e1 : evO Γ (look L) lo = some l := by rw [← hl]; cases lo <;> rfl
          have e2 : evO Γ (look L) hi = some h' := by rw [← hh]; cases hi <;> rfl
          simp only [hev, footP, if_true] at hk
          refine mem ⟨0, _, _, by simp [cpure], ?_, by simp only [cfoot, hev]; exact hk⟩ (by simp) (by simp) (by simp)
          simp only [cmem, hev, hm, e1, e2, bind, Option.bind_some, hb, hps, memL_cons]
          rw [if_pos hc]
        · cases hr
      · cases hr
    · cases hr
  all_goals exact pure h (by simp) (by simp) (by simp)


theorem runT_mono {K K' : (Nat → AV) → Mem → List (List Nat × List Nat) → Prop} (hK : ∀ env m t, K env m t → K' env m t) : ∀ {l : List CO} {env : Nat → AV} {m : Mem} {tr : List (List Nat × List Nat)}, runT P Γ l env m tr K → runT P Γ l env m tr K'
  | [], _, _, _, h => hK _ _ _ h
  | o :: l, env, m, tr, h => by
    unfold runT at *
    split
    · rename_i hg
      simp only [hg] at h
      exact stepT_mono h (fun _ _ _ h => runT_mono hK h)
    · rename_i s b hg
      simp only [hg] at h
      split at h
      · rename_i t ht
        split at h
        · rename_i htb
          simp only [htb, if_true]
          exact stepT_mono h (fun _ _ _ h => runT_mono hK h)
        · rename_i htb
          simp only [htb, if_false]
          exact runT_mono hK h
      · exact runT_mono hK h
      · exact h.elim

theorem runTE_sound {K : EL → ML → List (List Nat × List Nat) → Prop} : ∀ {l : List CO} {L : EL} {M : ML} {tr : List (List Nat × List Nat)}, runTE P Γ l L M tr K → runT P Γ l (look L) (memL M) tr (toT K)
  | [], L, M, tr, h => ⟨L, M, rfl, rfl, h⟩
  | ⟨dst, op, none⟩ :: l, L, M, tr, h => by
    unfold runTE at h
    unfold runT
    refine stepT_mono (stepTE_sound h) ?_
    rintro env m f ⟨L, M, rfl, rfl, h⟩
    exact runTE_sound h
  | ⟨dst, op, some (s, b)⟩ :: l, L, M, tr, h => by
    unfold runTE at h
    unfold runT
    rcases h with ⟨t, ht, h1, h2⟩ | ⟨ht, h2⟩
    rotate_left
    · simp only [ht]
      rw [← look_putL]
      exact runTE_sound h2
    simp only [ht]
    split
    · rename_i htb
      refine stepT_mono (stepTE_sound (h1 htb)) ?_
      rintro env m f ⟨L, M, rfl, rfl, h⟩
      exact runTE_sound h
    · rename_i htb
      rw [← look_putL]
      exact runTE_sound (h2 htb)

/-! ### Code -/
def thenE (K : EL → ML → Prop) (Q : QE) : QE
  | .normal, L, M => K L M
  | e, L, M => Q e L M
def blockE (id : Nat) (Q : QE) : QE
  | .exit i, L, M => if i = id then Q .normal L M else Q (.exit i) L M
  | e, L, M => Q e L M
def condE (v : AV) (A B : Prop) : Prop := ∃ t, v = .bool t ∧ (t = true → A) ∧ (t = false → B)
def indepP (l : List CO) (bef : List (List Nat)) (tr : List (List Nat × List Nat)) : Prop := indep l bef tr = true
def loopE (P : Program) (Γ : Globs) (N : Nat) (R : RD) (c : CC) (Q : QE) (L : EL) (M : ML) : Prop := Vld P Γ N R (.loop c) (toQ Q) (look L) (memL M)
/-- These slots alone. -/
def restr (L : EL) : List Nat → EL
  | [] => []
  | i :: l => (i, look L i) :: restr L l
theorem restr_le (L : EL) (i : Nat) : ∀ l, (look L i).Le (look (restr L l) i)
  | [] => le_junk _
  | k :: l => by
    rw [restr, look]
    split
    · rename_i e; subst e; exact fun _ _ _ h => h
    · exact restr_le L i l
theorem vld_env {c : CC} {Q : QS} {env env' : Nat → AV} {m : Mem} (he : ∀ i, (env i).Le (env' i)) (h : Vld P Γ N R c Q env' m) : Vld P Γ N R c Q env m := by
  intro c0 hc g0 w0 m0 g w a hS
  exact h c0 hc g0 w0 m0 g w a ⟨⟨hS.rel.rel, hS.rel.size, fun k v hv => he k _ _ _ (hS.rel.env k v hv)⟩, hS.st, hS.nm, hS.dfs⟩
def wlE (P : Program) (Γ : Globs) (N : Nat) (R : RD) : CC → QE → EL → ML → Prop
  | .skip, Q, L, M => Q .normal L M
  | .reg l, Q, L, M => runE P Γ (fun v L M => Q (.pan v) L M) l L M (fun L M => Q .normal L M)
  | .regd l bef, Q, L, M => runTE P Γ l L M [] (fun L M tr => indepP l bef tr ∧ Q .normal L M)
  | .seq a b, Q, L, M => wlE P Γ N R a (thenE (fun L M => wlE P Γ N R b Q L M) Q) L M
  | .cond x a b, Q, L, M => condE (x.ev Γ (look L)) (wlE P Γ N R a Q L M) (wlE P Γ N R b Q L M)
  | .block id c, Q, L, M => wlE P Γ N R c (blockE id Q) L M
  | .loop c, Q, L, M => loopE P Γ N R c Q L M
  | .exit id, Q, L, M => Q (.exit id) L M
  | .ret, Q, L, M => Q .ret L M
  | .rest ls c, Q, L, M => wlE P Γ N R c Q (restr L ls) M
  | .vld c, Q, L, M => Vld P Γ N R c (toQ Q) (look L) (memL M)

theorem wlE_sound (hm : P.follows .mixedOrders = true) : ∀ {c : CC} {Q : QE} {L : EL} {M : ML}, wlE P Γ N R c Q L M → Vld P Γ N R c (toQ Q) (look L) (memL M)
  | .skip, Q, L, M, h => vld_skip ⟨L, M, rfl, rfl, h⟩
  | .reg l, Q, L, M, h => vld_reg (runE_sound h)
  | .regd l bef, Q, L, M, h => vld_regd hm (runT_mono (by
      rintro env m t ⟨L, M, rfl, rfl, h1, h2⟩
      exact ⟨h1, L, M, rfl, rfl, h2⟩) (runTE_sound h))
  | .seq a b, Q, L, M, h => by
    refine vld_seq (vld_mono (wlE_sound hm (c := a) h) ?_)
    rintro e env m ⟨L, M, rfl, rfl, h⟩
    cases e with
    | normal => exact wlE_sound hm (c := b) h
    | exit id => exact ⟨L, M, rfl, rfl, h⟩
    | ret => exact ⟨L, M, rfl, rfl, h⟩
    | pan v => exact ⟨L, M, rfl, rfl, h⟩
  | .cond x a b, Q, L, M, h => by
    obtain ⟨t, ht, h1, h2⟩ := h
    exact vld_cond ht (fun e => wlE_sound hm (h1 e)) (fun e => wlE_sound hm (h2 e))
  | .block id c, Q, L, M, h => by
    refine vld_block (vld_mono (wlE_sound hm (c := c) h) ?_)
    rintro e env m ⟨L, M, rfl, rfl, h⟩
    cases e with
    | normal => exact ⟨L, M, rfl, rfl, h⟩
    | exit i =>
      simp only [blockE] at h
      simp only [blockQ]
      split
      · rename_i e
        rw [if_pos e] at h
        exact ⟨L, M, rfl, rfl, h⟩
      · rename_i e
        rw [if_neg e] at h
        exact ⟨L, M, rfl, rfl, h⟩
    | ret => exact ⟨L, M, rfl, rfl, h⟩
    | pan v => exact ⟨L, M, rfl, rfl, h⟩
  | .loop c, Q, L, M, h => h
  | .exit id, Q, L, M, h => vld_exit ⟨L, M, rfl, rfl, h⟩
  | .ret, Q, L, M, h => vld_ret ⟨L, M, rfl, rfl, h⟩
  | .rest ls c, Q, L, M, h => vld_rest (vld_env (fun i => restr_le L i ls) (wlE_sound hm (c := c) h))
  | .vld c, Q, L, M, h => vld_vld h

/-- What is kept of slots and names at a loop's head, by lists. 'l' says which name is which. -/
structure WeakE (R : RD) (L : EL) (M : ML) (L' : EL) (M' : ML) : Prop where
  is : ∃ ρ, Weak R ρ (look L) (memL M) L' M'
/-- The lists' own test. -/
def envE (L : EL) (ρ : Nat → Nat) : EL → Prop
  | [] => True
  | (i, a) :: L' => LeA (look L i) (a.ren ρ) ∧ envE L ρ L'
def namesIn (M : ML) : List Nat → Bool
  | [] => true
  | n :: l => (memL M n).isSome && namesIn M l
theorem namesIn_spec {M : ML} : ∀ {l : List Nat}, namesIn M l = true → ∀ n ∈ l, memL M n ≠ none
  | [], _, n, h => by simp at h
  | k :: l, h, n, hn => by
    rw [namesIn, Bool.and_eq_true] at h
    rcases List.mem_cons.1 hn with rfl | h'
    · intro e; rw [e] at h; simp at h
    · exact namesIn_spec h.2 n h'
theorem envE_spec {L : EL} {ρ : Nat → Nat} : ∀ {L' : EL}, envE L ρ L' → ∀ i, (look L i).Le ((look L' i).ren ρ)
  | [], _, i => by
    rw [look, AV.ren]
    exact le_junk _
  | (k, a) :: L', h, i => by
    rw [look]
    split
    · rename_i e; subst e; exact leA_sound h.1
    · exact envE_spec h.2 i
theorem weakE_of {M' : ML} {L' : EL} {pre : ML} (l : List (Nat × Nat)) (h1 : envE L (rho l 0) L') (h2 : memsE M (rho l 0) M') (h3 : injB ((keys M').map (rho l 0)) = true) (h4 : namesIn M' (L'.flatMap fun p => p.2.names) = true) (h5 : namesIn M' (M'.flatMap fun p => p.2.names) = true)
    (h6 : fixE (rho l 0) (keys pre) = true) (h7 : namesIn M' (keys pre) = true) : WeakE (rd pre) L M L' M' :=
  ⟨rho l 0, envE_spec h1, memsE_spec h2, fun n n' k1 k2 => injB_spec h3 n n' (memL_keys.1 k1) (memL_keys.1 k2), fun p hp n hn => namesIn_spec h4 n (List.mem_flatMap.2 ⟨p, hp, hn⟩), fun p hp n hn => namesIn_spec h5 n (List.mem_flatMap.2 ⟨p, hp, hn⟩),
    fun n hn => ⟨namesIn_spec h7 n (memL_keys.1 hn), by have := List.all_eq_true.1 h6 n (memL_keys.1 hn); simpa using this⟩⟩

/-- The contract of a function, by evaluation of its code. -/
theorem good_by (hm : P.follows .mixedOrders = true) {f : FuncId} {cc : CC} {rs : List RV} {np : Nat} (hF : Fun P f N cc rs np) {args : List AV} {pre post : ML} {e : AE} (hnp : args.length = np)
    (hn : namesIn pre (namesL args) = true ∧ namesIn pre (pre.flatMap fun p => p.2.names) = true ∧ namesIn post e.names = true ∧ namesIn post (post.flatMap fun p => p.2.names) = true ∧ namesIn post (keys pre) = true)
    (h : wlE P Γ N (rd pre) cc (finE pre rs e post) (argE args) pre) : Good P Γ f args pre e post := by
  obtain ⟨h1, h2, h3, h4, h5⟩ := hn
  refine good_of hF hnp (namesIn_spec h1) (fun p hp k hk => namesIn_spec h2 k (List.mem_flatMap.2 ⟨p, hp, hk⟩)) (namesIn_spec h3) (fun p hp k hk => namesIn_spec h4 k (List.mem_flatMap.2 ⟨p, hp, hk⟩)) (fun n hn => namesIn_spec h5 n (memL_keys.1 hn)) ?_
  exact vld_mono (wlE_sound hm h) (fun _ _ _ h => finE_sound h)
end
end Go.Shade
