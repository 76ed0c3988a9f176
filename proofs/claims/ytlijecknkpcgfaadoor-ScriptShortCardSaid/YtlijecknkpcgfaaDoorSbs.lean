/- A law's row out of its contract. Own work. -/
import Derived.Test.YtlijecknkpcgfaaDoorSbr
import Derived.ProofKit
import Derived.LaidMore
import Derived.MakeChecks
import Derived.FnData
namespace Go.Shade
open Go Go.ChangeShapes Go.WideShapes Go.ChangeAt Go.RowKit

def OkL (ts : List Ty) (ps : List PV) : Prop := ps.length = ts.length ∧ ∀ (i : Nat) t p, ts[i]? = some t → ps[i]? = some p → OkP t p
/-- What an argument of a type is. -/
def argOK (P : Program) (t : TypeId) (a : AV) : Prop := ∃ ts, flat P 8 t = some ts ∧ if isAggT P t then ∃ ps, a = .agg (ps.map AV.p) ∧ OkL ts ps else ∃ ty p, ts = [ty] ∧ a = .p p ∧ OkP ty p

section
variable {H : Type} {enc : TypeId × Value → H} {P : Program} {W : World}

theorem okWide_array {n : Nat} {e : TypeId} {t : TypeId} {r : Reach} {base : Nat} {v : Value} (ht : P.underlying t = some (.array n e)) (h : Value.okWide P W r base t v) : ∃ cs, v = .agg cs := by
  cases v <;> simp [Value.okWide, ht] at h ⊢
theorem okWide_floatS {k : FloatKind} {t : TypeId} {r : Reach} {base : Nat} {v : Value} (ht : P.underlying t = some (.float k)) (h : Value.okWide P W r base t v) : ∃ k n, v = .float k n := by
  cases v <;> simp [Value.okWide, Cell.okWide, Cell.ok, ht] at h ⊢
theorem arg_ok {t : TypeId} {v : Value} {d : DataW H} {ps : List MemPlace} (hf : (flat P 8 t).isSome = true) (hv : ∃ r base, Value.okWide P W r base t v) (ht : DataW.Trod enc P W 0 (fun _ => true) true t v d ps) (hw : ∀ m ∈ d.weights P t, m ≤ reachBytes) :
    ∃ a, argOK P t a ∧ VR (gI W) W.heap a v := by
  obtain ⟨ts, hts⟩ := Option.isSome_iff_exists.1 hf
  obtain ⟨fuel, hfu⟩ := ht
  obtain ⟨pvs, hr⟩ := trod_ok 8 fuel t ts _ d ps hts hfu hw
  obtain ⟨r, base, hv⟩ := hv
  have hts' := hts
  rw [flat] at hts'
  have one : isAggT P t = false → v.cells = #[v] → ts.length = 1 → ∃ a, argOK P t a ∧ VR (gI W) W.heap a v := by
    intro ha hc hl
    have e : v.cells.toList = [v] := by rw [hc]
    rw [e] at hr
    match ts, pvs, hr, hl with
    | [ty], [p], hr, _ =>
      obtain ⟨h1, h2⟩ := hr.r 0 ty p v rfl rfl rfl
      exact ⟨.p p, ⟨[ty], hts, by rw [ha]; exact ⟨ty, p, rfl, rfl, h1⟩⟩, .p h2⟩
    | [ty], [], hr, _ => exact absurd hr.pl (by simp)
    | [ty], _ :: _ :: _, hr, _ => exact absurd hr.pl (by simp)
  cases hu : P.underlying t with
  | none => rw [hu] at hts'; cases hts'
  | some u =>
    rw [hu] at hts'
    cases u with
    | int k =>
      cases hts'
      obtain ⟨n, rfl⟩ := okWide_int hu hv
      exact one (by simp [isAggT, hu]) rfl rfl
    | bool =>
      cases hts'
      obtain ⟨n, rfl⟩ := okWide_bool hu hv
      exact one (by simp [isAggT, hu]) rfl rfl
    | string =>
      cases hts'
      obtain ⟨n, rfl⟩ := okWide_string hu hv
      exact one (by simp [isAggT, hu]) rfl rfl
    | float k =>
      cases hts'
      obtain ⟨k', n, rfl⟩ := okWide_floatS hu hv
      exact one (by simp [isAggT, hu]) rfl rfl
    | slice e =>
      simp only at hts'
      obtain ⟨es, _, h⟩ := Option.bind_eq_some_iff.1 hts'
      split at h
      · cases h
        obtain ⟨a, l, c, rfl⟩ := okWide_slice hu hv
        exact one (by simp [isAggT, hu]) rfl rfl
      · cases h
    | struct fs =>
      obtain ⟨cs, rfl, _⟩ := okWide_struct hu hv
      have e : (Value.agg cs).cells.toList = cs.toList := rfl
      rw [e] at hr
      refine ⟨.agg (pvs.map AV.p), ⟨ts, hts, ?_⟩, .agg (by simpa using hr.pl) (fun i a v ha hv => ?_)⟩
      · have ha : isAggT P t = true := by simp [isAggT, hu]
        rw [if_pos ha]
        refine ⟨pvs, rfl, hr.pl.trans hr.tl.symm, fun i t p h1 h2 => ?_⟩
        have hi : i < cs.toList.length := by rw [← hr.tl]; exact (List.getElem?_eq_some_iff.1 h1).1
        exact (hr.r i t p _ h1 h2 (List.getElem?_eq_getElem hi)).1
      · rw [List.getElem?_map] at ha
        obtain ⟨p, hp, rfl⟩ := Option.map_eq_some_iff.1 ha
        have hi : i < ts.length := by rw [hr.tl, ← hr.pl]; exact (List.getElem?_eq_some_iff.1 hp).1
        exact .p (hr.r i _ p v (List.getElem?_eq_getElem hi) hp (by simpa using hv)).2
    | array n e =>
      obtain ⟨cs, rfl⟩ := okWide_array hu hv
      have e : (Value.agg cs).cells.toList = cs.toList := rfl
      rw [e] at hr
      refine ⟨.agg (pvs.map AV.p), ⟨ts, hts, ?_⟩, .agg (by simpa using hr.pl) (fun i a v ha hv => ?_)⟩
      · have ha : isAggT P t = true := by simp [isAggT, hu]
        rw [if_pos ha]
        refine ⟨pvs, rfl, hr.pl.trans hr.tl.symm, fun i t p h1 h2 => ?_⟩
        have hi : i < cs.toList.length := by rw [← hr.tl]; exact (List.getElem?_eq_some_iff.1 h1).1
        exact (hr.r i t p _ h1 h2 (List.getElem?_eq_getElem hi)).1
      · rw [List.getElem?_map] at ha
        obtain ⟨p, hp, rfl⟩ := Option.map_eq_some_iff.1 ha
        have hi : i < ts.length := by rw [hr.tl, ← hr.pl]; exact (List.getElem?_eq_some_iff.1 hp).1
        exact .p (hr.r i _ p v (List.getElem?_eq_getElem hi) hp (by simpa using hv)).2
    | _ => cases hts'

theorem args_ok : ∀ {ts : List TypeId} {vs : List Value} {ds : List (DataW H)} {ps : List MemPlace}, DataW.TrodAll enc P W 0 (fun _ => true) true ts vs ds ps → (∀ t ∈ ts, (flat P 8 t).isSome = true) →
    (∀ (j : Nat) t v, ts[j]? = some t → vs[j]? = some v → ∃ r base, Value.okWide P W r base t v) → (∀ m ∈ DataW.weightsEach P ts ds, m ≤ reachBytes) →
    ∃ as : List AV, as.length = ts.length ∧ VL (gI W) W.heap as vs ∧ ∀ (i : Nat) t a, ts[i]? = some t → as[i]? = some a → argOK P t a
  | [], [], [], _, _, _, _, _ => ⟨[], rfl, ⟨rfl, fun i a v h => by simp at h⟩, fun i t a h => by simp at h⟩
  | t :: ts, v :: vs, d :: ds, ps, ⟨p, q, h1, h2, _⟩, hf, hv, hw => by
    rw [DataW.weightsEach] at hw
    obtain ⟨a, ha, hr⟩ := arg_ok (hf t (by simp)) (hv 0 t v rfl rfl) h1 (fun m hm => hw m (List.mem_append_left _ hm))
    obtain ⟨as, k1, k2, k3⟩ := args_ok h2 (fun t ht => hf t (by simp [ht])) (fun j t v h3 h4 => hv (j + 1) t v (by simpa using h3) (by simpa using h4)) (fun m hm => hw m (List.mem_append_right _ hm))
    refine ⟨a :: as, by simp [k1], ⟨by simp [k2.1], fun i b w hb hw => ?_⟩, fun i t' b ht hb => ?_⟩
    · cases i with
      | zero => simp at hb hw; subst hb; subst hw; exact hr
      | succ i => exact k2.2 i b w (by simpa using hb) (by simpa using hw)
    · cases i with
      | zero => simp at hb ht; subst hb; subst ht; exact ha
      | succ i => exact k3 i t' b (by simpa using ht) (by simpa using hb)

theorem below_st {w w' : World} {g' : Gh} {m' : Mem} (h : St (gI w) w (memL []) g' w' m') : Below w.heap.size w w' :=
  ⟨h.os, h.tape, h.output, h.size, fun k hk => (h.frame k hk (fun n ho => by rcases ho with ⟨_, h, _⟩ | ⟨h, _⟩ <;> simp [memL] at h)).1⟩

theorem trodAll_stays (hl : laidOutB P = true) {W W' : World} {sp' : Nat → Bool} (hb : Below W.heap.size W W') : ∀ {ts : List TypeId} {vs : List Value} {ds : List (DataW H)} {ps : List MemPlace}, (∀ t ∈ ts, P.readableRec t = true ∧ t < P.types.size) →
    DataW.TrodAll enc P W 0 (fun _ => true) true ts vs ds ps → (∀ p ∈ ps, p.block < W.heap.size) → (∀ p ∈ ps, sp' p.block = true) → DataW.TrodAll enc P W' 0 sp' true ts vs ds ps
  | [], [], [], _, _, h, _, _ => h
  | t :: ts, v :: vs, d :: ds, ps, ht, ⟨p, q, h1, h2, e⟩, hlt, hs => by
    subst e
    refine ⟨p, q, WideElems.Trod_stays hl (ht t (by simp)).1 (ht t (by simp)).2 h1 (fun x hx => hb.same (hlt x (List.mem_append_left _ hx))) (fun x hx => hs x (List.mem_append_left _ hx)), ?_, rfl⟩
    exact trodAll_stays hl hb (fun t h => ht t (by simp [h])) h2 (fun x hx => hlt x (List.mem_append_right _ hx)) (fun x hx => hs x (List.mem_append_right _ hx))

/-- What is asked at the end of a law that writes no variable: marks are looked at in old memory alone. -/
theorem post_olds {f : Func} {s : ChangeSpec} {apart fresh handsOn again : Bool} {W W' : World} {args : Array Value} {v : Value} {ds gs : List (DataW H)} {ps : List MemPlace}
    (hW : DataW.Whole enc P f.params.toList s.vars apart W args.toList ds gs ps) (hvs : s.vars = [] ∧ (s.fn H (ds ++ gs)).vars = [])
    (hres : ∀ (b : Nat) (sp : Nat → Bool) (hd : Bool), DataW.TrodAll enc P W' b sp hd f.resultTypes.toList (v.resultList f.resultTypes.size) (s.fn H (ds ++ gs)).results [])
    (hargs : ∀ sp : Nat → Bool, (∀ p ∈ ps, sp p.block = true) → DataW.TrodAll enc P W' 0 sp true f.params.toList args.toList (s.fn H (ds ++ gs)).args ps)
    (hk : W.keptBut W' (· ∈ ps)) (hfz : ∀ a : Addr, a.block < W.heap.size → W'.frozen? a = W.frozen? a)
    (hok : ∀ (j : Nat) (t : TypeId) (r : Value), f.resultTypes[j]? = some t → (v.resultList f.resultTypes.size)[j]? = some r → Value.okWide P W' .any 0 t r) :
    s.post enc P f apart fresh handsOn again W args v W' := by
  have hlt := hW.lt
  have hvars : ∀ sp : Nat → Bool, DataW.TrodVars enc P W' sp s.vars (s.fn H (ds ++ gs)).vars [] := fun sp => by rw [hvs.1, hvs.2]; rfl
  have hin : ∀ p ∈ ps, decide (p.block < W.heap.size) = true := fun p hp => decide_eq_true (hlt p hp)
  refine ⟨ds, gs, ps, [], ps, [], hW, hres _ _ _, hargs (fun b => decide (b < W.heap.size)) hin, hvars _, World.keptBut_mono (fun p hp => ⟨hp, .inr (by simpa using hp)⟩) hk, fun _ => ?_⟩
  obtain ⟨_, _, _, _, _, hz, hn⟩ := hW
  refine ⟨hok, _, _, ps, ⟨ps, [], by simpa using trodAll_append (hargs _ (fun _ _ => rfl)) (hres _ _ _), hvars _, by simp, fun b off hp => ?_, fun ha => by simpa using hn ha⟩, fun p hp _ => by simpa using hp⟩
  rw [hfz _ (show (MemPlace.cell b off).block < _ from hlt _ hp)]
  exact hz b off hp

/-- A law that returns true, by its contract. -/
theorem law_callsG {Γ : Globs} (hl : laidOutB P = true) {f : FuncId} {fn : Func} {s : ChangeSpec} (hvars : s.vars = []) (hsp : ∀ ds : List (DataW H), ds.length = fn.params.toList.length → s.fn H ds = { results := [.lit (.bool true)], args := ds })
    {tb : TypeId} (hres : fn.resultTypes = #[tb]) (hb : P.underlying tb = some .bool) (hts : (fn.params.toList.all fun t => (flat P 8 t).isSome && P.readableRec t && decide (t < P.types.size)) = true)
    (hG : ∀ as : List AV, as.length = fn.params.toList.length → (∀ (i : Nat) t a, fn.params.toList[i]? = some t → as[i]? = some a → argOK P t a) → Good P Γ f as [] (.ret (.bool true)) [])
    (hΓ : GlobR (gI W).U W.heap Γ)
    {args : Array Value} {ds gs : List (DataW H)} {before : List MemPlace} {base : Nat} {again : Bool}
    (hval : ∀ (j : Nat) t v, fn.params[j]? = some t → args[j]? = some v → Value.okWide P W .any base t v)
    (hW : DataW.Whole enc P fn.params.toList s.vars false W args.toList ds gs before)
    (hz : (DataW.weightsEach P (fn.params.toList ++ s.plain.varTypes P) (ds ++ gs)).all (· ≤ reachBytes) = true) :
    Calls P f args W fun e W' => ∃ v, e = .returned v ∧ s.post enc P fn false true false again W args v W' := by
  have hts' : ∀ t ∈ fn.params.toList, (flat P 8 t).isSome = true ∧ P.readableRec t = true ∧ t < P.types.size := fun t ht => by
    have := List.all_eq_true.1 hts t ht
    simp only [Bool.and_eq_true, decide_eq_true_eq] at this
    exact ⟨this.1.1, this.1.2, this.2⟩
  have hW' := hW
  obtain ⟨p, q, hA, hV, rfl, hfz, hnd⟩ := hW
  have hlen : ∀ {ts : List TypeId} {vs : List Value} {ds : List (DataW H)} {ps : List MemPlace}, DataW.TrodAll enc P W 0 (fun _ => true) true ts vs ds ps → ds.length = ts.length := by
    intro ts
    induction ts with
    | nil => intro vs ds ps h; cases vs <;> cases ds <;> first | rfl | exact h.elim
    | cons t ts ih =>
      intro vs ds ps h
      match vs, ds, h with
      | v :: vs, d :: ds, ⟨_, _, _, h2, _⟩ => simp [ih h2]
  rw [hvars] at hV
  have hV' : gs = [] ∧ q = [] := by
    cases gs with
    | nil => exact ⟨rfl, hV⟩
    | cons _ _ => exact hV.elim
  obtain ⟨rfl, rfl⟩ := hV'
  rw [List.append_nil] at hz
  have hwt : ∀ m ∈ DataW.weightsEach P fn.params.toList ds, m ≤ reachBytes := by
    have hvt : s.plain.varTypes P = [] := by simp [ChangeSpec.plain, DataSpec.varTypes, hvars]
    rw [hvt, List.append_nil] at hz
    intro m hm
    simpa using List.all_eq_true.1 hz m hm
  obtain ⟨as, h1, h2, h3⟩ := args_ok hA (fun t ht => (hts' t ht).1) (fun j t v h4 h5 => ⟨.any, base, hval j t v (by simpa using h4) (by simpa using h5)⟩) hwt
  have hg := (hG as h1 h3).run (gI W) W args.toList (relG W hΓ) h2
  simp only [List.append_nil] at hW'
  refine hg.mono (fun e W' he => ?_)
  cases e with
  | returned v =>
    obtain ⟨r, g', hr, hfin, hv⟩ := he
    cases hr
    have hv := vr_s hv
    subst hv
    have hbel := below_st hfin.st
    have hlt : ∀ x ∈ p, x.block < W.heap.size := fun x hx => by simpa using hW'.lt x hx
    have hs := hsp ds (hlen hA)
    refine ⟨_, rfl, post_olds (ps := p) hW' ⟨hvars, by rw [List.append_nil, hs]⟩ (fun _ _ _ => ?_) (fun sp hsp' => ?_) (hbel.frame _) (fun a ha => ?_) (ok_one hres rfl (okWide_bool_mk hb _))⟩
    · rw [List.append_nil, hs, hres]
      exact trodAll_cons_mk (shut_bool hb _) trodAll_mk0
    · rw [List.append_nil, hs]
      exact trodAll_stays hl hbel (fun t ht => (hts' t ht).2) hA hlt hsp'
    · exact hfin.st.fz a ha (fun n ho => by rcases ho with ⟨_, h, _⟩ | ⟨h, _⟩ <;> simp [memL] at h)
  | panicked ch =>
    obtain ⟨v, g', hr, _⟩ := he
    cases hr
  | outgrown => exact he.elim
end

/-! ### What arguments are -/
theorem okL_cons {t : Ty} {ts : List Ty} {ps : List PV} (h : OkL (t :: ts) ps) : ∃ p qs, ps = p :: qs ∧ OkP t p ∧ OkL ts qs := by
  obtain ⟨h1, h2⟩ := h
  cases ps with
  | nil => simp at h1
  | cons p qs => exact ⟨p, qs, rfl, h2 0 t p rfl rfl, by simpa using h1, fun i t' p' h3 h4 => h2 (i + 1) t' p' (by simpa using h3) (by simpa using h4)⟩
theorem okL_nil {ps : List PV} (h : OkL [] ps) : ps = [] := List.eq_nil_of_length_eq_zero h.1
theorem okP_int {k : IntKind} {p : PV} (h : OkP (.int k) p) : ∃ n, p = .s (.int k n) ∧ k.min ≤ n ∧ n ≤ k.max := by
  cases h with
  | int h => exact ⟨_, rfl, by simpa [Lit.wf] using h⟩
theorem okP_i64 {p : PV} (h : OkP (.int .i64) p) : ∃ n, p = .s (.int .i64 n) ∧ -9223372036854775808 ≤ n ∧ n ≤ 9223372036854775807 := by
  obtain ⟨n, h1, h2, h3⟩ := okP_int h
  exact ⟨n, h1, h2, h3⟩
theorem okP_u8 {p : PV} (h : OkP (.int .u8) p) : ∃ b : UInt8, p = .s (.int .u8 b.toNat) := by
  obtain ⟨n, h1, h2, h3⟩ := okP_int h
  have h2 : 0 ≤ n := h2
  have h3 : n ≤ 255 := h3
  refine ⟨UInt8.ofNat n.toNat, ?_⟩
  have : ((UInt8.ofNat n.toNat).toNat : Int) = n := by
    rw [UInt8.toNat_ofNat_of_lt' (by show n.toNat < 256; omega)]
    omega
  rw [this]
  exact h1
theorem okP_bool {p : PV} (h : OkP .bool p) : ∃ b, p = .s (.bool b) := by
  cases h with
  | bool b => exact ⟨b, rfl⟩
theorem okP_f64 {p : PV} (h : OkP (.flt .f64) p) : ∃ n : Nat, p = .s (.float .f64 n) ∧ n < 18446744073709551616 := by
  cases h with
  | flt h => exact ⟨_, rfl, by simpa [Lit.wf] using h⟩
theorem okP_u64 {p : PV} (h : OkP (.int .u64) p) : ∃ n : Nat, p = .s (.int .u64 n) ∧ n < 18446744073709551616 := by
  obtain ⟨n, h1, h2, h3⟩ := okP_int h
  have h2 : 0 ≤ n := h2
  have h3 : n ≤ 18446744073709551615 := h3
  exact ⟨n.toNat, by rw [h1, Int.toNat_of_nonneg h2], by omega⟩
theorem okP_sl {es : List Ty} {p : PV} (h : OkP (.sl es) p) : ∃ xs, p = .sl es.length xs ∧ xs.length ≤ 140737488351232 ∧ ∀ x ∈ xs, OkL es x := by
  cases h with
  | sl hl h1 h2 => exact ⟨_, rfl, hl, fun x hx => ⟨h1 x hx, h2 x hx⟩⟩
/-- A list of rows, each of a form. -/
theorem rows_of {α : Type} {g : α → List PV} {xs : List (List PV)} (h : ∀ x ∈ xs, ∃ a, x = g a) : ∃ l : List α, xs = l.map g := by
  induction xs with
  | nil => exact ⟨[], rfl⟩
  | cons x xs ih =>
    obtain ⟨a, ha⟩ := h x (by simp)
    obtain ⟨l, hl⟩ := ih (fun y hy => h y (by simp [hy]))
    exact ⟨a :: l, by rw [ha, hl]; rfl⟩
theorem okP_bytes {p : PV} (h : OkP (.sl [.int .u8]) p) : ∃ b : List UInt8, p = .sl 1 (bys b) ∧ b.length ≤ 140737488351232 := by
  obtain ⟨xs, rfl, hl, hx⟩ := okP_sl h
  obtain ⟨l, rfl⟩ := rows_of (g := by1) (xs := xs) (fun x hxm => by
    obtain ⟨p, qs, rfl, h1, h2⟩ := okL_cons (hx x hxm)
    have := okL_nil h2
    subst this
    obtain ⟨b, rfl⟩ := okP_u8 h1
    exact ⟨b, rfl⟩)
  exact ⟨l, rfl, by simpa using hl⟩
theorem arg_one {P : Program} {t : TypeId} {a : AV} {ty : Ty} (hf : flat P 8 t = some [ty]) (ha : isAggT P t = false) (h : argOK P t a) : ∃ p, a = .p p ∧ OkP ty p := by
  obtain ⟨ts, h1, h2⟩ := h
  rw [hf] at h1
  cases h1
  rw [ha] at h2
  obtain ⟨ty', p, h3, h4, h5⟩ := h2
  cases h3
  exact ⟨p, h4, h5⟩
theorem arg_agg {P : Program} {t : TypeId} {a : AV} {ts : List Ty} (hf : flat P 8 t = some ts) (ha : isAggT P t = true) (h : argOK P t a) : ∃ ps, a = .agg (ps.map AV.p) ∧ OkL ts ps := by
  obtain ⟨ts', h1, h2⟩ := h
  rw [hf] at h1
  cases h1
  rw [ha] at h2
  exact h2
end Go.Shade
