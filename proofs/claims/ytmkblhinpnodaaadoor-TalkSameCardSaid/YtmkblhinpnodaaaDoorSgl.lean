/- A listed package-level variable ahead of others; tables among arguments. Own work. -/
import Derived.Test.YtmkblhinpnodaaaDoorSbs
import Derived.Test.YtmkblhinpnodaaaDoorZ3
namespace Go.Shade
open Go Go.ChangeShapes Go.WideShapes Go.ChangeAt Go.RowKit
section
variable {H : Type} {enc : TypeId × Value → H} {P : Program} {W : World}
/-- A listed package-level variable, an array of whole numbers: what it holds. -/
theorem glob_laidR {r : List (String × DataW Unit)} {n : String} {g : Nat} {t e : TypeId} {k : IntKind} {ns : List Int} (hn : P.globalNamed n = some g) (ht : (P.globals[g]?).map (·.type) = some t) (hu : P.underlying t = some (.array ns.length e)) (hue : P.underlying e = some (.int k)) (hc : P.cellsOf e = 1)
    (hr : (((n, .agg (ns.map fun x => .lit (.int k x))) :: r : List (String × DataW Unit)).all fun x => x.2.handleName?.isNone) = true) (h : laidMetH P ((n, .agg (ns.map fun x => .lit (.int k x))) :: r) W) : GlobR (gI W).U W.heap (fun G => if G = g then some (ns.map fun x => .s (.int k x)) else none) := by
  rw [MakeChecks.laidMetH_plain _ _ _ hr] at h
  obtain ⟨ps, ⟨g', t', cs, fuel, p, q, k1, k2, k3, k4, _⟩, _⟩ := h
  obtain rfl := Option.some.inj (hn.symm.trans k1)
  obtain rfl := Option.some.inj (ht.symm.trans k2)
  obtain ⟨xs, m, _, hx, _, hl, hel⟩ := DataW.trod_array hu k4
  simp only [Prod.mk.injEq, DataW.agg.injEq] at hx
  obtain ⟨hx, _⟩ := hx
  have hcell : ∀ i (hi : i < ns.length), cs[i]? = some (.int k (ns[i])) := fun i hi => by
    have h1 := hel i hi
    rw [hc, Nat.mul_one] at h1
    have hxi : i < xs.length := by rw [hl]; exact hi
    rw [List.getElem?_eq_getElem hxi] at h1
    obtain ⟨v, e1, e2, _⟩ := DataW.trod_int hue h1
    have h2 := congrArg (·[i]?) hx
    simp only [List.getElem?_map, List.getElem?_eq_getElem hi, List.getElem?_eq_getElem hxi, Option.map_some, e2, Option.some.injEq, DataW.lit.injEq, Lit.int.injEq, true_and] at h2
    subst h2
    have h3 := congrArg (·[0]?) e1
    simp only [List.getElem?_take, List.getElem?_drop, Nat.zero_lt_one, if_true, Nat.add_zero, List.getElem?_cons_zero] at h3
    simpa using h3
  have hh : ∃ T fr, W.heap[g]? = some (.cells cs T fr) := by
    simp only [World.var?, hn, Option.bind_some] at k3
    split at k3
    · rename_i vs T fr hh
      first
        | (cases k3; exact ⟨T, fr, hh⟩)
        | (split at k3 <;> cases k3; exact ⟨T, fr, hh⟩)
    · cases k3
  obtain ⟨T, fr, hh⟩ := hh
  intro G c hG
  simp only at hG
  split at hG
  · rename_i e
    subst e
    cases hG
    refine ⟨fun j => cs[j]?.getD undef, ?_, ?_⟩
    · intro hpos
      rw [List.length_map] at hpos ⊢
      have hsz : ns.length ≤ cs.size := by
        have := (Array.getElem?_eq_some_iff.1 (hcell (ns.length - 1) (by omega))).1
        omega
      refine ⟨⟨G, 0, none⟩, cs, T, fr, cs.size, rfl, rfl, hh, by simp [gI, hh], by simpa using hsz, fun j hj => ?_⟩
      simp only [Nat.zero_add, hcell j hj, Option.getD_some]
      exact ⟨trivial, rfl⟩
    · intro j a ha
      rw [List.getElem?_map] at ha
      obtain ⟨x, hx, rfl⟩ := Option.map_eq_some_iff.1 ha
      obtain ⟨hj, rfl⟩ := List.getElem?_eq_some_iff.1 hx
      simp only [hcell j hj, Option.getD_some]
      exact .s _
  · cases hG
end
def tyT : Nat → List Ty
  | 0 => []
  | k + 1 => .int .i64 :: .int .u8 :: tyT k
theorem okL_cells : ∀ (k : Nat) {ts : List Ty} {ps : List PV}, OkL (tyT k ++ ts) ps → ∃ l : List (Int × UInt8), l.length = k ∧ ∃ qs, ps = tqPL l ++ qs ∧ OkL ts qs
  | 0, ts, ps, h => ⟨[], rfl, ps, by rw [tqPL]; rfl, h⟩
  | k + 1, ts, ps, h => by
    rw [tyT, List.cons_append, List.cons_append] at h
    obtain ⟨p, qs, rfl, h1, h2⟩ := okL_cons h
    obtain ⟨q, rs, rfl, h3, h4⟩ := okL_cons h2
    obtain ⟨n, rfl, _⟩ := okP_i64 h1
    obtain ⟨b, rfl⟩ := okP_u8 h3
    obtain ⟨l, hl, qs', rfl, h5⟩ := okL_cells k h4
    exact ⟨(n, b) :: l, by simp [hl], qs', by rw [tqPL]; rfl, h5⟩
theorem okL_tbl {ts : List Ty} {ps : List PV} (h : OkL (tyT 31 ++ ts) ps) : ∃ (t : Tbl) (qs : List PV), ps = tqP t ++ qs ∧ OkL ts qs := by
  obtain ⟨l, hl, qs, h1, h2⟩ := okL_cells 31 h
  exact ⟨⟨l, hl⟩, qs, h1, h2⟩
end Go.Shade
