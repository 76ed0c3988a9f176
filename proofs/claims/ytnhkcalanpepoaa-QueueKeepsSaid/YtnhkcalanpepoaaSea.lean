/- '==' of structs and arrays of whole numbers, bools and strings: what it gives, cell by cell. Own work. -/
import Derived.Laws.StructEq
import Derived.Laws.Sem
import Derived.ChangeKeysEq
namespace Go.Shade
open Go

def eqV : Nat → Value → Value → Option Bool
  | 0, .int k a, .int k' b => if k = k' then some (decide (a = b)) else none
  | 1, .bool a, .bool b => some (decide (a = b))
  | 2, .string a, .string b => some (a.toList == b.toList)
  | _, _, _ => none
def eqVs : List Nat → List Value → List Value → Option Bool
  | [], [], [] => some true
  | k :: ks, a :: as, b :: bs => (eqV k a b).bind fun x => (eqVs ks as bs).map fun y => x && y
  | _, _, _ => none
/-- The kinds of a type's cells, if it is laid one behind the other and of such alone. -/
def eqFs (P : Program) (rec : TypeId → Option (List Nat)) : Nat → List Field → Option (List Nat)
  | _, [] => some []
  | off, f :: fs => (rec f.type).bind fun l => if f.name != "_" && f.offset == off && l.length != 0 && (match P.info? f.type with | some i => i.size == l.length | none => false) then (eqFs P rec (off + l.length) fs).map (l ++ ·) else none
def eqK (P : Program) : Nat → TypeId → Option (List Nat)
  | 0, _ => none
  | d + 1, t => match P.underlying t with
    | some (.int _) => some [0]
    | some .bool => some [1]
    | some .string => some [2]
    | some (.array n e) => (eqK P d e).bind fun l => match P.info? e with
      | some i => if i.size == l.length && l.length != 0 then some (List.replicate n l).flatten else none
      | none => none
    | some (.struct fs) => if P.stoodInHeld t then none else eqFs P (eqK P d) 0 fs.toList
    | _ => none

theorem eqVs_split : ∀ {ks kr : List Nat} {A B : List Value} {r : Bool}, eqVs (ks ++ kr) A B = some r → ∃ r1 r2, eqVs ks (A.take ks.length) (B.take ks.length) = some r1 ∧ eqVs kr (A.drop ks.length) (B.drop ks.length) = some r2 ∧ r = (r1 && r2)
  | [], kr, A, B, r, h => ⟨true, r, by simp [eqVs], by simpa using h, by simp⟩
  | k :: ks, kr, [], B, r, h => by cases B <;> simp [eqVs] at h
  | k :: ks, kr, a :: A, [], r, h => by simp [eqVs] at h
  | k :: ks, kr, a :: A, b :: B, r, h => by
    simp only [List.cons_append, eqVs, Option.bind_eq_some_iff, Option.map_eq_some_iff] at h
    obtain ⟨x, hx, y, hy, rfl⟩ := h
    obtain ⟨r1, r2, h1, h2, rfl⟩ := eqVs_split hy
    exact ⟨x && r1, r2, by simp [eqVs, hx, h1], by simpa using h2, by simp [Bool.and_assoc]⟩
theorem eqVs_len : ∀ {ks : List Nat} {A B : List Value} {r : Bool}, eqVs ks A B = some r → A.length = ks.length ∧ B.length = ks.length
  | [], [], [], _, _ => ⟨rfl, rfl⟩
  | [], _ :: _, _, _, h => by simp [eqVs] at h
  | [], [], _ :: _, _, h => by simp [eqVs] at h
  | _ :: _, [], _, _, h => by simp [eqVs] at h
  | _ :: _, _ :: _, [], _, h => by simp [eqVs] at h
  | k :: ks, a :: A, b :: B, r, h => by
    simp only [eqVs, Option.bind_eq_some_iff, Option.map_eq_some_iff] at h
    obtain ⟨x, hx, y, hy, rfl⟩ := h
    obtain ⟨h1, h2⟩ := eqVs_len hy
    simp [h1, h2]

def isAggD (P : Program) (t : TypeId) : Bool := match P.underlying t with
  | some (.struct _) | some (.array _ _) => true
  | _ => false
/-- A value of a type has cells so. -/
def Shp (P : Program) (t : TypeId) (v : Value) (l : List Value) : Prop := if isAggD P t then v = .agg l.toArray else l = [v]

section
variable {P : Program}
def EqF (P : Program) (d : Nat) (t : TypeId) (ks : List Nat) : Prop := ∀ (w : World) (x y : Value) (A B : List Value) (r : Bool), Shp P t x A → Shp P t y B → eqVs ks A B = some r → (Op.equalIn d t x y).run P w = .ok r w

theorem part_shp {t : TypeId} {i : TypeInfo} {d : TypeDesc} (hi : P.info? t = some i) (hu : P.underlying t = some d) (hn : isAggD P t = true ∨ i.size = 1) {vs : Array Value} {off : Nat} (hle : off + i.size ≤ vs.size) (w : World) :
    ∃ v, (part t vs off).run P w = .ok v w ∧ Shp P t v ((vs.toList.drop off).take i.size) := by
  have h1 : (isAgg t).run P w = .ok (isAggD P t) w := by
    simp only [isAgg, Sem.run_bind, run_underlying hu, Result.andThen_ok, isAggD, hu]
    cases d <;> rfl
  have h2 : (sizeOf t).run P w = .ok i.size w := by simp [sizeOf, typeInfo, Sem.run_bind, run_program, hi]
  cases hb : isAggD P t with
  | true =>
    rw [hb] at h1
    refine ⟨.agg (vs.extract off (off + i.size)), by simp [part, Sem.run_bind, h1, h2], ?_⟩
    rw [Shp, hb, if_pos rfl]
    congr 1
    apply Array.ext'
    simp [List.take_drop]
  | false =>
    rw [hb] at h1
    have h3 : i.size = 1 := by simpa [hb] using hn
    have hlt : off < vs.size := by omega
    refine ⟨vs[off], by simp [part, Sem.run_bind, h1, Array.getElem?_eq_getElem hlt], ?_⟩
    rw [Shp, hb, h3]
    simp only [Bool.false_eq_true, if_false]
    rw [List.drop_eq_getElem_cons (by simpa using hlt)]
    simp

theorem eqK_size {m : Nat} {t : TypeId} {ks : List Nat} (h : eqK P m t = some ks) : isAggD P t = true ∨ ks.length = 1 := by
  cases m with
  | zero => simp [eqK] at h
  | succ m =>
    unfold eqK at h
    unfold isAggD
    cases hu : P.underlying t with
    | none => rw [hu] at h; cases h
    | some d =>
      rw [hu] at h
      cases d <;> first | (exact .inl rfl) | (cases h; exact .inr rfl) | cases h

theorem step_eq {d : Nat} {t : TypeId} {ks : List Nat} (IH : EqF P d t ks) {i : TypeInfo} (hi : P.info? t = some i) {u : TypeDesc} (hu : P.underlying t = some u) (hs : i.size = ks.length) (hz : isAggD P t = true ∨ ks.length = 1) {xs ys : Array Value} {off : Nat} {r : Bool}
    (hx : off + ks.length ≤ xs.size) (hy : off + ks.length ≤ ys.size) (h : eqVs ks ((xs.toList.drop off).take ks.length) ((ys.toList.drop off).take ks.length) = some r) (w : World) :
    ∃ a b, (part t xs off).run P w = .ok a w ∧ (part t ys off).run P w = .ok b w ∧ (Op.equalIn d t a b).run P w = .ok r w := by
  rw [← hs] at hz hx hy
  obtain ⟨a, h1, h2⟩ := part_shp hi hu hz hx w
  obtain ⟨b, h3, h4⟩ := part_shp hi hu hz hy w
  rw [hs] at h2 h4
  exact ⟨a, b, h1, h3, IH w a b _ _ r h2 h4 h⟩

theorem eqFields_flat {d m : Nat} (IH : ∀ t ks, eqK P m t = some ks → EqF P d t ks) {xs ys : Array Value} (w : World) : ∀ (fs : List Field) (off : Nat) (ks : List Nat) (r : Bool), eqFs P (eqK P m) off fs = some ks →
    eqVs ks (xs.toList.drop off) (ys.toList.drop off) = some r → (Op.eqFields d xs ys fs).run P w = .ok r w
  | [], off, ks, r, h, he => by
    cases h
    have : r = true := by
      cases hA : xs.toList.drop off <;> cases hB : ys.toList.drop off <;> rw [hA, hB] at he <;> simp [eqVs] at he
      exact he
    subst this
    rfl
  | f :: fs, off, ks, r, h, he => by
    simp only [eqFs, Option.bind_eq_some_iff] at h
    obtain ⟨l, hl, h⟩ := h
    cases hinf : P.info? f.type with
    | none => rw [hinf] at h; simp at h
    | some i =>
      rw [hinf] at h
      simp only at h
      split at h
      · rename_i hc
        rw [Bool.and_eq_true, Bool.and_eq_true, Bool.and_eq_true, bne_iff_ne, beq_iff_eq, beq_iff_eq, bne_iff_ne] at hc
        obtain ⟨⟨⟨hn, ho⟩, h0⟩, hi⟩ := hc
        obtain ⟨kr, hkr, rfl⟩ := Option.map_eq_some_iff.1 h
        obtain ⟨r1, r2, h1, h2, rfl⟩ := eqVs_split he
        obtain ⟨l1, l2⟩ := eqVs_len h1
        rw [List.drop_drop, List.drop_drop] at h2
        have hu : ∃ u, P.underlying f.type = some u := by
          cases hu : P.underlying f.type with
          | none =>
            cases m with
            | zero => simp [eqK] at hl
            | succ m => unfold eqK at hl; rw [hu] at hl; cases hl
          | some u => exact ⟨u, rfl⟩
        obtain ⟨u, hu⟩ := hu
        simp only [List.length_take, List.length_drop, Array.length_toList] at l1 l2
        obtain ⟨a, b, p1, p2, p3⟩ := step_eq (IH _ _ hl) hinf hu hi (eqK_size hl) (xs := xs) (ys := ys) (off := off) (by omega) (by omega) h1 w
        have ih := eqFields_flat IH (xs := xs) (ys := ys) w fs (off + l.length) kr r2 hkr h2
        simp only [Op.eqFields, hn, ne_eq, not_false_eq_true, if_true, Sem.run_bind, ho, p1, p2, p3, Result.andThen_ok]
        cases r1
        · simp
        · simpa using ih
      · cases h

theorem eqItems_flat {d : Nat} {e : TypeId} {l : List Nat} (IH : EqF P d e l) {i : TypeInfo} (hi : P.info? e = some i) {u : TypeDesc} (hu : P.underlying e = some u) (hs : i.size = l.length) (hz : isAggD P e = true ∨ l.length = 1) {c : Nat} (hc : c = l.length) (h0 : l.length ≠ 0)
    {xs ys : Array Value} (w : World) : ∀ (n j : Nat) (r : Bool), eqVs (List.replicate n l).flatten (xs.toList.drop (j * l.length)) (ys.toList.drop (j * l.length)) = some r → (Op.eqItems d e c xs ys (List.range' j n)).run P w = .ok r w
  | 0, j, r, h => by
    have : r = true := by
      cases hA : xs.toList.drop (j * l.length) <;> cases hB : ys.toList.drop (j * l.length) <;> rw [hA, hB] at h <;> simp [eqVs] at h
      exact h
    subst this
    simp [Op.eqItems]
  | n + 1, j, r, h => by
    subst hc
    rw [List.replicate_succ, List.flatten_cons] at h
    obtain ⟨r1, r2, h1, h2, rfl⟩ := eqVs_split h
    obtain ⟨l1, l2⟩ := eqVs_len h1
    simp only [List.length_take, List.length_drop, Array.length_toList] at l1 l2
    rw [List.drop_drop, List.drop_drop] at h2
    obtain ⟨a, b, p1, p2, p3⟩ := step_eq IH hi hu hs hz (xs := xs) (ys := ys) (off := j * l.length) (by omega) (by omega) h1 w
    have ih := eqItems_flat IH hi hu hs hz rfl h0 (xs := xs) (ys := ys) w n (j + 1) r2 (by rw [Nat.add_mul, Nat.one_mul]; exact h2)
    rw [List.range'_succ]
    simp only [Op.eqItems, Sem.run_bind, p1, p2, p3, Result.andThen_ok]
    cases r1
    · simp
    · simpa using ih

theorem equalIn_flat : ∀ (m : Nat) (t : TypeId) (ks : List Nat), eqK P m t = some ks → ∀ d, m ≤ d → EqF P d t ks
  | 0, _, _, h, _, _ => by simp [eqK] at h
  | m + 1, t, ks, h, 0, hd => absurd hd (by omega)
  | m + 1, t, ks, h, d + 1, hd => by
    intro w x y A B r hx hy he
    have IH : ∀ t ks, eqK P m t = some ks → EqF P d t ks := fun t ks h => equalIn_flat m t ks h d (by omega)
    unfold eqK at h
    unfold Shp isAggD at hx hy
    cases hu : P.underlying t with
    | none => rw [hu] at h; cases h
    | some u =>
      rw [hu] at h hx hy
      cases u <;> simp only [Option.some.injEq, reduceCtorEq] at h
      case int k =>
        subst h
        simp only [Bool.false_eq_true, if_false] at hx hy
        subst hx; subst hy
        cases x <;> cases y <;> simp [eqVs, eqV] at he
        rename_i k1 a k2 b
        obtain ⟨rfl, he⟩ := he
        rw [run_equalIn_int w d t k1 k a b hu]
        by_cases hab : a = b <;> simp_all
      case bool =>
        subst h
        simp only [Bool.false_eq_true, if_false] at hx hy
        subst hx; subst hy
        cases x <;> cases y <;> simp [eqVs, eqV] at he
        rename_i a b
        rw [run_equalIn_bool w d t a b hu]
        cases a <;> cases b <;> simp_all
      case string =>
        subst h
        simp only [Bool.false_eq_true, if_false] at hx hy
        subst hx; subst hy
        cases x <;> cases y <;> simp [eqVs, eqV] at he
        rename_i a b
        rw [run_equalIn_string w d t a b hu, he]
      case array n e =>
        simp only [if_true] at hx hy
        subst hx; subst hy
        obtain ⟨l, hl, h⟩ := Option.bind_eq_some_iff.1 h
        cases hinf : P.info? e with
        | none => rw [hinf] at h; cases h
        | some i =>
          rw [hinf] at h
          simp only at h
          split at h
          · rename_i hs
            rw [Bool.and_eq_true, beq_iff_eq, bne_iff_ne] at hs
            obtain ⟨hs, h0⟩ := hs
            cases h
            have hu' : ∃ u, P.underlying e = some u := by
              cases hue : P.underlying e with
              | none =>
                cases m with
                | zero => simp [eqK] at hl
                | succ m => unfold eqK at hl; rw [hue] at hl; cases hl
              | some u => exact ⟨u, rfl⟩
            obtain ⟨u, hue⟩ := hu'
            have hco : P.cellsOf e = l.length := by simp [Program.cellsOf, hinf, hs]
            rw [run_equalIn_array w d A.toArray B.toArray hu hinf, List.range_eq_range']
            exact eqItems_flat (IH e l hl) hinf hue hs (eqK_size hl) hco h0 (xs := A.toArray) (ys := B.toArray) w n 0 r (by simpa using he)
          · cases h
      case struct fs =>
        simp only [if_true] at hx hy
        subst hx; subst hy
        split at h
        · cases h
        · rename_i hp
          have hfo : P.fieldsOf t = fs := by simp [Program.fieldsOf, hu]
          rw [run_equalIn_struct w d t A.toArray B.toArray (by rw [hfo]; exact hu) (by simpa using hp), hfo]
          exact eqFields_flat IH (xs := A.toArray) (ys := B.toArray) w fs.toList 0 ks r h (by simpa using he)
end
end Go.Shade
