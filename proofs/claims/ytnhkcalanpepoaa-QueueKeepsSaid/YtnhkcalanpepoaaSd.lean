/- The quiet operations do what 'cpure' says. Own work. -/
import Derived.Test.YtnhkcalanpepoaaSc
namespace Go.Shade
open Go

structure RelS (Γ : Globs) (N : Nat) (g : Gh) (w : World) (a : Act) (env : Nat → AV) (m : Mem) : Prop where
  rel : Rel Γ g w m
  size : a.tmps.size = N
  env : ∀ i v, a.tmps[i]? = some v → VR g w.heap (env i) v

theorem vr_ofV (g : Gh) (h : Array Obj) (v : Value) : VR g h (AV.ofV v) v := by
  cases v <;> try exact .p (.s _)
  rename_i cs
  refine .agg (by simp) (fun i a v ha hv => ?_)
  simp only [List.getElem?_map, Array.getElem?_toList, hv, Option.map_some, Option.some.injEq] at ha
  subst ha
  exact .p (.s _)

section
variable {P : Program} {N : Nat} {Γ : Globs} {g : Gh} {w : World} {a : Act} {env : Nat → AV} {m : Mem}

theorem cX_sound (hS : RelS Γ N g w a env m) {x : Operand} {x' : X} (hx : cX N x = some x') : VR g w.heap (x'.ev Γ env) (a.eval x) := by
  cases x with
  | tmp t =>
    simp only [cX] at hx
    split at hx
    · rename_i ht
      cases hx
      have ht' : t < a.tmps.size := by rw [hS.size]; exact ht
      have he : a.eval (.tmp t) = a.tmps[t] := by simp [Act.eval, Array.getD, ht']
      rw [he]
      exact hS.env t _ (Array.getElem?_eq_getElem ht')
    · cases hx
  | const v =>
    simp only [cX, Option.some.injEq] at hx
    subst hx
    exact vr_ofV _ _ _
  | global G =>
    simp only [cX, Option.some.injEq] at hx
    subst hx
    simp only [X.ev, Act.eval]
    cases hG : Γ G with
    | none => exact .junk
    | some cs =>
      obtain ⟨f, hp, hr⟩ := hS.rel.glob G cs hG
      exact .cptr f rfl hp hr
  | func f =>
    simp only [cX, Option.some.injEq] at hx
    subst hx
    exact .fn rfl (fun i a v h _ => by simp at h) rfl (fun i a v h _ => by simp at h)

theorem cXs_sound (hS : RelS Γ N g w a env m) : ∀ {l : List Operand} {l' : List X}, cXs N l = some l' → l'.length = l.length ∧ ∀ (i : Nat) (b : AV) (v : Value), (l'.map (X.ev Γ env))[i]? = some b → (l.map a.eval)[i]? = some v → VR g w.heap b v
  | [], l', h => by
    simp only [cXs, List.mapM_nil, pure, Option.some.injEq] at h
    subst h
    exact ⟨rfl, fun i b v h _ => by simp at h⟩
  | x :: l, l', h => by
    simp only [cXs, List.mapM_cons, bind, Option.bind_eq_some_iff, pure, Option.some.injEq] at h
    obtain ⟨x', hx, r, hr, rfl⟩ := h
    obtain ⟨h1, h2⟩ := cXs_sound hS (l := l) (l' := r) hr
    refine ⟨by simp [h1], fun i b v hb hv => ?_⟩
    cases i with
    | zero =>
      simp at hb hv
      subst hb; subst hv
      exact cX_sound hS hx
    | succ i =>
      simp at hb hv
      exact h2 i b v (by simpa using hb) (by simpa using hv)

/-! ### Shapes -/
theorem vr_s {v u : Value} (h : VR g w.heap (.p (.s v)) u) : u = v := by
  cases h with
  | p h => cases h; rfl
theorem vr_asSl {b : AV} {sz : Nat} {xs : List (List PV)} {v : Value} (h : VR g w.heap b v) (hs : b.asSl sz = some xs) : ∃ A n c, v = .slice A n c ∧ PR g.U w.heap (.sl sz xs) (.slice A n c) := by
  unfold AV.asSl at hs
  split at hs
  · split at hs
    · rename_i hsz
      subst hsz
      cases hs
      cases h with
      | p h => cases h with
        | sl f hn hc hm hcm hsz hp hr => exact ⟨_, _, _, rfl, .sl f hn hc hm hcm hsz hp hr⟩
    · cases hs
  · split at hs
    · rename_i hsz
      subst hsz
      cases hs
      cases h with
      | own h _ => exact ⟨_, _, _, rfl, h⟩
    · cases hs
  · cases hs
    have := vr_s h
    subst this
    exact ⟨none, 0, 0, rfl, .sl (fun _ => default) rfl (Nat.le_refl _) (by omega) (by simp) (fun _ h => by simp at h) (fun hl => by simp at hl) (fun j a h => by simp at h)⟩
  · cases hs
theorem vr_asInt {b : AV} {i : Int} {v : Value} (h : VR g w.heap b v) (hs : b.asInt = some i) : ∃ k, v = .int k i := by
  unfold AV.asInt at hs
  split at hs
  · cases hs
    exact ⟨_, vr_s h⟩
  · cases hs

/-! ### Flat lists of elements of one size -/
theorem flatten_length {α : Type} {sz : Nat} : ∀ {xs : List (List α)}, (∀ x ∈ xs, x.length = sz) → xs.flatten.length = xs.length * sz
  | [], _ => by simp
  | x :: xs, h => by
    rw [List.flatten_cons, List.length_append, h x (by simp), flatten_length (xs := xs) (fun y hy => h y (by simp [hy])), List.length_cons, Nat.add_mul, Nat.one_mul, Nat.add_comm]
theorem flatten_drop {α : Type} {sz : Nat} : ∀ {xs : List (List α)} (i : Nat), (∀ x ∈ xs, x.length = sz) → (xs.drop i).flatten = xs.flatten.drop (i * sz)
  | [], i, _ => by simp
  | x :: xs, 0, _ => by simp
  | x :: xs, i + 1, h => by
    have hx := h x (by simp)
    have h1 : x.drop ((i + 1) * sz) = [] := List.drop_eq_nil_of_le (by rw [hx, Nat.add_mul, Nat.one_mul]; omega)
    have h2 : (i + 1) * sz - x.length = i * sz := by rw [hx, Nat.add_mul, Nat.one_mul]; omega
    rw [List.drop_succ_cons, flatten_drop (xs := xs) i (fun y hy => h y (by simp [hy])), List.flatten_cons, List.drop_append, h1, h2, List.nil_append]
theorem flatten_take {α : Type} {sz : Nat} : ∀ {xs : List (List α)} (i : Nat), (∀ x ∈ xs, x.length = sz) → (xs.take i).flatten = xs.flatten.take (i * sz)
  | [], i, _ => by simp
  | x :: xs, 0, _ => by simp
  | x :: xs, i + 1, h => by
    have hx := h x (by simp)
    have h1 : x.take ((i + 1) * sz) = x := List.take_of_length_le (by rw [hx, Nat.add_mul, Nat.one_mul]; omega)
    have h2 : (i + 1) * sz - x.length = i * sz := by rw [hx, Nat.add_mul, Nat.one_mul]; omega
    rw [List.take_succ_cons, List.flatten_cons, flatten_take (xs := xs) i (fun y hy => h y (by simp [hy])), List.flatten_cons, List.take_append, h1, h2]
theorem flatten_at {α : Type} {sz : Nat} {xs : List (List α)} (h : ∀ x ∈ xs, x.length = sz) {i : Nat} (hi : i < xs.length) (d : List α) : xs.getD i d = (xs.flatten.drop (i * sz)).take sz := by
  rw [← flatten_drop i h, List.drop_eq_getElem_cons hi, List.flatten_cons, List.take_left' (h _ (List.getElem_mem hi)), List.getD_eq_getElem?_getD, List.getElem?_eq_getElem hi]
  rfl

theorem Place.cut {U : Nat → Option Nat} {h : Array Obj} {ad : Addr} {len : Nat} {f : Nat → Value} (hp : Place U h (some ad) len f) (hs : ad.spot = none) (off n : Nat) (hle : off + n ≤ len) : Place U h (some (ad.add off)) n (fun j => f (off + j)) := by
  intro hn
  obtain ⟨ad', vs, T, fr, u, he, _, hh, hu, hb, hv⟩ := hp (by omega)
  injection he with he
  subst he
  have ha : ad.add off = ⟨ad.block, ad.off + off, none⟩ := by
    unfold Addr.add
    split
    · rename_i h0; subst h0; cases ad; simp_all
    · rfl
  exact ⟨_, vs, T, fr, u, rfl, by rw [ha], by rw [ha]; exact hh, by rw [ha]; exact hu, by rw [ha]; simp only; omega, fun j hj => by
    rw [ha]
    have := hv (off + j) (by omega)
    simp only
    rwa [Nat.add_assoc]⟩

theorem add_spot {ad : Addr} (hs : ad.spot = none) (n : Nat) : ad.add n = ⟨ad.block, ad.off + n, none⟩ := by
  unfold Addr.add
  split
  · rename_i h0; subst h0; cases ad; simp_all
  · rfl
end
end Go.Shade
