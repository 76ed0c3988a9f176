/- The values of a small abstract machine, how they read in the model's memory, and what stays when memory grows. Own work. -/
import Derived.Calls
import Derived.Orders
import Derived.Tactics
import Derived.Below
import Derived.Laws.Sem
namespace Go.Shade
open Go

/-- A value that is held by value: exactly this one, or a slice, element by element, cell by cell. -/
inductive PV where
  | s (v : Value)
  | sl (sz : Nat) (xs : List (List PV))

/-- A value as a function has it. -/
inductive AV where
  | p (x : PV)
  | own (t : Nat) (sz : Nat) (xs : List (List PV))
  | agg (cs : List AV)
  | tup (xs : List AV)
  | ptr (b off : Nat)
  | cptr (cs : List PV)
  | fn (f : Fn) (first cap : List AV)
  | bsl (b off sz n : Nat)
  | cmap (es : List (Value × Value))
  | junk

abbrev AV.int (k : IntKind) (n : Int) : AV := .p (.s (.int k n))
abbrev AV.bool (b : Bool) : AV := .p (.s (.bool b))
abbrev AV.sl (sz : Nat) (xs : List (List PV)) : AV := .p (.sl sz xs)
abbrev PV.nil : PV := .s (.slice none 0 0)

/-- What is told of memory beside it: names of boxes and of tokens; how much of a block stays for ever. -/
structure Gh where
  σ : Nat → Option Nat
  τ : Nat → Option (Option (Nat × Nat))
  U : Nat → Option Nat

def Place (U : Nat → Option Nat) (h : Array Obj) (A : Option Addr) (len : Nat) (f : Nat → Value) : Prop :=
  0 < len → ∃ ad vs T fr u, A = some ad ∧ ad.spot = none ∧ h[ad.block]? = some (.cells vs T fr) ∧ U ad.block = some u ∧ ad.off + len ≤ u ∧ ∀ j, j < len → vs[ad.off + j]? = some (f j) ∧ (f j).oneCell' = true

inductive PR (U : Nat → Option Nat) (h : Array Obj) : PV → Value → Prop
  | s (v : Value) : PR U h (.s v) v
  | sl {sz : Nat} {xs : List (List PV)} {A : Option Addr} {n c : Nat} (f : Nat → Value) (hn : xs.length = n) (hc : n ≤ c) (hm : n ≤ 281474976710656) (hcm : c ≤ maxLen)
      (hsz : ∀ x ∈ xs, x.length = sz) (hp : Place U h A xs.flatten.length f) (hr : ∀ j a, xs.flatten[j]? = some a → PR U h a (f j)) : PR U h (.sl sz xs) (.slice A n c)

def TokR (g : Gh) (h : Array Obj) (t sz : Nat) (A : Option Addr) (n c : Nat) : Prop :=
  (n = 0 ∧ c = 0 ∧ ∃ e, g.τ t = some e) ∨
  ∃ ad vs T fr u, A = some ad ∧ ad.spot = none ∧ h[ad.block]? = some (.cells vs T fr) ∧ g.U ad.block = some u ∧ ad.off + c * sz ≤ vs.size ∧ g.τ t = some (some (ad.block, ad.off + n * sz))

inductive VR (g : Gh) (h : Array Obj) : AV → Value → Prop
  | p {x : PV} {v : Value} (hr : PR g.U h x v) : VR g h (.p x) v
  | own {t sz : Nat} {xs : List (List PV)} {A : Option Addr} {n c : Nat} (hr : PR g.U h (.sl sz xs) (.slice A n c)) (ht : TokR g h t sz A n c) : VR g h (.own t sz xs) (.slice A n c)
  | agg {cs : List AV} {vs : Array Value} (hl : cs.length = vs.size) (hr : ∀ (i : Nat) (a : AV) (v : Value), cs[i]? = some a → vs[i]? = some v → VR g h a v) : VR g h (.agg cs) (.agg vs)
  | tup {cs : List AV} {vs : Array Value} (hl : cs.length = vs.size) (hr : ∀ (i : Nat) (a : AV) (v : Value), cs[i]? = some a → vs[i]? = some v → VR g h a v) : VR g h (.tup cs) (.tuple vs)
  | ptr {b off k : Nat} (hs : g.σ b = some k) : VR g h (.ptr b off) (.pointer (some ⟨k, off, none⟩))
  | cptr {cs : List PV} {ad : Addr} (f : Nat → Value) (hs : ad.spot = none) (hp : Place g.U h (some ad) cs.length f) (hr : ∀ (j : Nat) (a : PV), cs[j]? = some a → PR g.U h a (f j)) : VR g h (.cptr cs) (.pointer (some ad))
  | fn {f : Fn} {first cap : List AV} {vf vc : Array Value} (hl1 : first.length = vf.size) (hr1 : ∀ (i : Nat) (a : AV) (v : Value), first[i]? = some a → vf[i]? = some v → VR g h a v)
      (hl2 : cap.length = vc.size) (hr2 : ∀ (i : Nat) (a : AV) (v : Value), cap[i]? = some a → vc[i]? = some v → VR g h a v) : VR g h (.fn f first cap) (.func f vf vc)
  | bsl {b off sz n c k : Nat} (hs : g.σ b = some k) (hn : n ≤ c) (hc : c ≤ maxLen) (hm : n ≤ 281474976710656) : VR g h (.bsl b off sz n) (.slice (some ⟨k, off, none⟩) n c)
  | cmap {es : List (Value × Value)} {k : Nat} {l : Array MapEntry} {t : Nat} (hk : h[k]? = some (Obj.map l t)) (he : l.toList.map (fun e => (e.key, e.val)) = es) : VR g h (.cmap es) (.map (some k))
  | junk {v : Value} : VR g h .junk v

/-! ### What stays -/

structure Pers (U : Nat → Option Nat) (h : Array Obj) (U' : Nat → Option Nat) (h' : Array Obj) : Prop where
  go : ∀ k u vs T fr, U k = some u → h[k]? = some (.cells vs T fr) → ∃ u' vs' fr', U' k = some u' ∧ u ≤ u' ∧ h'[k]? = some (.cells vs' T fr') ∧ vs'.size = vs.size ∧ ∀ j, j < u → vs'[j]? = vs[j]?
  mp : ∀ (k : Nat) l t, h[k]? = some (Obj.map l t) → h'[k]? = some (Obj.map l t)

theorem Pers.refl (U : Nat → Option Nat) (h : Array Obj) : Pers U h U h := ⟨fun _ u vs _ fr hu hh => ⟨u, vs, fr, hu, Nat.le_refl _, hh, rfl, fun _ _ => rfl⟩, fun _ _ _ h => h⟩
theorem Pers.trans {U U' U'' : Nat → Option Nat} {h h' h'' : Array Obj} (a : Pers U h U' h') (b : Pers U' h' U'' h'') : Pers U h U'' h'' := by
  refine ⟨fun k u vs T fr hu hh => ?_, fun k l t h => b.mp k l t (a.mp k l t h)⟩
  obtain ⟨u', vs', fr', hu', hle, hh', hs', hv'⟩ := a.go k u vs T fr hu hh
  obtain ⟨u'', vs'', fr'', hu'', hle', hh'', hs'', hv''⟩ := b.go k u' vs' T fr' hu' hh'
  exact ⟨u'', vs'', fr'', hu'', Nat.le_trans hle hle', hh'', hs''.trans hs', fun j hj => (hv'' j (Nat.lt_of_lt_of_le hj hle)).trans (hv' j hj)⟩

section
variable {U U' : Nat → Option Nat} {h h' : Array Obj}

theorem Place.mono {A : Option Addr} {len : Nat} {f : Nat → Value} (hp : Place U h A len f) (hb : Pers U h U' h') : Place U' h' A len f := by
  intro hl
  obtain ⟨ad, vs, T, fr, u, rfl, hs, hh, hu, hle, hv⟩ := hp hl
  obtain ⟨u', vs', fr', hu', hle', hh', _, hv'⟩ := hb.go _ u vs T fr hu hh
  exact ⟨ad, vs', T, fr', u', rfl, hs, hh', hu', Nat.le_trans hle hle', fun j hj => ⟨(hv' _ (by omega)).trans (hv j hj).1, (hv j hj).2⟩⟩

theorem PR.mono {x : PV} {v : Value} (hr : PR U h x v) (hb : Pers U h U' h') : PR U' h' x v := by
  induction hr with
  | s v => exact .s v
  | sl f hn hc hm hcm hsz hp _ ih => exact .sl f hn hc hm hcm hsz (hp.mono hb) (fun j a hj => ih j a hj)

structure GhLe (g g' : Gh) : Prop where
  σ : ∀ n k, g.σ n = some k → g'.σ n = some k
  τ : ∀ n k, g.τ n = some k → g'.τ n = some k
theorem GhLe.refl (g : Gh) : GhLe g g := ⟨fun _ _ h => h, fun _ _ h => h⟩
theorem GhLe.trans {g g' g'' : Gh} (a : GhLe g g') (b : GhLe g' g'') : GhLe g g'' := ⟨fun n k h => b.σ n k (a.σ n k h), fun n k h => b.τ n k (a.τ n k h)⟩
end

section
variable {g g' : Gh} {h h' : Array Obj}

theorem TokR.mono {t sz : Nat} {A : Option Addr} {n c : Nat} (ht : TokR g h t sz A n c) (hg : GhLe g g') (hb : Pers g.U h g'.U h') : TokR g' h' t sz A n c := by
  rcases ht with ⟨h2, h3, e, h4⟩ | ⟨ad, vs, T, fr, u, rfl, hs, hh, hu, hc, he⟩
  · exact .inl ⟨h2, h3, e, hg.τ _ _ h4⟩
  · obtain ⟨u', vs', fr', hu', _, hh', hs', _⟩ := hb.go _ u vs T fr hu hh
    exact .inr ⟨ad, vs', T, fr', u', rfl, hs, hh', hu', by rw [hs']; exact hc, hg.τ _ _ he⟩

theorem VR.mono {a : AV} {v : Value} (hr : VR g h a v) (hg : GhLe g g') (hb : Pers g.U h g'.U h') : VR g' h' a v := by
  induction hr with
  | p hr => exact .p (hr.mono hb)
  | own hr ht => exact .own (hr.mono hb) (ht.mono hg hb)
  | agg hl _ ih => exact .agg hl (fun i a v h1 h2 => ih i a v h1 h2)
  | tup hl _ ih => exact .tup hl (fun i a v h1 h2 => ih i a v h1 h2)
  | ptr hs => exact .ptr (hg.σ _ _ hs)
  | cptr f hs hp hr => exact .cptr f hs (hp.mono hb) (fun j a hj => (hr j a hj).mono hb)
  | fn hl1 _ hl2 _ ih1 ih2 => exact .fn hl1 (fun i a v h1 h2 => ih1 i a v h1 h2) hl2 (fun i a v h1 h2 => ih2 i a v h1 h2)
  | bsl hs hn hc hm => exact .bsl (hg.σ _ _ hs) hn hc hm
  | cmap hk he => exact .cmap (hb.mp _ _ _ hk) he
  | junk => exact .junk
end

/-! ### Memory: boxes, tokens -/
inductive Res where
  | box (cs : List AV) (fz : Bool)
  | tok
  | dead

abbrev Mem := Nat → Option Res

/-- Block k is name n's own. -/
def Owns (g : Gh) (m : Mem) (n k : Nat) : Prop := (∃ cs, m n = some (.box cs false) ∧ g.σ n = some k) ∨ (m n = some .tok ∧ ∃ e, g.τ n = some (some (k, e)))

/-- Block k is name n's, frozen or not. -/
def Holds (g : Gh) (m : Mem) (n k : Nat) : Prop := (∃ cs fz, m n = some (.box cs fz) ∧ g.σ n = some k) ∨ (m n = some .tok ∧ ∃ e, g.τ n = some (some (k, e)))
theorem Owns.holds {g : Gh} {m : Mem} {n k : Nat} (h : Owns g m n k) : Holds g m n k := h.imp (fun ⟨cs, h⟩ => ⟨cs, false, h⟩) id

/-- The package-level variables that are read: their cells. -/
abbrev Globs := Nat → Option (List PV)

def BoxR (g : Gh) (h : Array Obj) (n : Nat) (cs : List AV) (fz : Bool) : Prop :=
  ∃ k vs T, g.σ n = some k ∧ h[k]? = some (.cells vs T (0, 0)) ∧ cs.length ≤ vs.size ∧ (∀ (i : Nat) (a : AV) (v : Value), cs[i]? = some a → vs[i]? = some v → VR g h a v) ∧ g.U k = (if fz then some cs.length else none)
def TkR (g : Gh) (h : Array Obj) (n : Nat) : Prop := g.τ n = some none ∨ ∃ k e vs T, g.τ n = some (some (k, e)) ∧ h[k]? = some (.cells vs T (0, 0)) ∧ g.U k = some e
def GlobR (U : Nat → Option Nat) (h : Array Obj) (Γ : Globs) : Prop := ∀ G cs, Γ G = some cs → ∃ f, Place U h (some ⟨G, 0, none⟩) cs.length f ∧ ∀ (j : Nat) (a : PV), cs[j]? = some a → PR U h a (f j)

structure Rel (Γ : Globs) (g : Gh) (w : World) (m : Mem) : Prop where
  fresh : ∀ n, m n = none → g.σ n = none ∧ g.τ n = none
  box : ∀ n cs fz, m n = some (.box cs fz) → BoxR g w.heap n cs fz
  tok : ∀ n, m n = some .tok → TkR g w.heap n
  inj : ∀ n n' k, Holds g m n k → Holds g m n' k → n = n'
  ulen : ∀ k u, g.U k = some u → ∃ vs T fr, w.heap[k]? = some (.cells vs T fr) ∧ u ≤ vs.size
  glob : GlobR g.U w.heap Γ

theorem lt_size {h : Array Obj} {k : Nat} {o : Obj} (hh : h[k]? = some o) : k < h.size := (Array.getElem?_eq_some_iff.1 hh).1
theorem Rel.lt {Γ : Globs} {g : Gh} {w : World} {m : Mem} (hR : Rel Γ g w m) {k u : Nat} (hu : g.U k = some u) : k < w.heap.size := by
  obtain ⟨vs, T, fr, hh, _⟩ := hR.ulen k u hu
  exact lt_size hh
theorem Rel.holds_lt {Γ : Globs} {g : Gh} {w : World} {m : Mem} (hR : Rel Γ g w m) {n k : Nat} (ho : Holds g m n k) : k < w.heap.size := by
  rcases ho with ⟨cs, fz, hm, hs⟩ | ⟨hm, e, he⟩
  · obtain ⟨k', vs, T, hs', hh, _⟩ := hR.box n cs fz hm
    rw [hs] at hs'
    injection hs' with hs'
    subst hs'
    exact lt_size hh
  · rcases hR.tok n hm with h | ⟨k', e', vs, T, h, hh, _⟩
    · rw [he] at h; cases h
    · rw [he] at h; cases h; exact lt_size hh

theorem BoxR.mono {g g' : Gh} {h h' : Array Obj} {n : Nat} {cs : List AV} {fz : Bool} (hr : BoxR g h n cs fz) (hg : GhLe g g') (hb : Pers g.U h g'.U h')
    (hk : ∀ k, g.σ n = some k → h'[k]? = h[k]? ∧ g'.U k = g.U k) : BoxR g' h' n cs fz := by
  obtain ⟨k, vs, T, hs, hh, hl, hv, hu⟩ := hr
  obtain ⟨h1, h2⟩ := hk k hs
  exact ⟨k, vs, T, hg.σ _ _ hs, h1.trans hh, hl, fun i a v ha hv' => (hv i a v ha hv').mono hg hb, h2.trans hu⟩
theorem TkR.mono {g g' : Gh} {h h' : Array Obj} {n : Nat} (hr : TkR g h n) (hg : GhLe g g') (hk : ∀ k e, g.τ n = some (some (k, e)) → h'[k]? = h[k]? ∧ g'.U k = g.U k) : TkR g' h' n := by
  rcases hr with hr | ⟨k, e, vs, T, ht, hh, hu⟩
  · exact .inl (hg.τ _ _ hr)
  · obtain ⟨h1, h2⟩ := hk k e ht
    exact .inr ⟨k, e, vs, T, hg.τ _ _ ht, h1.trans hh, h2.trans hu⟩
theorem GlobR.mono {U U' : Nat → Option Nat} {h h' : Array Obj} {Γ : Globs} (hr : GlobR U h Γ) (hb : Pers U h U' h') : GlobR U' h' Γ := fun G cs hG => by
  obtain ⟨f, hp, hv⟩ := hr G cs hG
  exact ⟨f, hp.mono hb, fun j a hj => (hv j a hj).mono hb⟩

/-- Some names S turn; the blocks D turn. -/
theorem Rel.update {Γ : Globs} {g g' : Gh} {w w' : World} {m m' : Mem} (hR : Rel Γ g w m) (hg : GhLe g g') (hb : Pers g.U w.heap g'.U w'.heap) (S D : Nat → Prop)
    (hm : ∀ n, ¬ S n → m' n = m n) (hgσ : ∀ n, ¬ S n → g'.σ n = g.σ n) (hgτ : ∀ n, ¬ S n → g'.τ n = g.τ n)
    (hD : ∀ k, k < w.heap.size → ¬ D k → w'.heap[k]? = w.heap[k]? ∧ g'.U k = g.U k)
    (hSD : ∀ n k, ¬ S n → Holds g m n k → ¬ D k)
    (hfresh : ∀ n, S n → m' n = none → g'.σ n = none ∧ g'.τ n = none)
    (hbox : ∀ n cs fz, S n → m' n = some (.box cs fz) → BoxR g' w'.heap n cs fz)
    (htok : ∀ n, S n → m' n = some .tok → TkR g' w'.heap n)
    (hinj : ∀ n n' k, S n → Holds g' m' n k → Holds g' m' n' k → n = n')
    (hul : ∀ k u, g'.U k = some u → ∃ vs T fr, w'.heap[k]? = some (.cells vs T fr) ∧ u ≤ vs.size) : Rel Γ g' w' m' where
  fresh n hn := by
    by_cases hS : S n
    · exact hfresh n hS hn
    · rw [hgσ n hS, hgτ n hS]
      exact hR.fresh n (by rw [← hm n hS]; exact hn)
  box n cs fz hn := by
    by_cases hS : S n
    · exact hbox n cs fz hS hn
    · have hn' : m n = some (.box cs fz) := by rw [← hm n hS]; exact hn
      refine (hR.box n cs fz hn').mono hg hb (fun k hk => ?_)
      have hh : Holds g m n k := .inl ⟨cs, fz, hn', hk⟩
      exact hD k (hR.holds_lt hh) (hSD n k hS hh)
  tok n hn := by
    by_cases hS : S n
    · exact htok n hS hn
    · have hn' : m n = some .tok := by rw [← hm n hS]; exact hn
      refine (hR.tok n hn').mono hg (fun k e hk => ?_)
      have hh : Holds g m n k := .inr ⟨hn', e, hk⟩
      exact hD k (hR.holds_lt hh) (hSD n k hS hh)
  inj n n' k h1 h2 := by
    by_cases hS : S n
    · exact hinj n n' k hS h1 h2
    · by_cases hS' : S n'
      · exact (hinj n' n k hS' h2 h1).symm
      · refine hR.inj n n' k ?_ ?_
        · rcases h1 with ⟨cs, fz, h, h'⟩ | ⟨h, e, h'⟩
          · exact .inl ⟨cs, fz, by rw [← hm n hS]; exact h, by rw [← hgσ n hS]; exact h'⟩
          · exact .inr ⟨by rw [← hm n hS]; exact h, e, by rw [← hgτ n hS]; exact h'⟩
        · rcases h2 with ⟨cs, fz, h, h'⟩ | ⟨h, e, h'⟩
          · exact .inl ⟨cs, fz, by rw [← hm n' hS']; exact h, by rw [← hgσ n' hS']; exact h'⟩
          · exact .inr ⟨by rw [← hm n' hS']; exact h, e, by rw [← hgτ n' hS']; exact h'⟩
  ulen := hul
  glob := hR.glob.mono hb

theorem frozen_same {w w' : World} (h : w'.heap = w.heap) (a : Addr) : w'.frozen? a = w.frozen? a := by
  unfold World.frozen?
  rw [h]
theorem frozen_push {w w' : World} {vs : Array Value} {T : TypeId} (h : w'.heap = w.heap.push (.cells vs T (0, 0))) (a : Addr) : w'.frozen? a = w.frozen? a := by
  by_cases e : a.block = w.heap.size
  · have h1 : w'.heap[a.block]? = some (.cells vs T (0, 0)) := by rw [h, e]; simp
    have h2 : w.heap[a.block]? = none := by rw [e]; simp
    simp [World.frozen?, h1, h2]
  · have h1 : w'.heap[a.block]? = w.heap[a.block]? := by rw [h, Array.getElem?_push, if_neg e]
    simp only [World.frozen?, h1]
theorem frozen_set {w w' : World} {k : Nat} {vs vs' : Array Value} {T : TypeId} {fr : Nat × Nat} (hk : w.heap[k]? = some (.cells vs T fr)) (h : w'.heap = w.heap.setIfInBounds k (.cells vs' T fr)) (a : Addr) : w'.frozen? a = w.frozen? a := by
  by_cases e : a.block = k
  · have h1 : w'.heap[a.block]? = some (.cells vs' T fr) := by rw [h, e]; simp [lt_size hk]
    have h2 : w.heap[a.block]? = some (.cells vs T fr) := by rw [e]; exact hk
    simp only [World.frozen?, h1, h2]
  · have h1 : w'.heap[a.block]? = w.heap[a.block]? := by rw [h, Array.getElem?_setIfInBounds]; simp [Ne.symm e]
    simp only [World.frozen?, h1]

/-- From one world to a later one. -/
structure St (g : Gh) (w : World) (m : Mem) (g' : Gh) (w' : World) (m' : Mem) : Prop where
  os : w'.os = w.os
  tape : w'.tape = w.tape
  output : w'.output = w.output
  fz : ∀ a, a.block < w.heap.size → (∀ n, ¬ Owns g m n a.block) → w'.frozen? a = w.frozen? a
  size : w.heap.size ≤ w'.heap.size
  frame : ∀ k, k < w.heap.size → (∀ n, ¬ Owns g m n k) → w'.heap[k]? = w.heap[k]? ∧ g'.U k = g.U k
  pers : Pers g.U w.heap g'.U w'.heap
  ownm : ∀ n k, k < w.heap.size → Owns g' m' n k → ∃ n', Owns g m n' k
  holdm : ∀ n k, k < w.heap.size → Holds g' m' n k → ∃ n', Holds g m n' k
theorem St.refl (g : Gh) (w : World) (m : Mem) : St g w m g w m := ⟨rfl, rfl, rfl, fun _ _ _ => rfl, Nat.le_refl _, fun _ _ _ => ⟨rfl, rfl⟩, Pers.refl _ _, fun n _ _ h => ⟨n, h⟩, fun n _ _ h => ⟨n, h⟩⟩
theorem St.trans {g g' g'' : Gh} {w w' w'' : World} {m m' m'' : Mem} (a : St g w m g' w' m') (b : St g' w' m' g'' w'' m'') : St g w m g'' w'' m'' where
  os := b.os.trans a.os
  tape := b.tape.trans a.tape
  output := b.output.trans a.output
  fz x hx hn := (b.fz x (Nat.lt_of_lt_of_le hx a.size) (fun n ho => by
      obtain ⟨n', ho'⟩ := a.ownm n _ hx ho
      exact hn n' ho')).trans (a.fz x hx hn)
  size := Nat.le_trans a.size b.size
  frame k hk hn := by
    obtain ⟨h1, h2⟩ := a.frame k hk hn
    obtain ⟨h3, h4⟩ := b.frame k (Nat.lt_of_lt_of_le hk a.size) (fun n ho => by
      obtain ⟨n', ho'⟩ := a.ownm n k hk ho
      exact hn n' ho')
    exact ⟨h3.trans h1, h4.trans h2⟩
  pers := a.pers.trans b.pers
  ownm n k hk ho := by
    obtain ⟨n', ho'⟩ := b.ownm n k (Nat.lt_of_lt_of_le hk a.size) ho
    exact a.ownm n' k hk ho'
  holdm n k hk ho := by
    obtain ⟨n', ho'⟩ := b.holdm n k (Nat.lt_of_lt_of_le hk a.size) ho
    exact a.holdm n' k hk ho'
end Go.Shade
