/- Own texts joined: Sa, Sb, Sea, Sc, Sd, Se, Sf, Sg, Sh, Si, Sj, Sk, Sl. Own work. -/
import Derived.Calls
import Derived.Orders
import Derived.Tactics
import Derived.Below
import Derived.Laws.Sem
import Derived.Laws.StructEq
import Derived.ChangeKeysEq
import Derived.Laws.Entries
import Derived.Laws.Cells
import Derived.Laws.Slices
import Derived.Laws.BytesArg
import Derived.Laws.Tables
import Derived.Deep.MidRow
import Derived.Laws.BytesString
import Derived.Laws.IdiomStrings
import Derived.Laws.CopyRow
import Derived.Laws.Append
import Derived.Laws.AppendOwn
import Derived.Deep.AppendSrc
import Derived.Deep.Upon
/- The values of a small abstract machine, how they read in the model's memory, and what stays when memory grows. Own work. -/
namespace Go.Shade
open Go

/-- A value that is held by value: exactly this one, or a slice, element by element, cell by cell. -/
inductive PV where
  | s (v : Value)
  | sl (sz : Nat) (xs : List (List PV))

/-- A value as a function has it. -/
inductive AV where
  | p (x : PV)
  | own (t : Nat) (sz : Nat) (xs : List (List PV))
  | agg (cs : List AV)
  | tup (xs : List AV)
  | ptr (b off : Nat)
  | cptr (cs : List PV)
  | fn (f : Fn) (first cap : List AV)
  | bsl (b off sz n : Nat)
  | cmap (es : List (Value × Value))
  | junk

abbrev AV.int (k : IntKind) (n : Int) : AV := .p (.s (.int k n))
abbrev AV.bool (b : Bool) : AV := .p (.s (.bool b))
abbrev AV.sl (sz : Nat) (xs : List (List PV)) : AV := .p (.sl sz xs)
abbrev PV.nil : PV := .s (.slice none 0 0)

/-- What is told of memory beside it: names of boxes and of tokens; how much of a block stays for ever. -/
structure Gh where
  σ : Nat → Option Nat
  τ : Nat → Option (Option (Nat × Nat))
  U : Nat → Option Nat

def Place (U : Nat → Option Nat) (h : Array Obj) (A : Option Addr) (len : Nat) (f : Nat → Value) : Prop :=
  0 < len → ∃ ad vs T fr u, A = some ad ∧ ad.spot = none ∧ h[ad.block]? = some (.cells vs T fr) ∧ U ad.block = some u ∧ ad.off + len ≤ u ∧ ∀ j, j < len → vs[ad.off + j]? = some (f j) ∧ (f j).oneCell' = true

inductive PR (U : Nat → Option Nat) (h : Array Obj) : PV → Value → Prop
  | s (v : Value) : PR U h (.s v) v
  | sl {sz : Nat} {xs : List (List PV)} {A : Option Addr} {n c : Nat} (f : Nat → Value) (hn : xs.length = n) (hc : n ≤ c) (hm : n ≤ 281474976710656) (hcm : c ≤ maxLen)
      (hsz : ∀ x ∈ xs, x.length = sz) (hp : Place U h A xs.flatten.length f) (hr : ∀ j a, xs.flatten[j]? = some a → PR U h a (f j)) : PR U h (.sl sz xs) (.slice A n c)

def TokR (g : Gh) (h : Array Obj) (t sz : Nat) (A : Option Addr) (n c : Nat) : Prop :=
  (n = 0 ∧ c = 0 ∧ ∃ e, g.τ t = some e) ∨
  ∃ ad vs T fr u, A = some ad ∧ ad.spot = none ∧ h[ad.block]? = some (.cells vs T fr) ∧ g.U ad.block = some u ∧ ad.off + c * sz ≤ vs.size ∧ g.τ t = some (some (ad.block, ad.off + n * sz))

inductive VR (g : Gh) (h : Array Obj) : AV → Value → Prop
  | p {x : PV} {v : Value} (hr : PR g.U h x v) : VR g h (.p x) v
  | own {t sz : Nat} {xs : List (List PV)} {A : Option Addr} {n c : Nat} (hr : PR g.U h (.sl sz xs) (.slice A n c)) (ht : TokR g h t sz A n c) : VR g h (.own t sz xs) (.slice A n c)
  | agg {cs : List AV} {vs : Array Value} (hl : cs.length = vs.size) (hr : ∀ (i : Nat) (a : AV) (v : Value), cs[i]? = some a → vs[i]? = some v → VR g h a v) : VR g h (.agg cs) (.agg vs)
  | tup {cs : List AV} {vs : Array Value} (hl : cs.length = vs.size) (hr : ∀ (i : Nat) (a : AV) (v : Value), cs[i]? = some a → vs[i]? = some v → VR g h a v) : VR g h (.tup cs) (.tuple vs)
  | ptr {b off k : Nat} (hs : g.σ b = some k) : VR g h (.ptr b off) (.pointer (some ⟨k, off, none⟩))
  | cptr {cs : List PV} {ad : Addr} (f : Nat → Value) (hs : ad.spot = none) (hp : Place g.U h (some ad) cs.length f) (hr : ∀ (j : Nat) (a : PV), cs[j]? = some a → PR g.U h a (f j)) : VR g h (.cptr cs) (.pointer (some ad))
  | fn {f : Fn} {first cap : List AV} {vf vc : Array Value} (hl1 : first.length = vf.size) (hr1 : ∀ (i : Nat) (a : AV) (v : Value), first[i]? = some a → vf[i]? = some v → VR g h a v)
      (hl2 : cap.length = vc.size) (hr2 : ∀ (i : Nat) (a : AV) (v : Value), cap[i]? = some a → vc[i]? = some v → VR g h a v) : VR g h (.fn f first cap) (.func f vf vc)
  | bsl {b off sz n c k : Nat} (hs : g.σ b = some k) (hn : n ≤ c) (hc : c ≤ maxLen) (hm : n ≤ 281474976710656) : VR g h (.bsl b off sz n) (.slice (some ⟨k, off, none⟩) n c)
  | cmap {es : List (Value × Value)} {k : Nat} {l : Array MapEntry} {t : Nat} (hk : h[k]? = some (Obj.map l t)) (he : l.toList.map (fun e => (e.key, e.val)) = es) : VR g h (.cmap es) (.map (some k))
  | junk {v : Value} : VR g h .junk v

/-! ### What stays -/

structure Pers (U : Nat → Option Nat) (h : Array Obj) (U' : Nat → Option Nat) (h' : Array Obj) : Prop where
  go : ∀ k u vs T fr, U k = some u → h[k]? = some (.cells vs T fr) → ∃ u' vs' fr', U' k = some u' ∧ u ≤ u' ∧ h'[k]? = some (.cells vs' T fr') ∧ vs'.size = vs.size ∧ ∀ j, j < u → vs'[j]? = vs[j]?
  mp : ∀ (k : Nat) l t, h[k]? = some (Obj.map l t) → h'[k]? = some (Obj.map l t)

theorem Pers.refl (U : Nat → Option Nat) (h : Array Obj) : Pers U h U h := ⟨fun _ u vs _ fr hu hh => ⟨u, vs, fr, hu, Nat.le_refl _, hh, rfl, fun _ _ => rfl⟩, fun _ _ _ h => h⟩
theorem Pers.trans {U U' U'' : Nat → Option Nat} {h h' h'' : Array Obj} (a : Pers U h U' h') (b : Pers U' h' U'' h'') : Pers U h U'' h'' := by
  refine ⟨fun k u vs T fr hu hh => ?_, fun k l t h => b.mp k l t (a.mp k l t h)⟩
  obtain ⟨u', vs', fr', hu', hle, hh', hs', hv'⟩ := a.go k u vs T fr hu hh
  obtain ⟨u'', vs'', fr'', hu'', hle', hh'', hs'', hv''⟩ := b.go k u' vs' T fr' hu' hh'
  exact ⟨u'', vs'', fr'', hu'', Nat.le_trans hle hle', hh'', hs''.trans hs', fun j hj => (hv'' j (Nat.lt_of_lt_of_le hj hle)).trans (hv' j hj)⟩

section
variable {U U' : Nat → Option Nat} {h h' : Array Obj}

theorem Place.mono {A : Option Addr} {len : Nat} {f : Nat → Value} (hp : Place U h A len f) (hb : Pers U h U' h') : Place U' h' A len f := by
  intro hl
  obtain ⟨ad, vs, T, fr, u, rfl, hs, hh, hu, hle, hv⟩ := hp hl
  obtain ⟨u', vs', fr', hu', hle', hh', _, hv'⟩ := hb.go _ u vs T fr hu hh
  exact ⟨ad, vs', T, fr', u', rfl, hs, hh', hu', Nat.le_trans hle hle', fun j hj => ⟨(hv' _ (by omega)).trans (hv j hj).1, (hv j hj).2⟩⟩

theorem PR.mono {x : PV} {v : Value} (hr : PR U h x v) (hb : Pers U h U' h') : PR U' h' x v := by
  induction hr with
  | s v => exact .s v
  | sl f hn hc hm hcm hsz hp _ ih => exact .sl f hn hc hm hcm hsz (hp.mono hb) (fun j a hj => ih j a hj)

structure GhLe (g g' : Gh) : Prop where
  σ : ∀ n k, g.σ n = some k → g'.σ n = some k
  τ : ∀ n k, g.τ n = some k → g'.τ n = some k
theorem GhLe.refl (g : Gh) : GhLe g g := ⟨fun _ _ h => h, fun _ _ h => h⟩
theorem GhLe.trans {g g' g'' : Gh} (a : GhLe g g') (b : GhLe g' g'') : GhLe g g'' := ⟨fun n k h => b.σ n k (a.σ n k h), fun n k h => b.τ n k (a.τ n k h)⟩
end

section
variable {g g' : Gh} {h h' : Array Obj}

theorem TokR.mono {t sz : Nat} {A : Option Addr} {n c : Nat} (ht : TokR g h t sz A n c) (hg : GhLe g g') (hb : Pers g.U h g'.U h') : TokR g' h' t sz A n c := by
  rcases ht with ⟨h2, h3, e, h4⟩ | ⟨ad, vs, T, fr, u, rfl, hs, hh, hu, hc, he⟩
  · exact .inl ⟨h2, h3, e, hg.τ _ _ h4⟩
  · obtain ⟨u', vs', fr', hu', _, hh', hs', _⟩ := hb.go _ u vs T fr hu hh
    exact .inr ⟨ad, vs', T, fr', u', rfl, hs, hh', hu', by rw [hs']; exact hc, hg.τ _ _ he⟩

theorem VR.mono {a : AV} {v : Value} (hr : VR g h a v) (hg : GhLe g g') (hb : Pers g.U h g'.U h') : VR g' h' a v := by
  induction hr with
  | p hr => exact .p (hr.mono hb)
  | own hr ht => exact .own (hr.mono hb) (ht.mono hg hb)
  | agg hl _ ih => exact .agg hl (fun i a v h1 h2 => ih i a v h1 h2)
  | tup hl _ ih => exact .tup hl (fun i a v h1 h2 => ih i a v h1 h2)
  | ptr hs => exact .ptr (hg.σ _ _ hs)
  | cptr f hs hp hr => exact .cptr f hs (hp.mono hb) (fun j a hj => (hr j a hj).mono hb)
  | fn hl1 _ hl2 _ ih1 ih2 => exact .fn hl1 (fun i a v h1 h2 => ih1 i a v h1 h2) hl2 (fun i a v h1 h2 => ih2 i a v h1 h2)
  | bsl hs hn hc hm => exact .bsl (hg.σ _ _ hs) hn hc hm
  | cmap hk he => exact .cmap (hb.mp _ _ _ hk) he
  | junk => exact .junk
end

/-! ### Memory: boxes, tokens -/
inductive Res where
  | box (cs : List AV) (fz : Bool)
  | tok
  | dead

abbrev Mem := Nat → Option Res

/-- Block k is name n's own. -/
def Owns (g : Gh) (m : Mem) (n k : Nat) : Prop := (∃ cs, m n = some (.box cs false) ∧ g.σ n = some k) ∨ (m n = some .tok ∧ ∃ e, g.τ n = some (some (k, e)))

/-- Block k is name n's, frozen or not. -/
def Holds (g : Gh) (m : Mem) (n k : Nat) : Prop := (∃ cs fz, m n = some (.box cs fz) ∧ g.σ n = some k) ∨ (m n = some .tok ∧ ∃ e, g.τ n = some (some (k, e)))
theorem Owns.holds {g : Gh} {m : Mem} {n k : Nat} (h : Owns g m n k) : Holds g m n k := h.imp (fun ⟨cs, h⟩ => ⟨cs, false, h⟩) id

/-- The package-level variables that are read: their cells. -/
abbrev Globs := Nat → Option (List PV)

def BoxR (g : Gh) (h : Array Obj) (n : Nat) (cs : List AV) (fz : Bool) : Prop :=
  ∃ k vs T, g.σ n = some k ∧ h[k]? = some (.cells vs T (0, 0)) ∧ cs.length ≤ vs.size ∧ (∀ (i : Nat) (a : AV) (v : Value), cs[i]? = some a → vs[i]? = some v → VR g h a v) ∧ g.U k = (if fz then some cs.length else none)
def TkR (g : Gh) (h : Array Obj) (n : Nat) : Prop := g.τ n = some none ∨ ∃ k e vs T, g.τ n = some (some (k, e)) ∧ h[k]? = some (.cells vs T (0, 0)) ∧ g.U k = some e
def GlobR (U : Nat → Option Nat) (h : Array Obj) (Γ : Globs) : Prop := ∀ G cs, Γ G = some cs → ∃ f, Place U h (some ⟨G, 0, none⟩) cs.length f ∧ ∀ (j : Nat) (a : PV), cs[j]? = some a → PR U h a (f j)

structure Rel (Γ : Globs) (g : Gh) (w : World) (m : Mem) : Prop where
  fresh : ∀ n, m n = none → g.σ n = none ∧ g.τ n = none
  box : ∀ n cs fz, m n = some (.box cs fz) → BoxR g w.heap n cs fz
  tok : ∀ n, m n = some .tok → TkR g w.heap n
  inj : ∀ n n' k, Holds g m n k → Holds g m n' k → n = n'
  ulen : ∀ k u, g.U k = some u → ∃ vs T fr, w.heap[k]? = some (.cells vs T fr) ∧ u ≤ vs.size
  glob : GlobR g.U w.heap Γ

theorem lt_size {h : Array Obj} {k : Nat} {o : Obj} (hh : h[k]? = some o) : k < h.size := (Array.getElem?_eq_some_iff.1 hh).1
theorem Rel.lt {Γ : Globs} {g : Gh} {w : World} {m : Mem} (hR : Rel Γ g w m) {k u : Nat} (hu : g.U k = some u) : k < w.heap.size := by
  obtain ⟨vs, T, fr, hh, _⟩ := hR.ulen k u hu
  exact lt_size hh
theorem Rel.holds_lt {Γ : Globs} {g : Gh} {w : World} {m : Mem} (hR : Rel Γ g w m) {n k : Nat} (ho : Holds g m n k) : k < w.heap.size := by
  rcases ho with ⟨cs, fz, hm, hs⟩ | ⟨hm, e, he⟩
  · obtain ⟨k', vs, T, hs', hh, _⟩ := hR.box n cs fz hm
    rw [hs] at hs'
    injection hs' with hs'
    subst hs'
    exact lt_size hh
  · rcases hR.tok n hm with h | ⟨k', e', vs, T, h, hh, _⟩
    · rw [he] at h; cases h
    · rw [he] at h; cases h; exact lt_size hh

theorem BoxR.mono {g g' : Gh} {h h' : Array Obj} {n : Nat} {cs : List AV} {fz : Bool} (hr : BoxR g h n cs fz) (hg : GhLe g g') (hb : Pers g.U h g'.U h')
    (hk : ∀ k, g.σ n = some k → h'[k]? = h[k]? ∧ g'.U k = g.U k) : BoxR g' h' n cs fz := by
  obtain ⟨k, vs, T, hs, hh, hl, hv, hu⟩ := hr
  obtain ⟨h1, h2⟩ := hk k hs
  exact ⟨k, vs, T, hg.σ _ _ hs, h1.trans hh, hl, fun i a v ha hv' => (hv i a v ha hv').mono hg hb, h2.trans hu⟩
theorem TkR.mono {g g' : Gh} {h h' : Array Obj} {n : Nat} (hr : TkR g h n) (hg : GhLe g g') (hk : ∀ k e, g.τ n = some (some (k, e)) → h'[k]? = h[k]? ∧ g'.U k = g.U k) : TkR g' h' n := by
  rcases hr with hr | ⟨k, e, vs, T, ht, hh, hu⟩
  · exact .inl (hg.τ _ _ hr)
  · obtain ⟨h1, h2⟩ := hk k e ht
    exact .inr ⟨k, e, vs, T, hg.τ _ _ ht, h1.trans hh, h2.trans hu⟩
theorem GlobR.mono {U U' : Nat → Option Nat} {h h' : Array Obj} {Γ : Globs} (hr : GlobR U h Γ) (hb : Pers U h U' h') : GlobR U' h' Γ := fun G cs hG => by
  obtain ⟨f, hp, hv⟩ := hr G cs hG
  exact ⟨f, hp.mono hb, fun j a hj => (hv j a hj).mono hb⟩

/-- Some names S turn; the blocks D turn. -/
theorem Rel.update {Γ : Globs} {g g' : Gh} {w w' : World} {m m' : Mem} (hR : Rel Γ g w m) (hg : GhLe g g') (hb : Pers g.U w.heap g'.U w'.heap) (S D : Nat → Prop)
    (hm : ∀ n, ¬ S n → m' n = m n) (hgσ : ∀ n, ¬ S n → g'.σ n = g.σ n) (hgτ : ∀ n, ¬ S n → g'.τ n = g.τ n)
    (hD : ∀ k, k < w.heap.size → ¬ D k → w'.heap[k]? = w.heap[k]? ∧ g'.U k = g.U k)
    (hSD : ∀ n k, ¬ S n → Holds g m n k → ¬ D k)
    (hfresh : ∀ n, S n → m' n = none → g'.σ n = none ∧ g'.τ n = none)
    (hbox : ∀ n cs fz, S n → m' n = some (.box cs fz) → BoxR g' w'.heap n cs fz)
    (htok : ∀ n, S n → m' n = some .tok → TkR g' w'.heap n)
    (hinj : ∀ n n' k, S n → Holds g' m' n k → Holds g' m' n' k → n = n')
    (hul : ∀ k u, g'.U k = some u → ∃ vs T fr, w'.heap[k]? = some (.cells vs T fr) ∧ u ≤ vs.size) : Rel Γ g' w' m' where
  fresh n hn := by
    by_cases hS : S n
    · exact hfresh n hS hn
    · rw [hgσ n hS, hgτ n hS]
      exact hR.fresh n (by rw [← hm n hS]; exact hn)
  box n cs fz hn := by
    by_cases hS : S n
    · exact hbox n cs fz hS hn
    · have hn' : m n = some (.box cs fz) := by rw [← hm n hS]; exact hn
      refine (hR.box n cs fz hn').mono hg hb (fun k hk => ?_)
      have hh : Holds g m n k := .inl ⟨cs, fz, hn', hk⟩
      exact hD k (hR.holds_lt hh) (hSD n k hS hh)
  tok n hn := by
    by_cases hS : S n
    · exact htok n hS hn
    · have hn' : m n = some .tok := by rw [← hm n hS]; exact hn
      refine (hR.tok n hn').mono hg (fun k e hk => ?_)
      have hh : Holds g m n k := .inr ⟨hn', e, hk⟩
      exact hD k (hR.holds_lt hh) (hSD n k hS hh)
  inj n n' k h1 h2 := by
    by_cases hS : S n
    · exact hinj n n' k hS h1 h2
    · by_cases hS' : S n'
      · exact (hinj n' n k hS' h2 h1).symm
      · refine hR.inj n n' k ?_ ?_
        · rcases h1 with ⟨cs, fz, h, h'⟩ | ⟨h, e, h'⟩
          · exact .inl ⟨cs, fz, by rw [← hm n hS]; exact h, by rw [← hgσ n hS]; exact h'⟩
          · exact .inr ⟨by rw [← hm n hS]; exact h, e, by rw [← hgτ n hS]; exact h'⟩
        · rcases h2 with ⟨cs, fz, h, h'⟩ | ⟨h, e, h'⟩
          · exact .inl ⟨cs, fz, by rw [← hm n' hS']; exact h, by rw [← hgσ n' hS']; exact h'⟩
          · exact .inr ⟨by rw [← hm n' hS']; exact h, e, by rw [← hgτ n' hS']; exact h'⟩
  ulen := hul
  glob := hR.glob.mono hb

theorem frozen_same {w w' : World} (h : w'.heap = w.heap) (a : Addr) : w'.frozen? a = w.frozen? a := by
  unfold World.frozen?
  rw [h]
theorem frozen_push {w w' : World} {vs : Array Value} {T : TypeId} (h : w'.heap = w.heap.push (.cells vs T (0, 0))) (a : Addr) : w'.frozen? a = w.frozen? a := by
  by_cases e : a.block = w.heap.size
  · have h1 : w'.heap[a.block]? = some (.cells vs T (0, 0)) := by rw [h, e]; simp
    have h2 : w.heap[a.block]? = none := by rw [e]; simp
    simp [World.frozen?, h1, h2]
  · have h1 : w'.heap[a.block]? = w.heap[a.block]? := by rw [h, Array.getElem?_push, if_neg e]
    simp only [World.frozen?, h1]
theorem frozen_set {w w' : World} {k : Nat} {vs vs' : Array Value} {T : TypeId} {fr : Nat × Nat} (hk : w.heap[k]? = some (.cells vs T fr)) (h : w'.heap = w.heap.setIfInBounds k (.cells vs' T fr)) (a : Addr) : w'.frozen? a = w.frozen? a := by
  by_cases e : a.block = k
  · have h1 : w'.heap[a.block]? = some (.cells vs' T fr) := by rw [h, e]; simp [lt_size hk]
    have h2 : w.heap[a.block]? = some (.cells vs T fr) := by rw [e]; exact hk
    simp only [World.frozen?, h1, h2]
  · have h1 : w'.heap[a.block]? = w.heap[a.block]? := by rw [h, Array.getElem?_setIfInBounds]; simp [Ne.symm e]
    simp only [World.frozen?, h1]

/-- From one world to a later one. -/
structure St (g : Gh) (w : World) (m : Mem) (g' : Gh) (w' : World) (m' : Mem) : Prop where
  os : w'.os = w.os
  tape : w'.tape = w.tape
  output : w'.output = w.output
  fz : ∀ a, a.block < w.heap.size → (∀ n, ¬ Owns g m n a.block) → w'.frozen? a = w.frozen? a
  size : w.heap.size ≤ w'.heap.size
  frame : ∀ k, k < w.heap.size → (∀ n, ¬ Owns g m n k) → w'.heap[k]? = w.heap[k]? ∧ g'.U k = g.U k
  pers : Pers g.U w.heap g'.U w'.heap
  ownm : ∀ n k, k < w.heap.size → Owns g' m' n k → ∃ n', Owns g m n' k
  holdm : ∀ n k, k < w.heap.size → Holds g' m' n k → ∃ n', Holds g m n' k
theorem St.refl (g : Gh) (w : World) (m : Mem) : St g w m g w m := ⟨rfl, rfl, rfl, fun _ _ _ => rfl, Nat.le_refl _, fun _ _ _ => ⟨rfl, rfl⟩, Pers.refl _ _, fun n _ _ h => ⟨n, h⟩, fun n _ _ h => ⟨n, h⟩⟩
theorem St.trans {g g' g'' : Gh} {w w' w'' : World} {m m' m'' : Mem} (a : St g w m g' w' m') (b : St g' w' m' g'' w'' m'') : St g w m g'' w'' m'' where
  os := b.os.trans a.os
  tape := b.tape.trans a.tape
  output := b.output.trans a.output
  fz x hx hn := (b.fz x (Nat.lt_of_lt_of_le hx a.size) (fun n ho => by
      obtain ⟨n', ho'⟩ := a.ownm n _ hx ho
      exact hn n' ho')).trans (a.fz x hx hn)
  size := Nat.le_trans a.size b.size
  frame k hk hn := by
    obtain ⟨h1, h2⟩ := a.frame k hk hn
    obtain ⟨h3, h4⟩ := b.frame k (Nat.lt_of_lt_of_le hk a.size) (fun n ho => by
      obtain ⟨n', ho'⟩ := a.ownm n k hk ho
      exact hn n' ho')
    exact ⟨h3.trans h1, h4.trans h2⟩
  pers := a.pers.trans b.pers
  ownm n k hk ho := by
    obtain ⟨n', ho'⟩ := b.ownm n k (Nat.lt_of_lt_of_le hk a.size) ho
    exact a.ownm n' k hk ho'
  holdm n k hk ho := by
    obtain ⟨n', ho'⟩ := b.holdm n k (Nat.lt_of_lt_of_le hk a.size) ho
    exact a.holdm n' k hk ho'
end Go.Shade

/- Steps of memory: a new box, a new owned slice, a store, an append in place, a name let go. Own work. -/
namespace Go.Shade
open Go

def upd {α : Type} (f : Nat → α) (n : Nat) (a : α) : Nat → α := fun i => if i = n then a else f i
@[simp] theorem upd_same {α : Type} (f : Nat → α) (n : Nat) (a : α) : upd f n a n = a := by simp [upd]
theorem upd_ne {α : Type} (f : Nat → α) {n i : Nat} (a : α) (h : i ≠ n) : upd f n a i = f i := by simp [upd, h]

structure SameW (w w' : World) : Prop where
  os : w'.os = w.os
  tape : w'.tape = w.tape
  output : w'.output = w.output

/-- What comes of a step of memory. -/
structure Out (Γ : Globs) (g : Gh) (w : World) (m : Mem) (g' : Gh) (w' : World) (m' : Mem) : Prop where
  rel : Rel Γ g' w' m'
  st : St g w m g' w' m'
  le : GhLe g g'
  names : ∀ n, m n ≠ none → g'.σ n = g.σ n ∧ g'.τ n = g.τ n
  dom : ∀ n, m n ≠ none → m' n ≠ none

theorem upd_dom {m : Mem} {n i : Nat} {r : Res} (h : m i ≠ none) : upd m n (some r) i ≠ none := by
  unfold upd
  split
  · simp
  · exact h
theorem Out.refl {Γ : Globs} {g : Gh} {w : World} {m : Mem} (hR : Rel Γ g w m) : Out Γ g w m g w m := ⟨hR, St.refl _ _ _, GhLe.refl _, fun _ _ => ⟨rfl, rfl⟩, fun _ h => h⟩
theorem Out.trans {Γ : Globs} {g g' g'' : Gh} {w w' w'' : World} {m m' m'' : Mem} (a : Out Γ g w m g' w' m') (b : Out Γ g' w' m' g'' w'' m'') : Out Γ g w m g'' w'' m'' :=
  ⟨b.rel, a.st.trans b.st, a.le.trans b.le, fun n h => ⟨((b.names n (a.dom n h)).1).trans (a.names n h).1, ((b.names n (a.dom n h)).2).trans (a.names n h).2⟩, fun n h => b.dom n (a.dom n h)⟩
theorem Out.vr {Γ : Globs} {g g' : Gh} {w w' : World} {m m' : Mem} (o : Out Γ g w m g' w' m') {a : AV} {v : Value} (h : VR g w.heap a v) : VR g' w'.heap a v := h.mono o.le o.st.pers

section
variable {Γ : Globs} {g : Gh} {w w' : World} {m : Mem}

theorem push_old {h : Array Obj} {o : Obj} {k : Nat} (hk : k < h.size) : (h.push o)[k]? = h[k]? := by
  rw [Array.getElem?_push]; simp [Nat.ne_of_lt hk]
theorem push_new {h : Array Obj} {o : Obj} : (h.push o)[h.size]? = some o := by simp

theorem Rel.none_new (hR : Rel Γ g w m) : g.U w.heap.size = none := by
  cases hu : g.U w.heap.size with
  | none => rfl
  | some u => exact absurd (hR.lt hu) (Nat.lt_irrefl _)

/-- The world draws, nothing else. -/
theorem Rel.same (hR : Rel Γ g w m) (hh : w'.heap = w.heap) (hs : SameW w w') : Out Γ g w m g w' m where
  rel := ⟨hR.fresh, by rw [hh]; exact hR.box, by rw [hh]; exact hR.tok, hR.inj, by rw [hh]; exact hR.ulen, by rw [hh]; exact hR.glob⟩
  st := ⟨hs.os, hs.tape, hs.output, fun a _ _ => frozen_same hh a, by rw [hh]; exact Nat.le_refl _, fun _ _ _ => ⟨by rw [hh], rfl⟩, by rw [hh]; exact Pers.refl _ _, fun n _ _ h => ⟨n, h⟩, fun n _ _ h => ⟨n, h⟩⟩
  le := GhLe.refl _
  names _ _ := ⟨rfl, rfl⟩
  dom _ h := h

theorem pers_push {U U' : Nat → Option Nat} {h : Array Obj} {o : Obj} (hU : ∀ k u, U k = some u → U' k = some u) (hl : ∀ k u, U k = some u → k < h.size) : Pers U h U' (h.push o) := by
  refine ⟨fun k u vs T fr hu hh => ?_, fun k l t hk => by rw [push_old (lt_size hk)]; exact hk⟩
  exact ⟨u, vs, fr, hU _ _ hu, Nat.le_refl _, by rw [push_old (hl _ _ hu)]; exact hh, rfl, fun _ _ => rfl⟩
theorem mp_set {h h' : Array Obj} {k : Nat} {vs vs' : Array Value} {T : TypeId} {fr : Nat × Nat} (hk : h[k]? = some (.cells vs T fr)) (hh : h' = h.setIfInBounds k (.cells vs' T fr)) : ∀ (i : Nat) l t, h[i]? = some (Obj.map l t) → h'[i]? = some (Obj.map l t) := by
  intro i l t hi
  have hne : i ≠ k := fun e => by subst e; rw [hk] at hi; cases hi
  rw [hh, Array.getElem?_setIfInBounds]
  simp [Ne.symm hne, hi]

/-- A new box. -/
theorem Rel.newBox (hR : Rel Γ g w m) {n : Nat} (hn : m n = none) (cs : List AV) (vs : Array Value) (T : TypeId) (hl : cs.length ≤ vs.size)
    (hv : ∀ (i : Nat) (a : AV) (v : Value), cs[i]? = some a → vs[i]? = some v → VR g w.heap a v) (hh : w'.heap = w.heap.push (.cells vs T (0, 0))) (hs : SameW w w') :
    Out Γ g w m { g with σ := upd g.σ n (some w.heap.size) } w' (upd m n (some (.box cs false))) := by
  have hle : GhLe g { g with σ := upd g.σ n (some w.heap.size) } := ⟨fun i k h => by
    by_cases hi : i = n
    · subst hi; rw [(hR.fresh i hn).1] at h; cases h
    · simp only [upd_ne _ _ hi]; exact h, fun _ _ h => h⟩
  have hb : Pers g.U w.heap g.U w'.heap := by rw [hh]; exact pers_push (fun _ _ h => h) (fun _ _ h => hR.lt h)
  refine ⟨hR.update hle hb (fun i => i = n) (fun k => k = w.heap.size) (fun i hi => upd_ne _ _ hi) (fun i hi => upd_ne _ _ hi) (fun _ _ => rfl) ?_ ?_ ?_ ?_ ?_ ?_ ?_, ?_, hle, fun i hi => ⟨upd_ne _ _ (fun h => hi (h ▸ hn)), rfl⟩, fun i hi => upd_dom hi⟩
  · intro k hk _
    exact ⟨by rw [hh, push_old hk], rfl⟩
  · intro i k _ ho hD
    exact absurd (hR.holds_lt ho) (by omega)
  · intro i hi hm; subst hi; simp at hm
  · intro i cs' fz hi hm
    subst hi
    simp only [upd_same, Option.some.injEq, Res.box.injEq] at hm
    obtain ⟨rfl, rfl⟩ := hm
    exact ⟨w.heap.size, vs, T, by simp, by rw [hh]; simp, hl, fun j a v ha hv' => (hv j a v ha hv').mono hle hb, by simpa using hR.none_new⟩
  · intro i hi hm; subst hi; simp at hm
  · intro i i' k hi h1 h2
    subst hi
    have hk : k = w.heap.size := by
      rcases h1 with ⟨_, _, _, h⟩ | ⟨h, _⟩
      · simp at h; exact h.symm
      · simp at h
    rcases h2 with ⟨cs', fz', h, h'⟩ | ⟨h, e, h'⟩
    · by_cases hi' : i' = i
      · exact hi'.symm
      · rw [upd_ne _ _ hi'] at h
        simp only [upd_ne _ _ hi'] at h'
        exact absurd (hR.holds_lt (.inl ⟨cs', fz', h, h'⟩)) (by omega)
    · by_cases hi' : i' = i
      · exact hi'.symm
      · rw [upd_ne _ _ hi'] at h
        exact absurd (hR.holds_lt (.inr ⟨h, e, h'⟩)) (by omega)
  · intro k u hu
    obtain ⟨vs', T', fr, hk, hle'⟩ := hR.ulen k u hu
    exact ⟨vs', T', fr, by rw [hh, push_old (lt_size hk)]; exact hk, hle'⟩
  · refine ⟨hs.os, hs.tape, hs.output, fun a _ _ => frozen_push hh a, by rw [hh]; simp, fun k hk _ => ⟨by rw [hh, push_old hk], rfl⟩, hb, fun i k hk ho => ?_, fun i k hk ho => ?_⟩
    · by_cases hi : i = n
      · subst hi
        rcases ho with ⟨_, _, h⟩ | ⟨h, _⟩
        · simp at h; omega
        · simp at h
      · refine ⟨i, ?_⟩
        rcases ho with ⟨cs', h, h'⟩ | ⟨h, e, h'⟩
        · rw [upd_ne _ _ hi] at h; simp only [upd_ne _ _ hi] at h'; exact .inl ⟨cs', h, h'⟩
        · rw [upd_ne _ _ hi] at h; exact .inr ⟨h, e, h'⟩
    · by_cases hi : i = n
      · subst hi
        rcases ho with ⟨_, _, _, h⟩ | ⟨h, _⟩
        · simp at h; omega
        · simp at h
      · refine ⟨i, ?_⟩
        rcases ho with ⟨cs', f, h, h'⟩ | ⟨h, e, h'⟩
        · rw [upd_ne _ _ hi] at h; simp only [upd_ne _ _ hi] at h'; exact .inl ⟨cs', f, h, h'⟩
        · rw [upd_ne _ _ hi] at h; exact .inr ⟨h, e, h'⟩

/-- A new row that is a slice's own: its first e cells stay. -/
theorem Rel.newTok (hR : Rel Γ g w m) {n : Nat} (hn : m n = none) (vs : Array Value) (T : TypeId) (e : Nat) (he : e ≤ vs.size) (hh : w'.heap = w.heap.push (.cells vs T (0, 0))) (hs : SameW w w') :
    Out Γ g w m { g with τ := upd g.τ n (some (some (w.heap.size, e))), U := upd g.U w.heap.size (some e) } w' (upd m n (some .tok)) := by
  have hle : GhLe g { g with τ := upd g.τ n (some (some (w.heap.size, e))), U := upd g.U w.heap.size (some e) } := ⟨fun _ _ h => h, fun i k h => by
    by_cases hi : i = n
    · subst hi; rw [(hR.fresh i hn).2] at h; cases h
    · simp only [upd_ne _ _ hi]; exact h⟩
  have hU : ∀ k u, g.U k = some u → upd g.U w.heap.size (some e) k = some u := fun k u h => by rw [upd_ne _ _ (Nat.ne_of_lt (hR.lt h))]; exact h
  have hb : Pers g.U w.heap (upd g.U w.heap.size (some e)) w'.heap := by rw [hh]; exact pers_push hU (fun _ _ h => hR.lt h)
  refine ⟨hR.update hle hb (fun i => i = n) (fun k => k = w.heap.size) (fun i hi => upd_ne _ _ hi) (fun _ _ => rfl) (fun i hi => upd_ne _ _ hi) ?_ ?_ ?_ ?_ ?_ ?_ ?_, ?_, hle, fun i hi => ⟨rfl, upd_ne _ _ (fun h => hi (h ▸ hn))⟩, fun i hi => upd_dom hi⟩
  · intro k hk hne
    exact ⟨by rw [hh, push_old hk], upd_ne _ _ hne⟩
  · intro i k _ ho hD
    exact absurd (hR.holds_lt ho) (by omega)
  · intro i hi hm; subst hi; simp at hm
  · intro i cs' fz hi hm; subst hi; simp at hm
  · intro i hi hm
    subst hi
    exact .inr ⟨w.heap.size, e, vs, T, by simp, by rw [hh]; simp, by simp⟩
  · intro i i' k hi h1 h2
    subst hi
    have hk : k = w.heap.size := by
      rcases h1 with ⟨_, _, h, _⟩ | ⟨_, e', h⟩
      · simp at h
      · simp at h; exact h.1.symm
    rcases h2 with ⟨cs', fz', h, h'⟩ | ⟨h, e', h'⟩
    · by_cases hi' : i' = i
      · exact hi'.symm
      · rw [upd_ne _ _ hi'] at h
        exact absurd (hR.holds_lt (.inl ⟨cs', fz', h, h'⟩)) (by omega)
    · by_cases hi' : i' = i
      · exact hi'.symm
      · rw [upd_ne _ _ hi'] at h
        simp only [upd_ne _ _ hi'] at h'
        exact absurd (hR.holds_lt (.inr ⟨h, e', h'⟩)) (by omega)
  · intro k u hu
    by_cases hk : k = w.heap.size
    · subst hk
      simp at hu
      subst hu
      exact ⟨vs, T, (0, 0), by rw [hh]; simp, he⟩
    · simp only [upd_ne _ _ hk] at hu
      obtain ⟨vs', T', fr, hk', hle'⟩ := hR.ulen k u hu
      exact ⟨vs', T', fr, by rw [hh, push_old (lt_size hk')]; exact hk', hle'⟩
  · refine ⟨hs.os, hs.tape, hs.output, fun a _ _ => frozen_push hh a, by rw [hh]; simp, fun k hk _ => ⟨by rw [hh, push_old hk], upd_ne _ _ (Nat.ne_of_lt hk)⟩, hb, fun i k hk ho => ?_, fun i k hk ho => ?_⟩
    · by_cases hi : i = n
      · subst hi
        rcases ho with ⟨_, h, _⟩ | ⟨_, e', h⟩
        · simp at h
        · simp at h; omega
      · refine ⟨i, ?_⟩
        rcases ho with ⟨cs', h, h'⟩ | ⟨h, e', h'⟩
        · rw [upd_ne _ _ hi] at h; exact .inl ⟨cs', h, h'⟩
        · rw [upd_ne _ _ hi] at h; simp only [upd_ne _ _ hi] at h'; exact .inr ⟨h, e', h'⟩
    · by_cases hi : i = n
      · subst hi
        rcases ho with ⟨_, _, h, _⟩ | ⟨_, e', h⟩
        · simp at h
        · simp at h; omega
      · refine ⟨i, ?_⟩
        rcases ho with ⟨cs', f, h, h'⟩ | ⟨h, e', h'⟩
        · rw [upd_ne _ _ hi] at h; exact .inl ⟨cs', f, h, h'⟩
        · rw [upd_ne _ _ hi] at h; simp only [upd_ne _ _ hi] at h'; exact .inr ⟨h, e', h'⟩

/-- A nil slice of one's own. -/
theorem Rel.nilTok (hR : Rel Γ g w m) {n : Nat} (hn : m n = none) (hh : w'.heap = w.heap) (hs : SameW w w') :
    Out Γ g w m { g with τ := upd g.τ n (some none) } w' (upd m n (some .tok)) := by
  have hle : GhLe g { g with τ := upd g.τ n (some none) } := ⟨fun _ _ h => h, fun i k h => by
    by_cases hi : i = n
    · subst hi; rw [(hR.fresh i hn).2] at h; cases h
    · simp only [upd_ne _ _ hi]; exact h⟩
  have hb : Pers g.U w.heap g.U w'.heap := by rw [hh]; exact Pers.refl _ _
  refine ⟨hR.update hle hb (fun i => i = n) (fun _ => False) (fun i hi => upd_ne _ _ hi) (fun _ _ => rfl) (fun i hi => upd_ne _ _ hi) ?_ ?_ ?_ ?_ ?_ ?_ ?_, ?_, hle, fun i hi => ⟨rfl, upd_ne _ _ (fun h => hi (h ▸ hn))⟩, fun i hi => upd_dom hi⟩
  · intro k _ _; exact ⟨by rw [hh], rfl⟩
  · intro i k _ _ hD; exact hD
  · intro i hi hm; subst hi; simp at hm
  · intro i cs' fz hi hm; subst hi; simp at hm
  · intro i hi hm; subst hi; exact .inl (by simp)
  · intro i i' k hi h1 _
    subst hi
    rcases h1 with ⟨_, _, h, _⟩ | ⟨_, e', h⟩ <;> simp at h
  · rw [hh]; exact hR.ulen
  · refine ⟨hs.os, hs.tape, hs.output, fun a _ _ => frozen_same hh a, by rw [hh]; exact Nat.le_refl _, fun k _ _ => ⟨by rw [hh], rfl⟩, hb, fun i k hk ho => ?_, fun i k hk ho => ?_⟩
    · by_cases hi : i = n
      · subst hi
        rcases ho with ⟨_, h, _⟩ | ⟨_, e', h⟩ <;> simp at h
      · refine ⟨i, ?_⟩
        rcases ho with ⟨cs', h, h'⟩ | ⟨h, e', h'⟩
        · rw [upd_ne _ _ hi] at h; exact .inl ⟨cs', h, h'⟩
        · rw [upd_ne _ _ hi] at h; simp only [upd_ne _ _ hi] at h'; exact .inr ⟨h, e', h'⟩
    · by_cases hi : i = n
      · subst hi
        rcases ho with ⟨_, _, h, _⟩ | ⟨_, e', h⟩ <;> simp at h
      · refine ⟨i, ?_⟩
        rcases ho with ⟨cs', f, h, h'⟩ | ⟨h, e', h'⟩
        · rw [upd_ne _ _ hi] at h; exact .inl ⟨cs', f, h, h'⟩
        · rw [upd_ne _ _ hi] at h; simp only [upd_ne _ _ hi] at h'; exact .inr ⟨h, e', h'⟩

/-- A name is let go. -/
theorem Rel.kill (hR : Rel Γ g w m) {n : Nat} (hn : m n ≠ none) : Out Γ g w m g w (upd m n (some .dead)) := by
  have hb : Pers g.U w.heap g.U w.heap := Pers.refl _ _
  refine ⟨hR.update (GhLe.refl _) hb (fun i => i = n) (fun _ => False) (fun i hi => upd_ne _ _ hi) (fun _ _ => rfl) (fun _ _ => rfl) ?_ ?_ ?_ ?_ ?_ ?_ hR.ulen, ?_, GhLe.refl _, fun _ _ => ⟨rfl, rfl⟩, fun i hi => upd_dom hi⟩
  · intro k _ _; exact ⟨rfl, rfl⟩
  · intro i k _ _ hD; exact hD
  · intro i hi hm; subst hi; simp at hm
  · intro i cs' fz hi hm; subst hi; simp at hm
  · intro i hi hm; subst hi; simp at hm
  · intro i i' k hi h1 _
    subst hi
    rcases h1 with ⟨_, _, h, _⟩ | ⟨h, _⟩ <;> simp at h
  · refine ⟨rfl, rfl, rfl, fun _ _ _ => rfl, Nat.le_refl _, fun k _ _ => ⟨rfl, rfl⟩, hb, fun i k hk ho => ?_, fun i k hk ho => ?_⟩
    · by_cases hi : i = n
      · subst hi
        rcases ho with ⟨_, h, _⟩ | ⟨h, _⟩ <;> simp at h
      · refine ⟨i, ?_⟩
        rcases ho with ⟨cs', h, h'⟩ | ⟨h, e', h'⟩
        · rw [upd_ne _ _ hi] at h; exact .inl ⟨cs', h, h'⟩
        · rw [upd_ne _ _ hi] at h; exact .inr ⟨h, e', h'⟩
    · by_cases hi : i = n
      · subst hi
        rcases ho with ⟨_, _, h, _⟩ | ⟨h, _⟩ <;> simp at h
      · refine ⟨i, ?_⟩
        rcases ho with ⟨cs', f, h, h'⟩ | ⟨h, e', h'⟩
        · rw [upd_ne _ _ hi] at h; exact .inl ⟨cs', f, h, h'⟩
        · rw [upd_ne _ _ hi] at h; exact .inr ⟨h, e', h'⟩

theorem set_at {h : Array Obj} {k : Nat} {o o' : Obj} (hk : h[k]? = some o) : (h.setIfInBounds k o')[k]? = some o' := by
  simp [lt_size hk]
theorem set_other {h : Array Obj} {k i : Nat} {o' : Obj} (hi : i ≠ k) : (h.setIfInBounds k o')[i]? = h[i]? := by
  rw [Array.getElem?_setIfInBounds]; simp [Ne.symm hi]

theorem holds_upd_box {g : Gh} {m : Mem} {n : Nat} {cs cs' : List AV} {fz fz' : Bool} (hm : m n = some (.box cs fz)) {i k : Nat} (h : Holds g (upd m n (some (.box cs' fz'))) i k) : Holds g m i k := by
  by_cases hi : i = n
  · subst hi
    rcases h with ⟨_, _, _, h'⟩ | ⟨h, _⟩
    · exact .inl ⟨cs, fz, hm, h'⟩
    · simp at h
  · rcases h with ⟨c, f, h, h'⟩ | ⟨h, e, h'⟩
    · rw [upd_ne _ _ hi] at h; exact .inl ⟨c, f, h, h'⟩
    · rw [upd_ne _ _ hi] at h; exact .inr ⟨h, e, h'⟩

/-- A new row that stays, and is nobody's. -/
theorem Rel.newAnon (hR : Rel Γ g w m) (vs : Array Value) (T : TypeId) (fr : Nat × Nat) (e : Nat) (he : e ≤ vs.size) (hh : w'.heap = w.heap.push (.cells vs T fr)) (hs : SameW w w') :
    Out Γ g w m { g with U := upd g.U w.heap.size (some e) } w' m := by
  have hU : ∀ k u, g.U k = some u → upd g.U w.heap.size (some e) k = some u := fun k u h => by
    rw [upd_ne _ _ (Nat.ne_of_lt (hR.lt h))]
    exact h
  have hb : Pers g.U w.heap (upd g.U w.heap.size (some e)) w'.heap := by rw [hh]; exact pers_push hU (fun _ _ h => hR.lt h)
  have hle : GhLe g { g with U := upd g.U w.heap.size (some e) } := ⟨fun _ _ h => h, fun _ _ h => h⟩
  have hfz : ∀ a : Addr, a.block < w.heap.size → w'.frozen? a = w.frozen? a := fun a ha => by
    have h1 : w'.heap[a.block]? = w.heap[a.block]? := by rw [hh, push_old ha]
    simp only [World.frozen?, h1]
  refine ⟨hR.update hle hb (fun _ => False) (fun k => k = w.heap.size) (fun _ _ => rfl) (fun _ _ => rfl) (fun _ _ => rfl) ?_ ?_ (fun _ h => h.elim) (fun _ _ _ h => h.elim) (fun _ h => h.elim) (fun _ _ _ h => h.elim) ?_, ?_, hle, fun _ _ => ⟨rfl, rfl⟩, fun _ h => h⟩
  · intro k hk _
    exact ⟨by rw [hh, push_old hk], upd_ne _ _ (Nat.ne_of_lt hk)⟩
  · intro i k _ ho hD
    exact absurd (hR.holds_lt ho) (by omega)
  · intro k u hu
    by_cases hk : k = w.heap.size
    · subst hk
      simp at hu
      subst hu
      exact ⟨vs, T, fr, by rw [hh]; exact push_new, he⟩
    · simp only [upd_ne _ _ hk] at hu
      obtain ⟨vs', T', fr', hk', hle'⟩ := hR.ulen k u hu
      exact ⟨vs', T', fr', by rw [hh, push_old (lt_size hk')]; exact hk', hle'⟩
  · exact ⟨hs.os, hs.tape, hs.output, fun a ha _ => hfz a ha, by rw [hh]; simp, fun k hk _ => ⟨by rw [hh, push_old hk], upd_ne _ _ (Nat.ne_of_lt hk)⟩, hb, fun i k _ ho => ⟨i, ho⟩, fun i k _ ho => ⟨i, ho⟩⟩

/-- A store into a box. -/
theorem Rel.store (hR : Rel Γ g w m) {n : Nat} {cs : List AV} (hm : m n = some (.box cs false)) {k : Nat} {vs : Array Value} {T : TypeId} (hσ : g.σ n = some k) (hk : w.heap[k]? = some (.cells vs T (0, 0)))
    (cs' : List AV) (vs' : Array Value) (hl : cs'.length ≤ vs'.size) (hv : ∀ (i : Nat) (a : AV) (v : Value), cs'[i]? = some a → vs'[i]? = some v → VR g w.heap a v)
    (hh : w'.heap = w.heap.setIfInBounds k (.cells vs' T (0, 0))) (hs : SameW w w') : Out Γ g w m g w' (upd m n (some (.box cs' false))) := by
  have hbx := hR.box n cs false hm
  have hu : g.U k = none := by
    obtain ⟨k', _, _, h1, _, _, _, h5⟩ := hbx
    rw [hσ] at h1; injection h1 with h1; subst h1; simpa using h5
  have hb : Pers g.U w.heap g.U w'.heap := by
    refine ⟨fun i u ws T' fr hu' hi => ?_, mp_set hk hh⟩
    have hne : i ≠ k := fun h => by subst h; rw [hu] at hu'; cases hu'
    exact ⟨u, ws, fr, hu', Nat.le_refl _, by rw [hh, set_other hne]; exact hi, rfl, fun _ _ => rfl⟩
  have hho : Holds g m n k := .inl ⟨cs, false, hm, hσ⟩
  refine ⟨hR.update (GhLe.refl _) hb (fun i => i = n) (fun i => i = k) (fun i hi => upd_ne _ _ hi) (fun _ _ => rfl) (fun _ _ => rfl) ?_ ?_ ?_ ?_ ?_ ?_ ?_, ?_, GhLe.refl _, fun _ _ => ⟨rfl, rfl⟩, fun i hi => upd_dom hi⟩
  · intro i _ hne; exact ⟨by rw [hh, set_other hne], rfl⟩
  · intro i k' hi ho hD
    subst hD
    exact hi (hR.inj i n k' ho hho)
  · intro i hi hm'; subst hi; simp at hm'
  · intro i c f hi hm'
    subst hi
    simp only [upd_same, Option.some.injEq, Res.box.injEq] at hm'
    obtain ⟨rfl, rfl⟩ := hm'
    exact ⟨k, vs', T, hσ, by rw [hh]; exact set_at hk, hl, fun j a v ha hv' => (hv j a v ha hv').mono (GhLe.refl _) hb, by simpa using hu⟩
  · intro i hi hm'; subst hi; simp at hm'
  · intro i i' k' hi h1 h2
    exact hR.inj i i' k' (holds_upd_box hm h1) (holds_upd_box hm h2)
  · intro i u hu'
    have hne : i ≠ k := fun h => by subst h; rw [hu] at hu'; cases hu'
    rw [hh, set_other hne]
    exact hR.ulen i u hu'
  · refine ⟨hs.os, hs.tape, hs.output, fun a _ _ => frozen_set hk hh a, by rw [hh]; simp, fun i _ hne => ?_, hb, fun i k' _ ho => ?_, fun i k' _ ho => ⟨i, holds_upd_box hm ho⟩⟩
    · have : i ≠ k := fun h => by subst h; exact hne n (.inl ⟨cs, hm, hσ⟩)
      exact ⟨by rw [hh, set_other this], rfl⟩
    · by_cases hi : i = n
      · subst hi
        rcases ho with ⟨_, _, h'⟩ | ⟨h, _⟩
        · exact ⟨i, .inl ⟨cs, hm, h'⟩⟩
        · simp at h
      · refine ⟨i, ?_⟩
        rcases ho with ⟨c, h, h'⟩ | ⟨h, e, h'⟩
        · rw [upd_ne _ _ hi] at h; exact .inl ⟨c, h, h'⟩
        · rw [upd_ne _ _ hi] at h; exact .inr ⟨h, e, h'⟩

/-- A row of one's own is marked: it is nobody's own any more; its cells stay. -/
theorem Rel.mark (hR : Rel Γ g w m) {n k e : Nat} {vs : Array Value} {T : TypeId} {fr : Nat × Nat} (hm : m n = some .tok) (hτ : g.τ n = some (some (k, e))) (hk : w.heap[k]? = some (.cells vs T (0, 0)))
    (hh : w'.heap = w.heap.setIfInBounds k (.cells vs T fr)) (hs : SameW w w') : Out Γ g w m g w' (upd m n (some .dead)) := by
  have hb : Pers g.U w.heap g.U w'.heap := by
    refine ⟨fun i u ws T' fr' hu' hi => ?_, fun i l t hi => ?_⟩
    · by_cases hik : i = k
      · subst hik
        rw [hk] at hi
        cases hi
        exact ⟨u, vs, fr, hu', Nat.le_refl _, by rw [hh]; exact set_at hk, rfl, fun _ _ => rfl⟩
      · exact ⟨u, ws, fr', hu', Nat.le_refl _, by rw [hh, set_other hik]; exact hi, rfl, fun _ _ => rfl⟩
    · have hne : i ≠ k := fun e => by subst e; rw [hk] at hi; cases hi
      rw [hh, set_other hne]; exact hi
  have hho : Holds g m n k := .inr ⟨hm, e, hτ⟩
  have hold : ∀ i k', Holds g (upd m n (some .dead)) i k' → i ≠ n ∧ Holds g m i k' := fun i k' h => by
    by_cases hi : i = n
    · subst hi
      rcases h with ⟨_, _, h, _⟩ | ⟨h, _⟩ <;> simp at h
    · refine ⟨hi, ?_⟩
      rcases h with ⟨c, f, h, h'⟩ | ⟨h, e, h'⟩
      · rw [upd_ne _ _ hi] at h; exact .inl ⟨c, f, h, h'⟩
      · rw [upd_ne _ _ hi] at h; exact .inr ⟨h, e, h'⟩
  refine ⟨hR.update (GhLe.refl _) hb (fun i => i = n) (fun i => i = k) (fun i hi => upd_ne _ _ hi) (fun _ _ => rfl) (fun _ _ => rfl) ?_ ?_ ?_ ?_ ?_ ?_ ?_, ?_, GhLe.refl _, fun _ _ => ⟨rfl, rfl⟩, fun i hi => upd_dom hi⟩
  · intro i _ hne; exact ⟨by rw [hh, set_other hne], rfl⟩
  · intro i k' hi ho hD
    subst hD
    exact absurd (hR.inj i n _ ho hho) hi
  · intro i hi hm'; subst hi; simp at hm'
  · intro i cs' fz hi hm'; subst hi; simp at hm'
  · intro i hi hm'; subst hi; simp at hm'
  · intro i i' k' hi h1 h2
    exact absurd hi (hold i k' h1).1
  · intro i u hu'
    by_cases hik : i = k
    · subst hik
      obtain ⟨ws, T', fr', h1, h2⟩ := hR.ulen i u hu'
      rw [hk] at h1
      cases h1
      exact ⟨vs, T, fr, by rw [hh]; exact set_at hk, h2⟩
    · rw [hh, set_other hik]
      exact hR.ulen i u hu'
  · refine ⟨hs.os, hs.tape, hs.output, fun a ha hno => ?_, by rw [hh]; simp, fun i _ hne => ?_, hb, fun i k' _ ho => ?_, fun i k' _ ho => ⟨i, (hold i k' ho).2⟩⟩
    · have hne : a.block ≠ k := fun h => hno n (.inr ⟨hm, e, by rw [h]; exact hτ⟩)
      have h1 : w'.heap[a.block]? = w.heap[a.block]? := by rw [hh, set_other hne]
      simp only [World.frozen?, h1]
    · have : i ≠ k := fun h => hne n (.inr ⟨hm, e, by rw [h]; exact hτ⟩)
      exact ⟨by rw [hh, set_other this], rfl⟩
    · have hi : i ≠ n := fun h => by
        subst h
        rcases ho with ⟨_, h, _⟩ | ⟨h, _⟩ <;> simp at h
      refine ⟨i, ?_⟩
      rcases ho with ⟨c, h, h'⟩ | ⟨h, e, h'⟩
      · rw [upd_ne _ _ hi] at h; exact .inl ⟨c, h, h'⟩
      · rw [upd_ne _ _ hi] at h; exact .inr ⟨h, e, h'⟩

/-- A box is written no more: its cells stay. -/
theorem Rel.freeze (hR : Rel Γ g w m) {n : Nat} {cs : List AV} {fz : Bool} (hm : m n = some (.box cs fz)) {k : Nat} (hσ : g.σ n = some k) :
    Out Γ g w m { g with U := upd g.U k (some cs.length) } w (upd m n (some (.box cs true))) := by
  obtain ⟨k', vs, T, h1, hk, hl, hv, hu⟩ := hR.box n cs fz hm
  rw [hσ] at h1; injection h1 with h1; subst h1
  have hUle : ∀ u, g.U k = some u → u = cs.length := by
    intro u h
    rw [hu] at h
    cases fz <;> simp at h
    exact h.symm
  have hb : Pers g.U w.heap (upd g.U k (some cs.length)) w.heap := by
    refine ⟨fun i u ws T' fr hu' hi => ?_, fun _ _ _ h => h⟩
    by_cases hik : i = k
    · subst hik
      exact ⟨cs.length, ws, fr, by simp, by rw [hUle u hu']; exact Nat.le_refl _, hi, rfl, fun _ _ => rfl⟩
    · exact ⟨u, ws, fr, by rw [upd_ne _ _ hik]; exact hu', Nat.le_refl _, hi, rfl, fun _ _ => rfl⟩
  have hle : GhLe g { g with U := upd g.U k (some cs.length) } := ⟨fun _ _ h => h, fun _ _ h => h⟩
  have hho : Holds g m n k := .inl ⟨cs, fz, hm, hσ⟩
  have hold : ∀ i k', Holds { g with U := upd g.U k (some cs.length) } (upd m n (some (.box cs true))) i k' → Holds g m i k' := fun i k' h => by
    have h' : Holds g (upd m n (some (.box cs true))) i k' := h
    exact holds_upd_box hm h'
  refine ⟨hR.update hle hb (fun i => i = n) (fun i => i = k) (fun i hi => upd_ne _ _ hi) (fun _ _ => rfl) (fun _ _ => rfl) ?_ ?_ ?_ ?_ ?_ ?_ ?_, ?_, hle, fun _ _ => ⟨rfl, rfl⟩, fun i hi => upd_dom hi⟩
  · intro i _ hne; exact ⟨rfl, upd_ne _ _ hne⟩
  · intro i k' hi ho hD
    subst hD
    exact hi (hR.inj i n k' ho hho)
  · intro i hi hm'; subst hi; simp at hm'
  · intro i c f hi hm'
    subst hi
    simp only [upd_same, Option.some.injEq, Res.box.injEq] at hm'
    obtain ⟨rfl, rfl⟩ := hm'
    exact ⟨k, vs, T, hσ, hk, hl, fun j a v ha hv' => (hv j a v ha hv').mono hle hb, by simp⟩
  · intro i hi hm'; subst hi; simp at hm'
  · intro i i' k' hi h1 h2
    exact hR.inj i i' k' (hold _ _ h1) (hold _ _ h2)
  · intro i u hu'
    by_cases hik : i = k
    · subst hik
      simp at hu'
      subst hu'
      exact ⟨vs, T, (0, 0), hk, by omega⟩
    · simp only [upd_ne _ _ hik] at hu'
      exact hR.ulen i u hu'
  · refine ⟨rfl, rfl, rfl, fun _ _ _ => rfl, Nat.le_refl _, fun i _ hne => ?_, hb, fun i k' _ ho => ?_, fun i k' _ ho => ⟨i, hold _ _ ho⟩⟩
    · by_cases hik : i = k
      · subst hik
        cases fz with
        | false => exact absurd (show Owns g m n i from .inl ⟨cs, hm, hσ⟩) (hne n)
        | true => exact ⟨rfl, by simp only [upd_same]; simpa using hu.symm⟩
      · exact ⟨rfl, upd_ne _ _ hik⟩
    · by_cases hi : i = n
      · subst hi
        rcases ho with ⟨_, h, _⟩ | ⟨h, _⟩ <;> simp at h
      · refine ⟨i, ?_⟩
        rcases ho with ⟨c, h, h'⟩ | ⟨h, e, h'⟩
        · rw [upd_ne _ _ hi] at h; exact .inl ⟨c, h, h'⟩
        · rw [upd_ne _ _ hi] at h; exact .inr ⟨h, e, h'⟩

/-- An append in place. -/
theorem Rel.grow (hR : Rel Γ g w m) {t n : Nat} (ht : m t = some .tok) (hn : m n = none) {k e : Nat} {vs : Array Value} {T : TypeId} (hτ : g.τ t = some (some (k, e))) (hk : w.heap[k]? = some (.cells vs T (0, 0)))
    (vs' : Array Value) (hsz : vs'.size = vs.size) (hsame : ∀ j, j < e → vs'[j]? = vs[j]?) (e' : Nat) (hee : e ≤ e') (he' : e' ≤ vs.size)
    (hh : w'.heap = w.heap.setIfInBounds k (.cells vs' T (0, 0))) (hs : SameW w w') :
    Out Γ g w m { g with τ := upd g.τ n (some (some (k, e'))), U := upd g.U k (some e') } w' (upd (upd m t (some .dead)) n (some .tok)) := by
  have htn : t ≠ n := fun h => by subst h; rw [hn] at ht; cases ht
  have hu : g.U k = some e := by
    rcases hR.tok t ht with h | ⟨k', e1, _, _, h, _, hu⟩
    · rw [hτ] at h; cases h
    · rw [hτ] at h; cases h; exact hu
  have hle : GhLe g { g with τ := upd g.τ n (some (some (k, e'))), U := upd g.U k (some e') } := ⟨fun _ _ h => h, fun i q h => by
    by_cases hi : i = n
    · subst hi; rw [(hR.fresh i hn).2] at h; cases h
    · simp only [upd_ne _ _ hi]; exact h⟩
  have hb : Pers g.U w.heap (upd g.U k (some e')) w'.heap := by
    refine ⟨fun i u ws T' fr hu' hi => ?_, mp_set hk hh⟩
    by_cases hik : i = k
    · subst hik
      rw [hu] at hu'
      injection hu' with hu'
      subst hu'
      rw [hk] at hi
      cases hi
      exact ⟨e', vs', _, by simp, hee, by rw [hh]; exact set_at hk, hsz, hsame⟩
    · exact ⟨u, ws, fr, by rw [upd_ne _ _ hik]; exact hu', Nat.le_refl _, by rw [hh, set_other hik]; exact hi, rfl, fun _ _ => rfl⟩
  have hho : Holds g m t k := .inr ⟨ht, e, hτ⟩
  have hold : ∀ i q, i ≠ n → Holds { g with τ := upd g.τ n (some (some (k, e'))), U := upd g.U k (some e') } (upd (upd m t (some .dead)) n (some .tok)) i q → Holds g m i q ∧ i ≠ t := by
    intro i q hi h
    have hit : i ≠ t := fun h' => by
      subst h'
      rcases h with ⟨_, _, h, _⟩ | ⟨h, _⟩ <;> simp [upd_ne _ _ hi] at h
    refine ⟨?_, hit⟩
    rcases h with ⟨c, f, h, h'⟩ | ⟨h, e1, h'⟩
    · rw [upd_ne _ _ hi, upd_ne _ _ hit] at h; exact .inl ⟨c, f, h, h'⟩
    · rw [upd_ne _ _ hi, upd_ne _ _ hit] at h; simp only [upd_ne _ _ hi] at h'; exact .inr ⟨h, e1, h'⟩
  refine ⟨hR.update hle hb (fun i => i = n ∨ i = t) (fun i => i = k) (fun i hi => ?_) (fun _ _ => rfl) (fun i hi => upd_ne _ _ (fun h => hi (.inl h))) ?_ ?_ ?_ ?_ ?_ ?_ ?_, ?_, hle, fun i hi => ⟨rfl, upd_ne _ _ (fun h => hi (h ▸ hn))⟩, fun i hi => upd_dom (upd_dom hi)⟩
  · rw [upd_ne _ _ (fun h => hi (.inl h)), upd_ne _ _ (fun h => hi (.inr h))]
  · intro i _ hne; exact ⟨by rw [hh, set_other hne], upd_ne _ _ hne⟩
  · intro i k' hi ho hD
    subst hD
    exact hi (.inr (hR.inj i t k' ho hho))
  · intro i hi hm'
    rcases hi with hi | hi <;> subst hi
    · simp at hm'
    · rw [upd_ne _ _ htn] at hm'; simp at hm'
  · intro i c f hi hm'
    rcases hi with hi | hi <;> subst hi
    · simp at hm'
    · rw [upd_ne _ _ htn] at hm'; simp at hm'
  · intro i hi hm'
    rcases hi with hi | hi <;> subst hi
    · exact .inr ⟨k, e', vs', T, by simp, by rw [hh]; exact set_at hk, by simp⟩
    · rw [upd_ne _ _ htn] at hm'; simp at hm'
  · intro i i' k' hi h1 h2
    rcases hi with hi | hi <;> subst hi
    · have hk' : k' = k := by
        rcases h1 with ⟨_, _, h, _⟩ | ⟨_, e1, h⟩
        · simp at h
        · simp at h; exact h.1.symm
      subst hk'
      by_cases hi' : i' = i
      · exact hi'.symm
      · obtain ⟨h3, h4⟩ := hold i' k' hi' h2
        exact absurd (hR.inj i' t k' h3 hho) h4
    · rcases h1 with ⟨_, _, h, _⟩ | ⟨h, _⟩ <;> simp [upd_ne _ _ htn] at h
  · intro i u hu'
    by_cases hik : i = k
    · subst hik
      simp at hu'
      subst hu'
      exact ⟨vs', T, (0, 0), by rw [hh]; exact set_at hk, by omega⟩
    · simp only [upd_ne _ _ hik] at hu'
      rw [hh, set_other hik]
      exact hR.ulen i u hu'
  · refine ⟨hs.os, hs.tape, hs.output, fun a _ _ => frozen_set hk hh a, by rw [hh]; simp, fun i _ hne => ?_, hb, fun i k' _ ho => ?_, fun i k' _ ho => ?_⟩
    · have : i ≠ k := fun h => by subst h; exact hne t (.inr ⟨ht, e, hτ⟩)
      exact ⟨by rw [hh, set_other this], upd_ne _ _ this⟩
    · by_cases hi : i = n
      · subst hi
        rcases ho with ⟨_, h, _⟩ | ⟨_, e1, h⟩
        · simp at h
        · simp at h
          obtain ⟨rfl, _⟩ := h
          exact ⟨t, .inr ⟨ht, e, hτ⟩⟩
      · have hit : i ≠ t := fun h' => by
          subst h'
          rcases ho with ⟨_, h, _⟩ | ⟨h, _⟩ <;> simp [upd_ne _ _ hi] at h
        refine ⟨i, ?_⟩
        rcases ho with ⟨c, h, h'⟩ | ⟨h, e1, h'⟩
        · rw [upd_ne _ _ hi, upd_ne _ _ hit] at h; exact .inl ⟨c, h, h'⟩
        · rw [upd_ne _ _ hi, upd_ne _ _ hit] at h; simp only [upd_ne _ _ hi] at h'; exact .inr ⟨h, e1, h'⟩
    · by_cases hi : i = n
      · subst hi
        rcases ho with ⟨_, _, h, _⟩ | ⟨_, e1, h⟩
        · simp at h
        · simp at h
          obtain ⟨rfl, _⟩ := h
          exact ⟨t, hho⟩
      · exact ⟨i, (hold i k' hi ho).1⟩
end
end Go.Shade

/- '==' of structs and arrays of whole numbers, bools and strings: what it gives, cell by cell. Own work. -/
namespace Go.Shade
open Go

def eqV : Nat → Value → Value → Option Bool
  | 0, .int k a, .int k' b => if k = k' then some (decide (a = b)) else none
  | 1, .bool a, .bool b => some (decide (a = b))
  | 2, .string a, .string b => some (a.toList == b.toList)
  | _, _, _ => none
def eqVs : List Nat → List Value → List Value → Option Bool
  | [], [], [] => some true
  | k :: ks, a :: as, b :: bs => (eqV k a b).bind fun x => (eqVs ks as bs).map fun y => x && y
  | _, _, _ => none
/-- The kinds of a type's cells, if it is laid one behind the other and of such alone. -/
def eqFs (P : Program) (rec : TypeId → Option (List Nat)) : Nat → List Field → Option (List Nat)
  | _, [] => some []
  | off, f :: fs => (rec f.type).bind fun l => if f.name != "_" && f.offset == off && l.length != 0 && (match P.info? f.type with | some i => i.size == l.length | none => false) then (eqFs P rec (off + l.length) fs).map (l ++ ·) else none
def eqK (P : Program) : Nat → TypeId → Option (List Nat)
  | 0, _ => none
  | d + 1, t => match P.underlying t with
    | some (.int _) => some [0]
    | some .bool => some [1]
    | some .string => some [2]
    | some (.array n e) => (eqK P d e).bind fun l => match P.info? e with
      | some i => if i.size == l.length && l.length != 0 then some (List.replicate n l).flatten else none
      | none => none
    | some (.struct fs) => if P.stoodInHeld t then none else eqFs P (eqK P d) 0 fs.toList
    | _ => none

theorem eqVs_split : ∀ {ks kr : List Nat} {A B : List Value} {r : Bool}, eqVs (ks ++ kr) A B = some r → ∃ r1 r2, eqVs ks (A.take ks.length) (B.take ks.length) = some r1 ∧ eqVs kr (A.drop ks.length) (B.drop ks.length) = some r2 ∧ r = (r1 && r2)
  | [], kr, A, B, r, h => ⟨true, r, by simp [eqVs], by simpa using h, by simp⟩
  | k :: ks, kr, [], B, r, h => by cases B <;> simp [eqVs] at h
  | k :: ks, kr, a :: A, [], r, h => by simp [eqVs] at h
  | k :: ks, kr, a :: A, b :: B, r, h => by
    simp only [List.cons_append, eqVs, Option.bind_eq_some_iff, Option.map_eq_some_iff] at h
    obtain ⟨x, hx, y, hy, rfl⟩ := h
    obtain ⟨r1, r2, h1, h2, rfl⟩ := eqVs_split hy
    exact ⟨x && r1, r2, by simp [eqVs, hx, h1], by simpa using h2, by simp [Bool.and_assoc]⟩
theorem eqVs_len : ∀ {ks : List Nat} {A B : List Value} {r : Bool}, eqVs ks A B = some r → A.length = ks.length ∧ B.length = ks.length
  | [], [], [], _, _ => ⟨rfl, rfl⟩
  | [], _ :: _, _, _, h => by simp [eqVs] at h
  | [], [], _ :: _, _, h => by simp [eqVs] at h
  | _ :: _, [], _, _, h => by simp [eqVs] at h
  | _ :: _, _ :: _, [], _, h => by simp [eqVs] at h
  | k :: ks, a :: A, b :: B, r, h => by
    simp only [eqVs, Option.bind_eq_some_iff, Option.map_eq_some_iff] at h
    obtain ⟨x, hx, y, hy, rfl⟩ := h
    obtain ⟨h1, h2⟩ := eqVs_len hy
    simp [h1, h2]

def isAggD (P : Program) (t : TypeId) : Bool := match P.underlying t with
  | some (.struct _) | some (.array _ _) => true
  | _ => false
/-- A value of a type has cells so. -/
def Shp (P : Program) (t : TypeId) (v : Value) (l : List Value) : Prop := if isAggD P t then v = .agg l.toArray else l = [v]

section
variable {P : Program}
def EqF (P : Program) (d : Nat) (t : TypeId) (ks : List Nat) : Prop := ∀ (w : World) (x y : Value) (A B : List Value) (r : Bool), Shp P t x A → Shp P t y B → eqVs ks A B = some r → (Op.equalIn d t x y).run P w = .ok r w

theorem part_shp {t : TypeId} {i : TypeInfo} {d : TypeDesc} (hi : P.info? t = some i) (hu : P.underlying t = some d) (hn : isAggD P t = true ∨ i.size = 1) {vs : Array Value} {off : Nat} (hle : off + i.size ≤ vs.size) (w : World) :
    ∃ v, (part t vs off).run P w = .ok v w ∧ Shp P t v ((vs.toList.drop off).take i.size) := by
  have h1 : (isAgg t).run P w = .ok (isAggD P t) w := by
    simp only [isAgg, Sem.run_bind, run_underlying hu, Result.andThen_ok, isAggD, hu]
    cases d <;> rfl
  have h2 : (sizeOf t).run P w = .ok i.size w := by simp [sizeOf, typeInfo, Sem.run_bind, run_program, hi]
  cases hb : isAggD P t with
  | true =>
    rw [hb] at h1
    refine ⟨.agg (vs.extract off (off + i.size)), by simp [part, Sem.run_bind, h1, h2], ?_⟩
    rw [Shp, hb, if_pos rfl]
    congr 1
    apply Array.ext'
    simp [List.take_drop]
  | false =>
    rw [hb] at h1
    have h3 : i.size = 1 := by simpa [hb] using hn
    have hlt : off < vs.size := by omega
    refine ⟨vs[off], by simp [part, Sem.run_bind, h1, Array.getElem?_eq_getElem hlt], ?_⟩
    rw [Shp, hb, h3]
    simp only [Bool.false_eq_true, if_false]
    rw [List.drop_eq_getElem_cons (by simpa using hlt)]
    simp

theorem eqK_size {m : Nat} {t : TypeId} {ks : List Nat} (h : eqK P m t = some ks) : isAggD P t = true ∨ ks.length = 1 := by
  cases m with
  | zero => simp [eqK] at h
  | succ m =>
    unfold eqK at h
    unfold isAggD
    cases hu : P.underlying t with
    | none => rw [hu] at h; cases h
    | some d =>
      rw [hu] at h
      cases d <;> first | (exact .inl rfl) | (cases h; exact .inr rfl) | cases h

theorem step_eq {d : Nat} {t : TypeId} {ks : List Nat} (IH : EqF P d t ks) {i : TypeInfo} (hi : P.info? t = some i) {u : TypeDesc} (hu : P.underlying t = some u) (hs : i.size = ks.length) (hz : isAggD P t = true ∨ ks.length = 1) {xs ys : Array Value} {off : Nat} {r : Bool}
    (hx : off + ks.length ≤ xs.size) (hy : off + ks.length ≤ ys.size) (h : eqVs ks ((xs.toList.drop off).take ks.length) ((ys.toList.drop off).take ks.length) = some r) (w : World) :
    ∃ a b, (part t xs off).run P w = .ok a w ∧ (part t ys off).run P w = .ok b w ∧ (Op.equalIn d t a b).run P w = .ok r w := by
  rw [← hs] at hz hx hy
  obtain ⟨a, h1, h2⟩ := part_shp hi hu hz hx w
  obtain ⟨b, h3, h4⟩ := part_shp hi hu hz hy w
  rw [hs] at h2 h4
  exact ⟨a, b, h1, h3, IH w a b _ _ r h2 h4 h⟩

theorem eqFields_flat {d m : Nat} (IH : ∀ t ks, eqK P m t = some ks → EqF P d t ks) {xs ys : Array Value} (w : World) : ∀ (fs : List Field) (off : Nat) (ks : List Nat) (r : Bool), eqFs P (eqK P m) off fs = some ks →
    eqVs ks (xs.toList.drop off) (ys.toList.drop off) = some r → (Op.eqFields d xs ys fs).run P w = .ok r w
  | [], off, ks, r, h, he => by
    cases h
    have : r = true := by
      cases hA : xs.toList.drop off <;> cases hB : ys.toList.drop off <;> rw [hA, hB] at he <;> simp [eqVs] at he
      exact he
    subst this
    rfl
  | f :: fs, off, ks, r, h, he => by
    simp only [eqFs, Option.bind_eq_some_iff] at h
    obtain ⟨l, hl, h⟩ := h
    cases hinf : P.info? f.type with
    | none => rw [hinf] at h; simp at h
    | some i =>
      rw [hinf] at h
      simp only at h
      split at h
      · rename_i hc
        rw [Bool.and_eq_true, Bool.and_eq_true, Bool.and_eq_true, bne_iff_ne, beq_iff_eq, beq_iff_eq, bne_iff_ne] at hc
        obtain ⟨⟨⟨hn, ho⟩, h0⟩, hi⟩ := hc
        obtain ⟨kr, hkr, rfl⟩ := Option.map_eq_some_iff.1 h
        obtain ⟨r1, r2, h1, h2, rfl⟩ := eqVs_split he
        obtain ⟨l1, l2⟩ := eqVs_len h1
        rw [List.drop_drop, List.drop_drop] at h2
        have hu : ∃ u, P.underlying f.type = some u := by
          cases hu : P.underlying f.type with
          | none =>
            cases m with
            | zero => simp [eqK] at hl
            | succ m => unfold eqK at hl; rw [hu] at hl; cases hl
          | some u => exact ⟨u, rfl⟩
        obtain ⟨u, hu⟩ := hu
        simp only [List.length_take, List.length_drop, Array.length_toList] at l1 l2
        obtain ⟨a, b, p1, p2, p3⟩ := step_eq (IH _ _ hl) hinf hu hi (eqK_size hl) (xs := xs) (ys := ys) (off := off) (by omega) (by omega) h1 w
        have ih := eqFields_flat IH (xs := xs) (ys := ys) w fs (off + l.length) kr r2 hkr h2
        simp only [Op.eqFields, hn, ne_eq, not_false_eq_true, if_true, Sem.run_bind, ho, p1, p2, p3, Result.andThen_ok]
        cases r1
        · simp
        · simpa using ih
      · cases h

theorem eqItems_flat {d : Nat} {e : TypeId} {l : List Nat} (IH : EqF P d e l) {i : TypeInfo} (hi : P.info? e = some i) {u : TypeDesc} (hu : P.underlying e = some u) (hs : i.size = l.length) (hz : isAggD P e = true ∨ l.length = 1) {c : Nat} (hc : c = l.length) (h0 : l.length ≠ 0)
    {xs ys : Array Value} (w : World) : ∀ (n j : Nat) (r : Bool), eqVs (List.replicate n l).flatten (xs.toList.drop (j * l.length)) (ys.toList.drop (j * l.length)) = some r → (Op.eqItems d e c xs ys (List.range' j n)).run P w = .ok r w
  | 0, j, r, h => by
    have : r = true := by
      cases hA : xs.toList.drop (j * l.length) <;> cases hB : ys.toList.drop (j * l.length) <;> rw [hA, hB] at h <;> simp [eqVs] at h
      exact h
    subst this
    simp [Op.eqItems]
  | n + 1, j, r, h => by
    subst hc
    rw [List.replicate_succ, List.flatten_cons] at h
    obtain ⟨r1, r2, h1, h2, rfl⟩ := eqVs_split h
    obtain ⟨l1, l2⟩ := eqVs_len h1
    simp only [List.length_take, List.length_drop, Array.length_toList] at l1 l2
    rw [List.drop_drop, List.drop_drop] at h2
    obtain ⟨a, b, p1, p2, p3⟩ := step_eq IH hi hu hs hz (xs := xs) (ys := ys) (off := j * l.length) (by omega) (by omega) h1 w
    have ih := eqItems_flat IH hi hu hs hz rfl h0 (xs := xs) (ys := ys) w n (j + 1) r2 (by rw [Nat.add_mul, Nat.one_mul]; exact h2)
    rw [List.range'_succ]
    simp only [Op.eqItems, Sem.run_bind, p1, p2, p3, Result.andThen_ok]
    cases r1
    · simp
    · simpa using ih

theorem equalIn_flat : ∀ (m : Nat) (t : TypeId) (ks : List Nat), eqK P m t = some ks → ∀ d, m ≤ d → EqF P d t ks
  | 0, _, _, h, _, _ => by simp [eqK] at h
  | m + 1, t, ks, h, 0, hd => absurd hd (by omega)
  | m + 1, t, ks, h, d + 1, hd => by
    intro w x y A B r hx hy he
    have IH : ∀ t ks, eqK P m t = some ks → EqF P d t ks := fun t ks h => equalIn_flat m t ks h d (by omega)
    unfold eqK at h
    unfold Shp isAggD at hx hy
    cases hu : P.underlying t with
    | none => rw [hu] at h; cases h
    | some u =>
      rw [hu] at h hx hy
      cases u <;> simp only [Option.some.injEq, reduceCtorEq] at h
      case int k =>
        subst h
        simp only [Bool.false_eq_true, if_false] at hx hy
        subst hx; subst hy
        cases x <;> cases y <;> simp [eqVs, eqV] at he
        rename_i k1 a k2 b
        obtain ⟨rfl, he⟩ := he
        rw [run_equalIn_int w d t k1 k a b hu]
        by_cases hab : a = b <;> simp_all
      case bool =>
        subst h
        simp only [Bool.false_eq_true, if_false] at hx hy
        subst hx; subst hy
        cases x <;> cases y <;> simp [eqVs, eqV] at he
        rename_i a b
        rw [run_equalIn_bool w d t a b hu]
        cases a <;> cases b <;> simp_all
      case string =>
        subst h
        simp only [Bool.false_eq_true, if_false] at hx hy
        subst hx; subst hy
        cases x <;> cases y <;> simp [eqVs, eqV] at he
        rename_i a b
        rw [run_equalIn_string w d t a b hu, he]
      case array n e =>
        simp only [if_true] at hx hy
        subst hx; subst hy
        obtain ⟨l, hl, h⟩ := Option.bind_eq_some_iff.1 h
        cases hinf : P.info? e with
        | none => rw [hinf] at h; cases h
        | some i =>
          rw [hinf] at h
          simp only at h
          split at h
          · rename_i hs
            rw [Bool.and_eq_true, beq_iff_eq, bne_iff_ne] at hs
            obtain ⟨hs, h0⟩ := hs
            cases h
            have hu' : ∃ u, P.underlying e = some u := by
              cases hue : P.underlying e with
              | none =>
                cases m with
                | zero => simp [eqK] at hl
                | succ m => unfold eqK at hl; rw [hue] at hl; cases hl
              | some u => exact ⟨u, rfl⟩
            obtain ⟨u, hue⟩ := hu'
            have hco : P.cellsOf e = l.length := by simp [Program.cellsOf, hinf, hs]
            rw [run_equalIn_array w d A.toArray B.toArray hu hinf, List.range_eq_range']
            exact eqItems_flat (IH e l hl) hinf hue hs (eqK_size hl) hco h0 (xs := A.toArray) (ys := B.toArray) w n 0 r (by simpa using he)
          · cases h
      case struct fs =>
        simp only [if_true] at hx hy
        subst hx; subst hy
        split at h
        · cases h
        · rename_i hp
          have hfo : P.fieldsOf t = fs := by simp [Program.fieldsOf, hu]
          rw [run_equalIn_struct w d t A.toArray B.toArray (by rw [hfo]; exact hu) (by simpa using hp), hfo]
          exact eqFields_flat IH (xs := A.toArray) (ys := B.toArray) w fs.toList 0 ks r h (by simpa using he)
end
end Go.Shade

/- Operations in compact form, what the quiet ones come to, and that they do. Own work. -/
namespace Go.Shade
open Go

inductive X where
  | t (n : Nat)
  | c (a : AV)
  | g (G : Nat)

def X.ev (Γ : Globs) (env : Nat → AV) : X → AV
  | .t n => env n
  | .c a => a
  | .g G => match Γ G with
    | some cs => .cptr cs
    | none => .junk

/-- Operations that came later: of their operands' values alone. -/
inductive EOp where
  | mslice (sz len : Nat) (lo hi : Bool)
  | copy (sz : Nat)
  | mks (sz bytes : Nat) (zero : List PV) (own : Bool)
  | mkz
  | slice3 (sz : Nat) (lo : Bool)
  | look (z : Value)
  | fnil (neg : Bool)
  | tassert (t : TypeId) (z : List PV)
  | sslice (lo hi : Bool)
  | toBys
  | bconv
  | feq (neg : Bool)
  | f64 (to : Bool)

inductive COp where
  | ext (e : EOp) (xs : List X)
  | mv (x : X)
  | pick (c a b : X)
  | bin (op : BinOp) (x y : X)
  | beq (neg : Bool) (x y : X)
  | eqs (neg : Bool) (ks : List Nat) (x y : X)
  | isnil (neg : Bool) (x : X)
  | un (op : UnOp) (x : X)
  | toInt (k : IntKind) (x : X)
  | toStr (x : X)
  | strId (x : X)
  | build (zero : List PV) (parts : List (Nat × Nat × X))
  | field (agg : Bool) (off n : Nat) (x : X)
  | index (agg : Bool) (len sz : Nat) (x i : X)
  | sindex (x i : X)
  | extract (i : Nat) (x : X)
  | len (x : X)
  | slen (x : X)
  | minmax (mx : Bool) (x y : X)
  | slice (sz : Nat) (x : X) (lo hi : Option X)
  | faddr (off : Nat) (x : X)
  | iaddrS (sz : Nat) (x i : X)
  | iaddrA (sz len : Nat) (x i : X)
  | mkfn (f : Fn) (first cap : List X)
  | mkif (t : TypeId) (x : X)
  | nilchk (x : X)
  | arrptr (n : Nat) (x : X)
  | load (agg : Bool) (n : Nat) (a : X)
  | store (n : Nat) (a x : X)
  | box (x : X)
  | alloc (zero : List PV)
  | bslice (sz len : Nat) (zero : List PV) (parts : List (Nat × X))
  | append (sz bytes : Nat) (zero : List PV) (s x : X)
  | aslice (sz len : Nat) (x : X) (lo hi : Option X)
  | call (f : X) (args : List X)
  | panic (x : X)

structure CO where
  dst : Option Nat
  op : COp
  guard : Option (Nat × Bool)

/-! ### From the model's operations -/
def AV.ofV : Value → AV
  | .agg cs => .agg (cs.toList.map fun v => .p (.s v))
  | v => .p (.s v)
def cX (N : Nat) : Operand → Option X
  | .tmp t => if t < N then some (.t t) else none
  | .const v => some (.c (AV.ofV v))
  | .global g => some (.g g)
  | .func f => some (.c (.fn (.func f) [] []))
def cXs (N : Nat) (l : List Operand) : Option (List X) := l.mapM (cX N)
def cXo (N : Nat) : Option Operand → Option (Option X)
  | none => some none
  | some x => (cX N x).map some
def isAggT (P : Program) (t : TypeId) : Bool := match P.underlying t with
  | some (.struct _) | some (.array _ _) => true
  | _ => false
def sizeT (P : Program) (t : TypeId) : Option Nat := match P.info? t, P.underlying t with
  | some i, some _ => some i.size
  | _, _ => none
def zeroT (P : Program) (t : TypeId) : Option (List PV) := (P.info? t).bind fun i => i.zero.map fun v => v.cells.toList.map PV.s
/-- '==' of structs and arrays of whole numbers, bools and strings. -/
def eqT (P : Program) (t : TypeId) : Option (List Nat) :=
  if isAggT P t && !P.eqGuardType P.depth t then eqK P 8 t else none

def cop (P : Program) (N : Nat) (o : Oper) : Option COp :=
  match o.op with
  | .move x | .assign x => do pure (.mv (← cX N x))
  | .pick c a b => do pure (.pick (← cX N c) (← cX N a) (← cX N b))
  | .binOp op t x y _ => do
    let x ← cX N x
    let y ← cX N y
    match op with
    | .eql | .neq => match P.underlying t with
      | some (.int _) | some .string => pure (.bin op x y)
      | some .bool => pure (.beq (op == .neq) x y)
      | some (.struct _) | some (.array _ _) => do pure (.eqs (op == .neq) (← eqT P t) x y)
      | _ => none
    | _ => pure (.bin op x y)
  | .unOp op _ x => do pure (.un op (← cX N x))
  | .convert src dst x => do
    let x ← cX N x
    match P.underlying src, P.underlying dst with
    | some (.int _), some (.int k) => pure (.toInt k x)
    | some (.slice e), some .string => if P.underlying e matches some (.int .u8) then pure (.toStr x) else none
    | some .string, some .string => pure (.strId x)
    | _, _ => none
  | .build t parts => do
    let zero ← zeroT P t
    match P.underlying t with
    | some (.struct fs) => do
      let ps ← parts.toList.mapM fun (i, x) => do
        let f ← fs[i]?
        pure (f.offset, ← sizeT P f.type, ← cX N x)
      if fs.toList.all fun f => (sizeT P f.type).isSome then pure (.build zero ps) else none
    | some (.array _ e) => do
      let sz ← sizeT P e
      let ps ← parts.toList.mapM fun (i, x) => do pure (i * sz, sz, ← cX N x)
      pure (.build zero ps)
    | _ => none
  | .field t x f => do
    let x ← cX N x
    match P.underlying t with
    | some (.struct fs) => do
      let f ← fs[f]?
      pure (.field (isAggT P f.type) f.offset (← sizeT P f.type) x)
    | _ => none
  | .index t x i => do
    let x ← cX N x
    let i ← cX N i
    match P.underlying t with
    | some (.array len e) => do pure (.index (isAggT P e) len (← sizeT P e) x i)
    | some .string => pure (.sindex x i)
    | _ => none
  | .extract x i => do pure (.extract i (← cX N x))
  | .slice t x lo hi none => do
    let x ← cX N x
    let lo ← cXo N lo
    let hi ← cXo N hi
    match P.underlying t with
    | some (.slice e) => do pure (.slice (← sizeT P e) x lo hi)
    | some (.array n e) => do pure (.aslice (← sizeT P e) n x lo hi)
    | _ => none
  | .fieldAddr t x f => do
    let x ← cX N x
    match P.underlying t with
    | some (.struct fs) => do
      let f ← fs[f]?
      let sz ← sizeT P f.type
      if sz = 0 then none else pure (.faddr f.offset x)
    | _ => none
  | .indexAddr t x i => do
    let x ← cX N x
    let i ← cX N i
    match P.underlying t with
    | some (.slice e) => do
      let sz ← sizeT P e
      if sz = 0 then none else pure (.iaddrS sz x i)
    | some (.array n e) => do pure (.iaddrA (← sizeT P e) n x i)
    | _ => none
  | .makeFunc fn first cap => do pure (.mkfn fn (← cXs N first.toList) (← cXs N cap.toList))
  | .makeInterface t x => do
    let x ← cX N x
    match P.underlying t with
    | some (.interface _) | none => none
    | _ => pure (.mkif t x)
  | .nilCheck x => do pure (.nilchk (← cX N x))
  | .sliceToArrayPointer t x => do
    let x ← cX N x
    match P.underlying t with
    | some (.array n _) => pure (.arrptr n x)
    | _ => none
  | .load t a => do pure (.load (isAggT P t) (← sizeT P t) (← cX N a))
  | .store t a x => do pure (.store (← sizeT P t) (← cX N a) (← cX N x))
  | .box _ x => do pure (.box (← cX N x))
  | .alloc t => do pure (.alloc (← zeroT P t))
  | .buildSlice t len parts => do
    match P.underlying t with
    | some (.slice e) => do
      let sz ← sizeT P e
      let zero ← zeroT P e
      if len * sz > 16777216 then none else
      let ps ← parts.toList.mapM fun (i, x) => do pure (i, ← cX N x)
      pure (.bslice sz len zero ps)
    | _ => none
  | .call { callee := .builtin b, args, argTypes } =>
    match b, args.toList, argTypes.toList with
    | .len, [x], [t] => do
      let x ← cX N x
      match P.underlying t with
      | some (.slice _) => pure (.len x)
      | some .string => pure (.slen x)
      | _ => none
    | .min, [x, y], _ => do pure (.minmax false (← cX N x) (← cX N y))
    | .max, [x, y], _ => do pure (.minmax true (← cX N x) (← cX N y))
    | .append, [s, x], [t, u] => do
      let s ← cX N s
      let x ← cX N x
      match P.underlying t with
      | some (.slice e) => do
        let i ← P.info? e
        match P.underlying u with
        | some (.slice _) | some .string => do pure (.append i.size i.bytes (← zeroT P e) s x)
        | _ => none
      | _ => none
    | _, _, _ => none
  | .call { callee := .value f, args, .. } => do pure (.call (← cX N f) (← cXs N args.toList))
  | .panic x => do pure (.panic (← cX N x))
  | _ => none

/-! ### From the model's operations: those that came later -/
def zeroV (P : Program) (t : TypeId) : Option Value := (P.info? t).bind fun i => i.zero
/-- Is it a function without a body that lays octets that are not noughts? -/
def isMkz (P : Program) (f : FuncId) : Bool := match P.funcs[f]? with
  | some fn => fn.name == "internal/bytealg.MakeNoZero" && fn.body.isNone && (match Extern.findNext fn with | none => true | _ => false) && (match fn.resultTypes[0]? with
    | some t => (match P.underlying t with
      | some (.slice _) => true
      | _ => false)
    | none => false)
  | none => false
/-- Is it the function without a body that tells a float's bits, or (to) the float of bits? -/
def isF64 (P : Program) (f : FuncId) (to : Bool) : Bool := match P.funcs[f]? with
  | some fn => fn.name == (if to then "math.Float64frombits" else "math.Float64bits") && fn.body.isNone && (match Extern.findNext fn with | none => true | _ => false)
  | none => false
def copX (P : Program) (N : Nat) (o : Oper) : Option COp :=
  match o.op with
  | .makeSlice t l c => match P.underlying t with
    | some (.slice e) => do
      let i ← P.info? e
      let l ← cX N l
      let c ← cX N c
      pure (.ext (.mks i.size i.bytes (← zeroT P e) false) [l, c])
    | _ => none
  | .slice t x lo hi mx => match P.underlying t, mx with
    | some (.slice e), some mx => match hi with
      | some hi => do
        let x ← cX N x
        let hi ← cX N hi
        let mx ← cX N mx
        let lo ← cXo N lo
        pure (.ext (.slice3 (← sizeT P e) lo.isSome) (x :: hi :: mx :: lo.toList))
      | none => none
    | some .string, none => do
        let x ← cX N x
        let lo ← cXo N lo
        let hi ← cXo N hi
        pure (.ext (.sslice lo.isSome hi.isSome) (x :: (lo.toList ++ hi.toList)))
    | _, _ => none
  | .lookup t x k false => match P.underlying t with
    | some (.map key elem) => match P.underlying key with
      | some (.int _) => do
        let x ← cX N x
        let k ← cX N k
        pure (.ext (.look (← zeroV P elem)) [x, k])
      | _ => none
    | _ => none
  | .typeAssert x _ t true => match P.underlying t with
    | some (.struct _) => match zeroV P t with
      | some (.agg cs) => do
        let x ← cX N x
        pure (.ext (.tassert t (cs.toList.map PV.s)) [x])
      | _ => none
    | _ => none
  | .binOp op t x (.const .nilFunc) _ => match op, P.underlying t with
    | .eql, some (.func _ _ _) => do pure (.ext (.fnil false) [← cX N x])
    | .neq, some (.func _ _ _) => do pure (.ext (.fnil true) [← cX N x])
    | _, _ => none
  | .binOp op t x y _ => match op, P.underlying t with
    | .eql, some (.float _) => do pure (.ext (.feq false) [← cX N x, ← cX N y])
    | .neq, some (.float _) => do pure (.ext (.feq true) [← cX N x, ← cX N y])
    | _, _ => none
  | .convert src dst x => match P.underlying src, P.underlying dst with
    | some .string, some (.slice e) => if P.underlying e matches some (.int .u8) then do pure (.ext .toBys [← cX N x]) else none
    | some (.slice e), some (.slice _) => if src = dst then (match P.underlying e with
      | some (.int .u8) => do pure (.ext .bconv [← cX N x])
      | _ => none) else none
    | _, _ => none
  | .call { callee := .builtin .copy, args, argTypes } => match args.toList, argTypes.toList with
    | [d, s], [dt, st] => match P.underlying dt with
      | some (.slice e) => match P.underlying st with
        | some (.slice _) | some .string => do
          let d ← cX N d
          let s ← cX N s
          pure (.ext (.copy (← sizeT P e)) [d, s])
        | _ => none
      | _ => none
    | _, _ => none
  | .call { callee := .value (.func f), args, .. } => match args.toList with
    | [n] => if isMkz P f then do pure (.ext .mkz [← cX N n]) else if isF64 P f false then do pure (.ext (.f64 false) [← cX N n]) else if isF64 P f true then do pure (.ext (.f64 true) [← cX N n]) else none
    | _ => none
  | _ => none
/-- What it is in the program's text. -/
def COp.er : COp → COp
  | .ext (.mslice sz ln false false) [x] => .aslice sz ln x none none
  | .ext (.mslice sz ln true false) [x, a] => .aslice sz ln x (some a) none
  | .ext (.mslice sz ln false true) [x, b] => .aslice sz ln x none (some b)
  | .ext (.mslice sz ln true true) [x, a, b] => .aslice sz ln x (some a) (some b)
  | .ext (.mks sz b z true) xs => .ext (.mks sz b z false) xs
  | c => c
def CO.er (o : CO) : CO := { o with op := o.op.er }

/-! ### What the quiet ones come to -/
def abin (op : BinOp) : Value → Value → Option Value
  | .int k a, .int k' b =>
    match op with
    | .shl => if b < 0 then none else some (.int k (k.wrap (a * 2 ^ (min b.toNat k.bits))))
    | .shr => if b < 0 then none else some (.int k (a.fdiv (2 ^ (min b.toNat k.bits))))
    | _ => if k ≠ k' then none else
      match op with
      | .add => some (.int k (k.wrap (a + b)))
      | .sub => some (.int k (k.wrap (a - b)))
      | .mul => some (.int k (k.wrap (a * b)))
      | .quo => if b = 0 then none else some (.int k (k.wrap (a.tdiv b)))
      | .rem => if b = 0 then none else some (.int k (a.tmod b))
      | .and => some (.int k (k.wrap (BitVec.ofInt k.bits a &&& BitVec.ofInt k.bits b).toNat))
      | .or => some (.int k (k.wrap (BitVec.ofInt k.bits a ||| BitVec.ofInt k.bits b).toNat))
      | .xor => some (.int k (k.wrap (BitVec.ofInt k.bits a ^^^ BitVec.ofInt k.bits b).toNat))
      | .andNot => some (.int k (k.wrap (BitVec.ofInt k.bits a &&& ~~~BitVec.ofInt k.bits b).toNat))
      | .eql => some (.bool (a == b))
      | .neq => some (.bool (a != b))
      | .lss => some (.bool (decide (a < b)))
      | .leq => some (.bool (decide (a ≤ b)))
      | .gtr => some (.bool (decide (a > b)))
      | .geq => some (.bool (decide (a ≥ b)))
      | _ => none
  | .string a, .string b =>
    match op with
    | .add => if a.size + b.size ≤ 281474976710656 then some (.string (a ++ b)) else none
    | .eql => some (.bool (a.toList == b.toList))
    | .neq => some (.bool !(a.toList == b.toList))
    | _ => none
  | _, _ => none
def aun (op : UnOp) : Value → Option Value
  | .bool b => match op with
    | .not => some (.bool !b)
    | _ => none
  | .int k n => match op with
    | .neg => some (.int k (k.wrap (0 - n)))
    | _ => none
  | _ => none

def AV.asSl (sz : Nat) : AV → Option (List (List PV))
  | .p (.sl sz' xs) => if sz' = sz then some xs else none
  | .own _ sz' xs => if sz' = sz then some xs else none
  | .p (.s (.slice none 0 0)) => some []
  | _ => none
def AV.lenOf : AV → Option Nat
  | .p (.sl _ xs) => some xs.length
  | .own _ _ xs => some xs.length
  | .p (.s (.slice none 0 0)) => some 0
  | .bsl _ _ _ n => some n
  | _ => none
def AV.asInt : AV → Option Int
  | .p (.s (.int _ n)) => some n
  | _ => none
def AV.asV : AV → Option Value
  | .p (.s v) => some v
  | _ => none
def byteOf : List PV → Option UInt8
  | [.s (.int .u8 n)] => if 0 ≤ n ∧ n < 256 then some (UInt8.ofNat n.toNat) else none
  | _ => none
def asBytes (xs : List (List PV)) : Option (List UInt8) := xs.mapM byteOf
/-- '==' cell by cell. -/
def eqAs : List Nat → List AV → List AV → Option Bool
  | [], [], [] => some true
  | k :: ks, a :: as, b :: bs => match a.asV, b.asV with
    | some x, some y => (eqV k x y).bind fun x => (eqAs ks as bs).map fun y => x && y
    | _, _ => none
  | _, _, _ => none
def eqsE (neg : Bool) (ks : List Nat) (a b : AV) : Option AV := match a, b with
  | .agg cs, .agg ds => (eqAs ks cs ds).map fun t => .p (.s (.bool (if neg then !t else t)))
  | _, _ => none
def AV.cells : AV → List AV
  | .agg cs => cs
  | a => [a]
def AV.oneCell : AV → Bool
  | .p (.s v) => v.oneCell'
  | .p (.sl _ _) | .own _ _ _ | .ptr _ _ | .cptr _ | .fn _ _ _ | .bsl _ _ _ _ | .cmap _ => true
  | _ => false
/-- A value with cells: one cell, or an aggregate. -/
def AV.celled (b : AV) : Bool := b.oneCell || match b with
  | .agg _ => true
  | _ => false
def fillA (cs : List AV) : List (Nat × List AV) → List AV
  | [] => cs
  | (off, l) :: r => fillA (cs.take off ++ l ++ cs.drop (off + l.length)) r
def subA (agg : Bool) (cs : List AV) (off n : Nat) : Option AV :=
  if agg then (if off + n ≤ cs.length then some (.agg ((cs.drop off).take n)) else none) else cs[off]?
def subP (agg : Bool) (cs : List PV) (n : Nat) : Option AV :=
  if agg then (if n ≤ cs.length then some (.agg ((cs.take n).map AV.p)) else none) else cs[0]?.map AV.p
def bounds (len : Nat) (lo hi : Option Int) : Option (Nat × Nat) :=
  let h := hi.getD len
  let l := lo.getD 0
  if 0 ≤ l ∧ l ≤ h ∧ h ≤ len then some (l.toNat, h.toNat) else none
def evO (Γ : Globs) (env : Nat → AV) : Option X → Option (Option Int)
  | none => some none
  | some x => (x.ev Γ env).asInt.map some

/-- A slice of a box, part of it; an element's place. -/
def bslO (sz : Nat) (a : AV) (lo hi : Option (Option Int)) : Option AV := match a with
  | .bsl b off s n => lo.bind fun lo => hi.bind fun hi => (bounds n lo hi).bind fun (l, h) => if s = sz ∧ (l = 0 ∨ l < n) then some (.bsl b (off + l * sz) sz (h - l)) else none
  | _ => none
def bslA (sz : Nat) (a : AV) (i : Option Int) : Option AV := match a, i with
  | .bsl b off s n, some i => if s = sz ∧ 0 ≤ i ∧ i < n then some (.ptr b (off + i.toNat * sz)) else none
  | _, _ => none
/-- A value of the model's as a function's value. -/
def AV.ofF : Value → AV
  | .func f x y => if x.size = 0 ∧ y.size = 0 then .fn f [] [] else .p (.s (.func f x y))
  | v => .p (.s v)
def keyIs (k : IntKind) : Value → Bool
  | .int j _ => decide (j = k)
  | _ => false
def findI (n : Int) : List (Value × Value) → Option Value
  | [] => none
  | (.int _ m, v) :: l => if m = n then some v else findI n l
  | _ :: l => findI n l
def lohi (lo hi : Bool) : List AV → Option (Option Int × Option Int)
  | [] => if !lo && !hi then some (none, none) else none
  | [a] => a.asInt.bind fun i => if lo && !hi then some (some i, none) else if !lo && hi then some (none, some i) else none
  | [a, b] => a.asInt.bind fun i => b.asInt.bind fun j => if lo && hi then some (some i, some j) else none
  | _ => none
def msliceE (sz ln : Nat) (lo hi : Bool) : List AV → Option AV
  | .ptr b off :: r => (lohi lo hi r).bind fun p => (bounds ln p.1 p.2).bind fun (l, h) => if (l = 0 ∨ l < ln) ∧ ln ≤ 281474976710656 then some (.bsl b (off + l * sz) sz (h - l)) else none
  | _ => none
def slice3E (sz : Nat) (lo : Bool) : List AV → Option AV
  | .bsl b off s n :: hi :: mx :: r => hi.asInt.bind fun h => mx.asInt.bind fun x => (lohi lo false r).bind fun p =>
      if s = sz ∧ 0 ≤ p.1.getD 0 ∧ p.1.getD 0 ≤ h ∧ h ≤ x ∧ x ≤ n ∧ (p.1.getD 0 = 0 ∨ p.1.getD 0 < x) then some (.bsl b (off + (p.1.getD 0).toNat * sz) sz (h - p.1.getD 0).toNat) else none
  | _ => none
def lookE (z : Value) : List AV → Option AV
  | [.cmap es, .p (.s (.int k n))] => if es.all (fun p => keyIs k p.1) then some (.ofF ((findI n es).getD z)) else none
  | _ => none
def fnilE (neg : Bool) : List AV → Option AV
  | [.fn _ _ _] => some (.bool neg)
  | [.p (.s .nilFunc)] => some (.bool !neg)
  | _ => none
def feqE (neg : Bool) : List AV → Option AV
  | [.p (.s (.float k a)), .p (.s (.float k' b))] => if k = k' then some (.bool (if neg then !(Op.floatEq k a b) else Op.floatEq k a b)) else none
  | _ => none
def f64E (to : Bool) : List AV → Option AV
  | [.p (.s (.float .f64 b))] => if to then none else some (.int .u64 b)
  | [.p (.s (.int .u64 n))] => if to then some (.p (.s (.float .f64 n.toNat))) else none
  | _ => none
def tassertE (t : TypeId) (z : List PV) : List AV → Option AV
  | [.p (.s (.iface u (.agg cs)))] => if u = t then some (.tup [.agg (cs.toList.map fun v => .p (.s v)), .bool true]) else some (.tup [.agg (z.map AV.p), .bool false])
  | [.p (.s .nilIface)] => some (.tup [.agg (z.map AV.p), .bool false])
  | _ => none
def ssliceE (lo hi : Bool) : List AV → Option AV
  | .p (.s (.string s)) :: r => (lohi lo hi r).bind fun p => (bounds s.size p.1 p.2).map fun (l, h) => .p (.s (.string (s.extract l h)))
  | _ => none
def ePure : EOp → List AV → Option AV
  | .mslice sz ln lo hi, vs => msliceE sz ln lo hi vs
  | .slice3 sz lo, vs => slice3E sz lo vs
  | .look z, vs => lookE z vs
  | .fnil neg, vs => fnilE neg vs
  | .feq neg, vs => feqE neg vs
  | .f64 to, vs => f64E to vs
  | .tassert t z, vs => tassertE t z vs
  | .sslice lo hi, vs => ssliceE lo hi vs
  | _, _ => none

def cpure (Γ : Globs) (env : Nat → AV) : COp → Option AV
  | .mv x => some (x.ev Γ env)
  | .pick c a b => match c.ev Γ env with
    | .p (.s (.bool t)) => some (if t then a.ev Γ env else b.ev Γ env)
    | _ => none
  | .bin op x y => match x.ev Γ env, y.ev Γ env with
    | .p (.s v), .p (.s u) => (abin op v u).map fun v => .p (.s v)
    | _, _ => none
  | .beq neg x y => match x.ev Γ env, y.ev Γ env with
    | .p (.s (.bool a)), .p (.s (.bool b)) => some (.bool (if neg then !(a == b) else a == b))
    | _, _ => none
  | .eqs neg ks x y => eqsE neg ks (x.ev Γ env) (y.ev Γ env)
  | .un op x => match x.ev Γ env with
    | .p (.s v) => (aun op v).map fun v => .p (.s v)
    | _ => none
  | .toInt k x => match x.ev Γ env with
    | .p (.s (.int _ n)) => some (.int k (k.wrap n))
    | _ => none
  | .toStr x => ((x.ev Γ env).asSl 1).bind fun xs => (asBytes xs).map fun bs => .p (.s (.string ⟨bs.toArray⟩))
  | .strId x => match x.ev Γ env with
    | .p (.s (.string s)) => some (.p (.s (.string s)))
    | _ => none
  | .field agg off n x => match x.ev Γ env with
    | .agg cs => subA agg cs off n
    | _ => none
  | .index agg len sz x i => match x.ev Γ env, (i.ev Γ env).asInt with
    | .agg cs, some i => if 0 ≤ i ∧ i < len then subA agg cs (i.toNat * sz) sz else none
    | _, _ => none
  | .sindex x i => match x.ev Γ env, (i.ev Γ env).asInt with
    | .p (.s (.string s)), some i => if 0 ≤ i ∧ i < s.size then some (.int .u8 ((s.data.toList.getD i.toNat 0).toNat)) else none
    | _, _ => none
  | .extract i x => match x.ev Γ env with
    | .tup l => l[i]?
    | _ => none
  | .len x => (x.ev Γ env).lenOf.map fun (n : Nat) => .int .i64 n
  | .slen x => match x.ev Γ env with
    | .p (.s (.string s)) => some (.int .i64 s.size)
    | _ => none
  | .minmax mx x y => match x.ev Γ env, y.ev Γ env with
    | .p (.s (.int k a)), .p (.s (.int _ b)) => some (.int k (if mx then (if b > a then b else a) else (if b < a then b else a)))
    | _, _ => none
  | .slice sz x lo hi => match bslO sz (x.ev Γ env) (evO Γ env lo) (evO Γ env hi) with
    | some r => some r
    | none => do
      let xs ← (x.ev Γ env).asSl sz
      let lo ← evO Γ env lo
      let hi' ← evO Γ env hi
      let (l, h) ← bounds xs.length lo hi'
      match x.ev Γ env, hi with
      | .own t _ _, none => some (.own t sz ((xs.take h).drop l))
      | _, _ => some (.p (.sl sz ((xs.take h).drop l)))
  | .faddr off x => match x.ev Γ env with
    | .ptr b o => some (.ptr b (o + off))
    | .cptr cs => some (.cptr (cs.drop off))
    | _ => none
  | .iaddrS sz x i => match bslA sz (x.ev Γ env) (i.ev Γ env).asInt with
    | some r => some r
    | none => match (x.ev Γ env).asSl sz, (i.ev Γ env).asInt with
      | some xs, some i => if 0 ≤ i ∧ i < xs.length then some (.cptr (xs.getD i.toNat [])) else none
      | _, _ => none
  | .iaddrA sz len x i => match x.ev Γ env, (i.ev Γ env).asInt with
    | .ptr b o, some i => if 0 ≤ i ∧ i < len then some (.ptr b (o + i.toNat * sz)) else none
    | .cptr cs, some i => if 0 ≤ i ∧ i < len then some (.cptr (cs.drop (i.toNat * sz))) else none
    | _, _ => none
  | .mkfn f first cap => some (.fn f (first.map (X.ev Γ env)) (cap.map (X.ev Γ env)))
  | .mkif t x => match x.ev Γ env with
    | .p (.s v) => some (.p (.s (.iface t v)))
    | .agg [] => some (.p (.s (.iface t (.agg #[]))))
    | _ => none
  | .nilchk x => match x.ev Γ env with
    | .ptr b o => some (.ptr b o)
    | .cptr cs => some (.cptr cs)
    | .fn (.func f) first cap => some (.fn (.func f) first cap)
    | _ => none
  | .load agg n a => match a.ev Γ env with
    | .cptr cs => subP agg cs n
    | _ => none
  | .build zero parts =>
    if parts.all fun (off, n, x) => (x.ev Γ env).celled && (x.ev Γ env).cells.length == n && decide (off + n ≤ zero.length) then
      some (.agg (fillA (zero.map AV.p) (parts.map fun (off, _, x) => (off, (x.ev Γ env).cells)))) else none
  | .arrptr n x => match x.ev Γ env with
    | .p (.sl _ xs) => if n ≤ xs.length ∧ 0 < xs.flatten.length then some (.cptr xs.flatten) else none
    | .own _ _ xs => if n ≤ xs.length ∧ 0 < xs.flatten.length then some (.cptr xs.flatten) else none
    | _ => none
  | .ext e xs => ePure e (xs.map (X.ev Γ env))
  | _ => none
end Go.Shade

/- The quiet operations do what 'cpure' says. Own work. -/
namespace Go.Shade
open Go

structure RelS (Γ : Globs) (N : Nat) (g : Gh) (w : World) (a : Act) (env : Nat → AV) (m : Mem) : Prop where
  rel : Rel Γ g w m
  size : a.tmps.size = N
  env : ∀ i v, a.tmps[i]? = some v → VR g w.heap (env i) v

theorem vr_ofV (g : Gh) (h : Array Obj) (v : Value) : VR g h (AV.ofV v) v := by
  cases v <;> try exact .p (.s _)
  rename_i cs
  refine .agg (by simp) (fun i a v ha hv => ?_)
  simp only [List.getElem?_map, Array.getElem?_toList, hv, Option.map_some, Option.some.injEq] at ha
  subst ha
  exact .p (.s _)

section
variable {P : Program} {N : Nat} {Γ : Globs} {g : Gh} {w : World} {a : Act} {env : Nat → AV} {m : Mem}

theorem cX_sound (hS : RelS Γ N g w a env m) {x : Operand} {x' : X} (hx : cX N x = some x') : VR g w.heap (x'.ev Γ env) (a.eval x) := by
  cases x with
  | tmp t =>
    simp only [cX] at hx
    split at hx
    · rename_i ht
      cases hx
      have ht' : t < a.tmps.size := by rw [hS.size]; exact ht
      have he : a.eval (.tmp t) = a.tmps[t] := by simp [Act.eval, Array.getD, ht']
      rw [he]
      exact hS.env t _ (Array.getElem?_eq_getElem ht')
    · cases hx
  | const v =>
    simp only [cX, Option.some.injEq] at hx
    subst hx
    exact vr_ofV _ _ _
  | global G =>
    simp only [cX, Option.some.injEq] at hx
    subst hx
    simp only [X.ev, Act.eval]
    cases hG : Γ G with
    | none => exact .junk
    | some cs =>
      obtain ⟨f, hp, hr⟩ := hS.rel.glob G cs hG
      exact .cptr f rfl hp hr
  | func f =>
    simp only [cX, Option.some.injEq] at hx
    subst hx
    exact .fn rfl (fun i a v h _ => by simp at h) rfl (fun i a v h _ => by simp at h)

theorem cXs_sound (hS : RelS Γ N g w a env m) : ∀ {l : List Operand} {l' : List X}, cXs N l = some l' → l'.length = l.length ∧ ∀ (i : Nat) (b : AV) (v : Value), (l'.map (X.ev Γ env))[i]? = some b → (l.map a.eval)[i]? = some v → VR g w.heap b v
  | [], l', h => by
    simp only [cXs, List.mapM_nil, pure, Option.some.injEq] at h
    subst h
    exact ⟨rfl, fun i b v h _ => by simp at h⟩
  | x :: l, l', h => by
    simp only [cXs, List.mapM_cons, bind, Option.bind_eq_some_iff, pure, Option.some.injEq] at h
    obtain ⟨x', hx, r, hr, rfl⟩ := h
    obtain ⟨h1, h2⟩ := cXs_sound hS (l := l) (l' := r) hr
    refine ⟨by simp [h1], fun i b v hb hv => ?_⟩
    cases i with
    | zero =>
      simp at hb hv
      subst hb; subst hv
      exact cX_sound hS hx
    | succ i =>
      simp at hb hv
      exact h2 i b v (by simpa using hb) (by simpa using hv)

/-! ### Shapes -/
theorem vr_s {v u : Value} (h : VR g w.heap (.p (.s v)) u) : u = v := by
  cases h with
  | p h => cases h; rfl
theorem vr_asSl {b : AV} {sz : Nat} {xs : List (List PV)} {v : Value} (h : VR g w.heap b v) (hs : b.asSl sz = some xs) : ∃ A n c, v = .slice A n c ∧ PR g.U w.heap (.sl sz xs) (.slice A n c) := by
  unfold AV.asSl at hs
  split at hs
  · split at hs
    · rename_i hsz
      subst hsz
      cases hs
      cases h with
      | p h => cases h with
        | sl f hn hc hm hcm hsz hp hr => exact ⟨_, _, _, rfl, .sl f hn hc hm hcm hsz hp hr⟩
    · cases hs
  · split at hs
    · rename_i hsz
      subst hsz
      cases hs
      cases h with
      | own h _ => exact ⟨_, _, _, rfl, h⟩
    · cases hs
  · cases hs
    have := vr_s h
    subst this
    exact ⟨none, 0, 0, rfl, .sl (fun _ => default) rfl (Nat.le_refl _) (by omega) (by simp) (fun _ h => by simp at h) (fun hl => by simp at hl) (fun j a h => by simp at h)⟩
  · cases hs
theorem vr_asInt {b : AV} {i : Int} {v : Value} (h : VR g w.heap b v) (hs : b.asInt = some i) : ∃ k, v = .int k i := by
  unfold AV.asInt at hs
  split at hs
  · cases hs
    exact ⟨_, vr_s h⟩
  · cases hs

/-! ### Flat lists of elements of one size -/
theorem flatten_length {α : Type} {sz : Nat} : ∀ {xs : List (List α)}, (∀ x ∈ xs, x.length = sz) → xs.flatten.length = xs.length * sz
  | [], _ => by simp
  | x :: xs, h => by
    rw [List.flatten_cons, List.length_append, h x (by simp), flatten_length (xs := xs) (fun y hy => h y (by simp [hy])), List.length_cons, Nat.add_mul, Nat.one_mul, Nat.add_comm]
theorem flatten_drop {α : Type} {sz : Nat} : ∀ {xs : List (List α)} (i : Nat), (∀ x ∈ xs, x.length = sz) → (xs.drop i).flatten = xs.flatten.drop (i * sz)
  | [], i, _ => by simp
  | x :: xs, 0, _ => by simp
  | x :: xs, i + 1, h => by
    have hx := h x (by simp)
    have h1 : x.drop ((i + 1) * sz) = [] := List.drop_eq_nil_of_le (by rw [hx, Nat.add_mul, Nat.one_mul]; omega)
    have h2 : (i + 1) * sz - x.length = i * sz := by rw [hx, Nat.add_mul, Nat.one_mul]; omega
    rw [List.drop_succ_cons, flatten_drop (xs := xs) i (fun y hy => h y (by simp [hy])), List.flatten_cons, List.drop_append, h1, h2, List.nil_append]
theorem flatten_take {α : Type} {sz : Nat} : ∀ {xs : List (List α)} (i : Nat), (∀ x ∈ xs, x.length = sz) → (xs.take i).flatten = xs.flatten.take (i * sz)
  | [], i, _ => by simp
  | x :: xs, 0, _ => by simp
  | x :: xs, i + 1, h => by
    have hx := h x (by simp)
    have h1 : x.take ((i + 1) * sz) = x := List.take_of_length_le (by rw [hx, Nat.add_mul, Nat.one_mul]; omega)
    have h2 : (i + 1) * sz - x.length = i * sz := by rw [hx, Nat.add_mul, Nat.one_mul]; omega
    rw [List.take_succ_cons, List.flatten_cons, flatten_take (xs := xs) i (fun y hy => h y (by simp [hy])), List.flatten_cons, List.take_append, h1, h2]
theorem flatten_at {α : Type} {sz : Nat} {xs : List (List α)} (h : ∀ x ∈ xs, x.length = sz) {i : Nat} (hi : i < xs.length) (d : List α) : xs.getD i d = (xs.flatten.drop (i * sz)).take sz := by
  rw [← flatten_drop i h, List.drop_eq_getElem_cons hi, List.flatten_cons, List.take_left' (h _ (List.getElem_mem hi)), List.getD_eq_getElem?_getD, List.getElem?_eq_getElem hi]
  rfl

theorem Place.cut {U : Nat → Option Nat} {h : Array Obj} {ad : Addr} {len : Nat} {f : Nat → Value} (hp : Place U h (some ad) len f) (hs : ad.spot = none) (off n : Nat) (hle : off + n ≤ len) : Place U h (some (ad.add off)) n (fun j => f (off + j)) := by
  intro hn
  obtain ⟨ad', vs, T, fr, u, he, _, hh, hu, hb, hv⟩ := hp (by omega)
  injection he with he
  subst he
  have ha : ad.add off = ⟨ad.block, ad.off + off, none⟩ := by
    unfold Addr.add
    split
    · rename_i h0; subst h0; cases ad; simp_all
    · rfl
  exact ⟨_, vs, T, fr, u, rfl, by rw [ha], by rw [ha]; exact hh, by rw [ha]; exact hu, by rw [ha]; simp only; omega, fun j hj => by
    rw [ha]
    have := hv (off + j) (by omega)
    simp only
    rwa [Nat.add_assoc]⟩

theorem add_spot {ad : Addr} (hs : ad.spot = none) (n : Nat) : ad.add n = ⟨ad.block, ad.off + n, none⟩ := by
  unfold Addr.add
  split
  · rename_i h0; subst h0; cases ad; simp_all
  · rfl
end
end Go.Shade

/- The quiet operations do what 'cpure' says: operation by operation. Own work. -/
namespace Go.Shade
open Go

section
variable {P : Program} {N : Nat} {Γ : Globs} {g : Gh} {w : World} {a : Act} {env : Nat → AV} {m : Mem} {o : Oper} {r : AV}

def Does (P : Program) (a : Act) (w : World) (o : Oper) (v : Value) : Prop := (execOp a.eval o).run P w = .ok (.value v) w

theorem abin_run {op : BinOp} {t : TypeId} {x y : Operand} {v u r' : Value} (h : abin op v u = some r') :
    (do eqGuard op t x y v u; binOp op t v u : Sem Value).run P w = .ok r' w := by
  unfold abin at h
  split at h
  · rename_i k n k' n'
    have hg : eqGuard op t x y (.int k n) (.int k' n') = pure () := by
      unfold eqGuard
      cases op <;> rfl
    rw [hg]
    simp only [Sem.run_bind, Sem.run_pure, Result.andThen_ok]
    split at h
    · split at h
      · cases h
      · rename_i hb; cases h; simp [binOp, Op.shift, hb]
    · split at h
      · cases h
      · rename_i hb; cases h; simp [binOp, Op.shift, hb]
    · rename_i h1 h2
      split at h
      · cases h
      · rename_i hk
        have hk' : k = k' := Classical.byContradiction hk
        subst hk'
        cases op <;> simp at h
        all_goals first | exact absurd rfl h1 | exact absurd rfl h2 | skip
        case add => subst h; simp [binOp, Op.intArith]
        case sub => subst h; simp [binOp, Op.intArith]
        case mul => subst h; simp [binOp, Op.intArith]
        case quo => obtain ⟨h0, rfl⟩ := h; simp [binOp, Op.intDiv, h0]
        case rem => obtain ⟨h0, rfl⟩ := h; simp [binOp, Op.intDiv, h0]
        case and => subst h; simp [binOp, Op.intBits]
        case or => subst h; simp [binOp, Op.intBits]
        case xor => subst h; simp [binOp, Op.intBits]
        case andNot => subst h; simp [binOp, Op.intBits]
        case eql => subst h; simp [binOp, Op.intCmp]
        case neq => subst h; simp [binOp, Op.intCmp]
        case lss => subst h; simp [binOp, Op.intCmp]
        case leq => subst h; simp [binOp, Op.intCmp]
        case gtr => subst h; simp [binOp, Op.intCmp]
        case geq => subst h; simp [binOp, Op.intCmp]
  · rename_i s1 s2
    have hg : eqGuard op t x y (.string s1) (.string s2) = pure () := by
      unfold eqGuard
      cases op <;> rfl
    rw [hg]
    simp only [Sem.run_bind, Sem.run_pure, Result.andThen_ok]
    cases op <;> simp at h
    case eql => subst h; simp [binOp, Op.stringOp]
    case neq => subst h; simp [binOp, Op.stringOp]
    case add =>
      obtain ⟨h1, rfl⟩ := h
      have : ((s1.size : Int) + s2.size) ≤ 9223372036854775807 := by omega
      simp [binOp, Op.stringOp, this]
  · cases h

theorem beq_run {op : BinOp} {t : TypeId} {x y : Operand} {b c : Bool} (hop : op = .eql ∨ op = .neq) (hu : P.underlying t = some .bool) :
    (do eqGuard op t x y (.bool b) (.bool c); binOp op t (.bool b) (.bool c) : Sem Value).run P w = .ok (.bool (if op == .neq then !(b == c) else b == c)) w := by
  have hg : eqGuard op t x y (.bool b) (.bool c) = pure () := by
    unfold eqGuard
    rcases hop with rfl | rfl <;> rfl
  have he : (Op.equal t (.bool b) (.bool c)).run P w = .ok (b == c) w := run_equalIn_bool' w 9999 t b c hu
  rw [hg]
  rcases hop with rfl | rfl <;> simp [binOp, he]

theorem aun_run {op : UnOp} {v r' : Value} (h : aun op v = some r') : (Op.unary op v).run P w = .ok r' w := by
  unfold aun at h
  split at h
  · cases op <;> simp at h
    subst h
    simp [Op.unary]
  · cases op <;> simp at h
    subst h
    simp [Op.unary, Op.intArith]
  · cases h

/-! ### A part of an aggregate -/
theorem sizeT_spec {t : TypeId} {n : Nat} (h : sizeT P t = some n) : ∃ i d, P.info? t = some i ∧ P.underlying t = some d ∧ i.size = n := by
  unfold sizeT at h
  split at h
  · rename_i i d hi hd
    cases h
    exact ⟨i, d, hi, hd, rfl⟩
  · cases h
theorem run_isAgg {t : TypeId} {d : TypeDesc} (hu : P.underlying t = some d) (W : World) : (isAgg t).run P W = .ok (isAggT P t) W := by
  unfold isAgg isAggT
  rw [Sem.run_bind, run_underlying hu W, hu]
  cases d <;> rfl
theorem run_sizeOf {t : TypeId} {n : Nat} (hn : sizeT P t = some n) (W : World) : (sizeOf t).run P W = .ok n W := by
  obtain ⟨i, d, hi, _, rfl⟩ := sizeT_spec hn
  simp [sizeOf, typeInfo, hi]
theorem vr_agg_sub {h : Array Obj} {cs : List AV} {vs : Array Value} (hl : cs.length ≤ vs.size) (hr : ∀ (i : Nat) (a : AV) (v : Value), cs[i]? = some a → vs[i]? = some v → VR g h a v)
    {off n : Nat} (hle : off + n ≤ cs.length) : VR g h (.agg ((cs.drop off).take n)) (.agg (vs.extract off (off + n))) := by
  refine .agg (by simp; omega) (fun i a v h1 h2 => ?_)
  rw [List.getElem?_take] at h1
  split at h1
  · rw [List.getElem?_drop] at h1
    rw [Array.getElem?_extract] at h2
    split at h2
    · exact hr (off + i) a v h1 h2
    · cases h2
  · cases h1
theorem part_run {t : TypeId} {n : Nat} (hn : sizeT P t = some n) {cs : List AV} {vs : Array Value} (hl : cs.length = vs.size) (hr : ∀ (i : Nat) (a : AV) (v : Value), cs[i]? = some a → vs[i]? = some v → VR g w.heap a v)
    {off : Nat} (h : subA (isAggT P t) cs off n = some r) : ∃ v, (part t vs off).run P w = .ok v w ∧ VR g w.heap r v := by
  obtain ⟨i, d, hi, hd, rfl⟩ := sizeT_spec hn
  have h1 := run_isAgg hd w
  unfold subA at h
  cases hb : isAggT P t with
  | true =>
    rw [hb] at h h1
    simp only [if_true] at h
    split at h
    · rename_i hle
      cases h
      exact ⟨_, by simp [part, Sem.run_bind, h1, run_sizeOf hn w], vr_agg_sub (Nat.le_of_eq hl) hr hle⟩
    · cases h
  | false =>
    rw [hb] at h h1
    simp only [Bool.false_eq_true, if_false] at h
    have hlt : off < vs.size := by rw [← hl]; exact (List.getElem?_eq_some_iff.1 h).1
    refine ⟨vs[off], ?_, hr off r _ h (Array.getElem?_eq_getElem hlt)⟩
    simp [part, Sem.run_bind, h1, Array.getElem?_eq_getElem hlt]

/-! ### Building an aggregate -/
def VRs (g : Gh) (h : Array Obj) (cs : List AV) (vs : Array Value) : Prop := cs.length = vs.size ∧ ∀ (i : Nat) (a : AV) (v : Value), cs[i]? = some a → vs[i]? = some v → VR g h a v

/-- Cells laid over others, as the model lays them. -/
theorem over_get (off : Nat) : ∀ (l : List Value) (s : Nat) (vs : Array Value), off + s + l.length ≤ vs.size →
    ((l.zipIdx s).foldl (fun cs (x : Value × Nat) => cs.setIfInBounds (off + x.2) x.1) vs).size = vs.size ∧
    ∀ i, ((l.zipIdx s).foldl (fun cs (x : Value × Nat) => cs.setIfInBounds (off + x.2) x.1) vs)[i]? = if off + s ≤ i ∧ i < off + s + l.length then l[i - (off + s)]? else vs[i]?
  | [], s, vs, _ => ⟨rfl, fun i => by rw [if_neg (by simp only [List.length_nil]; omega)]; rfl⟩
  | v :: l, s, vs, h => by
    simp only [List.length_cons] at h
    have hsz : (vs.setIfInBounds (off + s) v).size = vs.size := by simp
    obtain ⟨h1, h2⟩ := over_get off l (s + 1) (vs.setIfInBounds (off + s) v) (by rw [hsz]; omega)
    refine ⟨by rw [List.zipIdx_cons, List.foldl_cons]; exact h1.trans hsz, fun i => ?_⟩
    rw [List.zipIdx_cons, List.foldl_cons]
    refine (h2 i).trans ?_
    by_cases hi : off + (s + 1) ≤ i ∧ i < off + (s + 1) + l.length
    · rw [if_pos hi, if_pos (by simp only [List.length_cons]; omega), show i - (off + s) = (i - (off + (s + 1))) + 1 by omega, List.getElem?_cons_succ]
    · rw [if_neg hi]
      by_cases hi' : i = off + s
      · subst hi'
        rw [if_pos (by simp only [List.length_cons]; omega), Array.getElem?_setIfInBounds_self_of_lt (by omega)]
        simp
      · rw [if_neg (by simp only [List.length_cons]; omega), Array.getElem?_setIfInBounds_ne (Ne.symm hi')]

theorem vrs_over {h : Array Obj} {cs : List AV} {vs : Array Value} (hv : VRs g h cs vs) {off : Nat} {l : List AV} {lv : Array Value} (hl : VRs g h l lv) (hle : off + l.length ≤ cs.length) :
    VRs g h (cs.take off ++ l ++ cs.drop (off + l.length)) (lv.zipIdx.foldl (fun cs (x : Value × Nat) => cs.setIfInBounds (off + x.2) x.1) vs) := by
  have e : lv.zipIdx.foldl (fun cs (x : Value × Nat) => cs.setIfInBounds (off + x.2) x.1) vs = (lv.toList.zipIdx 0).foldl (fun cs (x : Value × Nat) => cs.setIfInBounds (off + x.2) x.1) vs := by
    rw [← Array.foldl_toList, Array.toList_zipIdx]
  have hll : lv.toList.length = l.length := by rw [Array.length_toList]; exact hl.1.symm
  obtain ⟨h1, h2⟩ := over_get off lv.toList 0 vs (by rw [hll, ← hv.1]; omega)
  rw [e]
  refine ⟨by rw [h1, ← hv.1]; simp; omega, fun i a v ha hvv => ?_⟩
  rw [h2 i, hll] at hvv
  by_cases hi : off + 0 ≤ i ∧ i < off + 0 + l.length
  · rw [if_pos hi] at hvv
    rw [List.append_assoc, List.getElem?_append_right (by simp; omega), List.length_take, Nat.min_eq_left (by omega), List.getElem?_append_left (by omega)] at ha
    exact hl.2 (i - off) a v ha (by simpa using hvv)
  · rw [if_neg hi] at hvv
    by_cases hlt : i < off
    · rw [List.append_assoc, List.getElem?_append_left (by simp; omega), List.getElem?_take, if_pos hlt] at ha
      exact hv.2 i a v ha hvv
    · rw [List.getElem?_append_right (by simp; omega), List.getElem?_drop] at ha
      refine hv.2 i a v ?_ hvv
      rw [← ha]
      congr 1
      simp
      omega

theorem vr_cells {h : Array Obj} {b : AV} {v : Value} (hr : VR g h b v) (hj : b.oneCell = true ∨ ∃ cs, b = .agg cs) : VRs g h b.cells v.cells := by
  rcases hj with hj | ⟨cs, rfl⟩
  · have h1 : v.cells = #[v] := by
      cases hr with
      | p hr => cases hr with
        | s v => cases v <;> simp [AV.oneCell, Value.oneCell'] at hj <;> rfl
        | sl => rfl
      | own => rfl
      | agg => simp [AV.oneCell] at hj
      | tup => simp [AV.oneCell] at hj
      | ptr => rfl
      | cptr => rfl
      | fn => rfl
      | bsl => rfl
      | cmap => rfl
      | junk => simp [AV.oneCell] at hj
    have h2 : b.cells = [b] := by cases b <;> first | rfl | simp [AV.oneCell] at hj
    rw [h1, h2]
    refine ⟨rfl, fun i a v' ha hv => ?_⟩
    cases i with
    | zero => simp at ha hv; subst ha; subst hv; exact hr
    | succ i => simp at ha
  · cases hr with
    | agg hl hr => exact ⟨hl, hr⟩

theorem celled_or {b : AV} (h : b.celled = true) : b.oneCell = true ∨ ∃ cs, b = .agg cs := by
  unfold AV.celled at h
  rcases Bool.or_eq_true _ _ ▸ h with h | h
  · exact .inl h
  · cases b <;> simp at h
    exact .inr ⟨_, rfl⟩

theorem fill_run {h : Array Obj} (place : Nat → Option (Nat × Nat)) : ∀ (parts : List (Nat × Value)) (ps : List (Nat × List AV)) (cs : List AV) (vs : Array Value), VRs g h cs vs →
    parts.length = ps.length → (∀ (i : Nat) p q, parts[i]? = some p → ps[i]? = some q → place p.1 = some (q.1, q.2.length) ∧ VRs g h q.2 p.2.cells ∧ q.1 + q.2.length ≤ cs.length) →
    ∃ vs', Instr.fill place vs parts = some vs' ∧ VRs g h (fillA cs ps) vs'
  | [], ps, cs, vs, hv, hl, _ => by
    have : ps = [] := List.eq_nil_of_length_eq_zero (by simpa using hl.symm)
    subst this
    exact ⟨vs, rfl, hv⟩
  | (i, v) :: parts, ps, cs, vs, hv, hl, hall => by
    cases ps with
    | nil => simp at hl
    | cons q ps =>
      obtain ⟨off, l⟩ := q
      obtain ⟨h1, h2, h3⟩ := hall 0 (i, v) (off, l) rfl rfl
      simp only at h1 h2 h3
      have hov := vrs_over hv h2 h3
      have hlen : (cs.take off ++ l ++ cs.drop (off + l.length)).length = cs.length := by simp; omega
      obtain ⟨vs', h4, h5⟩ := fill_run place parts ps _ _ hov (by simpa using hl) (fun j p q hp hq => by
        obtain ⟨k1, k2, k3⟩ := hall (j + 1) p q hp hq
        exact ⟨k1, k2, by rw [hlen]; exact k3⟩)
      refine ⟨vs', ?_, by rw [fillA]; exact h5⟩
      have hs : v.cells.size = l.length := h2.1.symm
      have hs2 : vs.size = cs.length := hv.1.symm
      rw [Instr.fill, h1]
      simp only [hs, hs2, ne_eq, not_true_eq_false, decide_false, Bool.false_or, decide_eq_true_eq, gt_iff_lt]
      rw [if_neg (by omega)]
      exact h4

theorem vrs_zero (h : Array Obj) {t : TypeId} {zero : List PV} (hz : zeroT P t = some zero) : ∃ i z, P.info? t = some i ∧ i.zero = some z ∧ VRs g h (zero.map AV.p) z.cells := by
  unfold zeroT at hz
  obtain ⟨i, hi, hz⟩ := Option.bind_eq_some_iff.1 hz
  obtain ⟨z, hz1, rfl⟩ := Option.map_eq_some_iff.1 hz
  refine ⟨i, z, hi, hz1, by simp, fun j a v ha hv => ?_⟩
  simp only [List.map_map, List.getElem?_map, Array.getElem?_toList, hv, Option.map_some, Option.some.injEq, Function.comp] at ha
  subst ha
  exact .p (.s _)

theorem vr_ptr {b off : Nat} {v : Value} (h : VR g w.heap (.ptr b off) v) : ∃ k, g.σ b = some k ∧ v = .pointer (some ⟨k, off, none⟩) := by
  cases h with
  | ptr hs => exact ⟨_, hs, rfl⟩
theorem vr_cptr {cs : List PV} {v : Value} (h : VR g w.heap (.cptr cs) v) : ∃ ad f, v = .pointer (some ad) ∧ ad.spot = none ∧ Place g.U w.heap (some ad) cs.length f ∧ ∀ (j : Nat) (a : PV), cs[j]? = some a → PR g.U w.heap a (f j) := by
  cases h with
  | cptr f hs hp hr => exact ⟨_, f, rfl, hs, hp, hr⟩
theorem vr_agg {cs : List AV} {v : Value} (h : VR g w.heap (.agg cs) v) : ∃ vs, v = .agg vs ∧ VRs g w.heap cs vs := by
  cases h with
  | agg hl hr => exact ⟨_, rfl, hl, hr⟩
theorem vr_tup {cs : List AV} {v : Value} (h : VR g w.heap (.tup cs) v) : ∃ vs, v = .tuple vs ∧ VRs g w.heap cs vs := by
  cases h with
  | tup hl hr => exact ⟨_, rfl, hl, hr⟩
theorem cptr_cut {cs : List PV} {ad : Addr} {f : Nat → Value} (hs : ad.spot = none) (hp : Place g.U w.heap (some ad) cs.length f) (hr : ∀ (j : Nat) (a : PV), cs[j]? = some a → PR g.U w.heap a (f j)) (off n : Nat) (hle : off + n ≤ cs.length ∨ cs.length ≤ off) :
    VR g w.heap (.cptr ((cs.drop off).take n)) (.pointer (some (ad.add off))) := by
  refine .cptr (fun j => f (off + j)) (by rw [add_spot hs]) ?_ (fun j a hj => ?_)
  · rcases hle with hle | hle
    · have : ((cs.drop off).take n).length = n := by simp; omega
      rw [this]
      exact hp.cut hs off n hle
    · intro h0
      simp at h0
      omega
  · rw [List.getElem?_take] at hj
    split at hj
    · rw [List.getElem?_drop] at hj
      exact hr _ _ hj
    · cases hj
theorem cptr_drop {cs : List PV} {ad : Addr} {f : Nat → Value} (hs : ad.spot = none) (hp : Place g.U w.heap (some ad) cs.length f) (hr : ∀ (j : Nat) (a : PV), cs[j]? = some a → PR g.U w.heap a (f j)) (off : Nat) :
    VR g w.heap (.cptr (cs.drop off)) (.pointer (some (ad.add off))) := by
  have h := cptr_cut (g := g) (w := w) hs hp hr off (cs.length - off) (by omega)
  rwa [List.take_of_length_le (by simp)] at h
theorem cptr_cells {cs : List PV} {ad : Addr} {f : Nat → Value} (hp : Place g.U w.heap (some ad) cs.length f) {n : Nat} (hn : n ≤ cs.length) : ∀ j v, ((List.range n).map f)[j]? = some v → w.cell? (ad.add j) = some v := by
  intro j v hj
  have hjn : j < n := by
    have := (List.getElem?_eq_some_iff.1 hj).1
    simpa using this
  have hv : v = f j := by simpa [hjn] using hj.symm
  subst hv
  obtain ⟨ad', vs, T, fr, u, he, hs, hh, _, hle, hv⟩ := hp (by omega)
  injection he with he
  subst he
  rw [add_spot hs]
  have := (hv j (by omega)).1
  simp [World.cell?, hh, this]
theorem run_loadCells_f {ad : Addr} {n : Nat} {f : Nat → Value} (h : ∀ j v, ((List.range n).map f)[j]? = some v → w.cell? (ad.add j) = some v) : (loadCells ad n).run P w = .ok ((List.range n).map f).toArray w := by
  have := run_loadCells_list (P := P) w ad ((List.range n).map f) h
  simpa using this
theorem cptr_load {t : TypeId} {n : Nat} (hn : sizeT P t = some n) {cs : List PV} {ad : Addr} {f : Nat → Value} (hp : Place g.U w.heap (some ad) cs.length f) (hr : ∀ (j : Nat) (a : PV), cs[j]? = some a → PR g.U w.heap a (f j))
    (h : subP (isAggT P t) cs n = some r) : ∃ v, (loadVar t ad).run P w = .ok v w ∧ VR g w.heap r v := by
  obtain ⟨i, d, hi, hd, rfl⟩ := sizeT_spec hn
  have h1 := run_isAgg hd w
  unfold subP at h
  cases hb : isAggT P t with
  | true =>
    rw [hb] at h h1
    simp only [if_true] at h
    split at h
    · rename_i hle
      cases h
      refine ⟨.agg ((List.range i.size).map f).toArray, by simp only [loadVar, Sem.run_bind, h1, Result.andThen_ok, if_true, run_sizeOf hn w, run_loadCells_f (cptr_cells hp hle), Sem.run_pure], .agg (by simp; omega) (fun j b v hj hv => ?_)⟩
      simp only [List.getElem?_map] at hj
      obtain ⟨x, hx, rfl⟩ := Option.map_eq_some_iff.1 hj
      rw [List.getElem?_take] at hx
      split at hx
      · rename_i hj'
        simp [hj'] at hv
        subst hv
        exact .p (hr j x hx)
      · cases hx
    · cases h
  | false =>
    rw [hb] at h h1
    simp only [Bool.false_eq_true, if_false] at h
    obtain ⟨x, hx, rfl⟩ := Option.map_eq_some_iff.1 h
    have hlt := (List.getElem?_eq_some_iff.1 hx).1
    have hc := cptr_cells (g := g) (w := w) hp (n := 1) (by omega) 0 (f 0) (by simp)
    rw [show ad.add 0 = ad from by simp [Addr.add]] at hc
    refine ⟨f 0, ?_, .p (hr 0 x hx)⟩
    have hld : (Go.load ad).run P w = .ok (f 0) w := by
      unfold Go.load
      simp only [Sem.run, hc]
    simp only [loadVar, Sem.run_bind, h1, Result.andThen_ok, Bool.false_eq_true, if_false, hld]
end
end Go.Shade

/- The quiet operations do what 'cpure' says: the whole. Own work. -/
namespace Go.Shade
open Go

section
variable {P : Program} {N : Nat} {Γ : Globs} {g : Gh} {w : World} {a : Act} {env : Nat → AV} {m : Mem} {o : Oper} {r : AV}

theorem evO_sound (hS : RelS Γ N g w a env m) {x : Option Operand} {x' : Option X} (hx : cXo N x = some x') {i : Option Int} (hi : evO Γ env x' = some i) :
    (i = none ∧ x = none) ∨ ∃ y k n, x = some y ∧ i = some n ∧ a.eval y = .int k n := by
  cases x with
  | none =>
    simp only [cXo, Option.some.injEq] at hx
    subst hx
    simp only [evO, Option.some.injEq] at hi
    exact .inl ⟨hi.symm, rfl⟩
  | some y =>
    simp only [cXo] at hx
    obtain ⟨y', hy, rfl⟩ := Option.map_eq_some_iff.1 hx
    simp only [evO] at hi
    obtain ⟨n, hn, rfl⟩ := Option.map_eq_some_iff.1 hi
    obtain ⟨k, hk⟩ := vr_asInt (cX_sound hS hy) hn
    exact .inr ⟨y, k, n, rfl, rfl, hk⟩

theorem run_sliceBound {k : IntKind} {i : Int} {y : Nat} {code : BoundsCode} (h0 : 0 ≤ i) (h1 : i ≤ y) (W : World) : (Instr.sliceBound (.int k i) y code).run P W = .ok i.toNat W := by
  simp [Instr.sliceBound, asIntOf, h0, h1]

theorem run_sliceBounds (hS : RelS Γ N g w a env m) {lo hi : Option Operand} {lo' hi' : Option X} (hlo : cXo N lo = some lo') (hhi : cXo N hi = some hi') {i j : Option Int} (hi1 : evO Γ env lo' = some i) (hi2 : evO Γ env hi' = some j)
    {len cap l h : Nat} (hb : bounds len i j = some (l, h)) (hc : len ≤ cap) (isS : Bool) (W : World) :
    (Instr.sliceBounds isS len cap (lo.map a.eval) (hi.map a.eval) none).run P W = .ok (l, h, cap) W ∧ l ≤ h ∧ h ≤ len := by
  unfold bounds at hb
  simp only at hb
  split at hb
  · rename_i hc3
    obtain ⟨h0, h1, h2⟩ := hc3
    simp only [Option.some.injEq, Prod.mk.injEq] at hb
    obtain ⟨rfl, rfl⟩ := hb
    refine ⟨?_, by omega, by omega⟩
    rcases evO_sound hS hlo hi1 with ⟨rfl, rfl⟩ | ⟨y, k, n, rfl, rfl, hy⟩ <;> rcases evO_sound hS hhi hi2 with ⟨rfl, rfl⟩ | ⟨y', k', n', rfl, rfl, hy'⟩
    · simp [Instr.sliceBounds]
    · simp only [Option.getD_some, Option.getD_none] at h0 h1 h2 ⊢
      simp [Instr.sliceBounds, hy', run_sliceBound (P := P) (k := k') (i := n') (y := cap) (by omega) (by omega)]
    · simp only [Option.getD_some, Option.getD_none] at h0 h1 h2 ⊢
      simp [Instr.sliceBounds, hy, run_sliceBound (P := P) (k := k) (i := n) (y := len) (by omega) (by omega)]
    · simp only [Option.getD_some] at h0 h1 h2 ⊢
      simp [Instr.sliceBounds, hy, hy', run_sliceBound (P := P) (k := k') (i := n') (y := cap) (by omega) (by omega), run_sliceBound (P := P) (k := k) (i := n) (y := n'.toNat) (by omega) (by omega)]
  · cases hb

/-- What a slice of a slice reads. -/
theorem pr_slice {U : Nat → Option Nat} {H : Array Obj} {sz : Nat} {xs : List (List PV)} {A : Option Addr} {n c l h : Nat} (hp : PR U H (.sl sz xs) (.slice A n c)) (hl : l ≤ h) (hh : h ≤ n) :
    PR U H (.sl sz ((xs.take h).drop l)) (.slice (if c = l then A else A.map (·.add (l * sz))) (h - l) (c - l)) := by
  cases hp with
  | sl f hn hc hm hcm hsz hp hr =>
    have hsz1 : ∀ x ∈ xs.take h, x.length = sz := fun x hx => hsz x (List.mem_of_mem_take hx)
    have hsz2 : ∀ x ∈ (xs.take h).drop l, x.length = sz := fun x hx => hsz1 x (List.mem_of_mem_drop hx)
    have hflat : ((xs.take h).drop l).flatten = (xs.flatten.take (h * sz)).drop (l * sz) := by
      rw [flatten_drop l hsz1, flatten_take h hsz]
    have hfl := flatten_length hsz
    have hfl2 := flatten_length hsz2
    have hlen : ((xs.take h).drop l).length = h - l := by simp; omega
    have hmul : l * sz + (h - l) * sz ≤ xs.flatten.length := by
      rw [hfl, ← Nat.add_mul]
      exact Nat.mul_le_mul_right _ (by omega)
    refine .sl (fun j => f (l * sz + j)) hlen (by omega) (by omega) (by omega) hsz2 ?_ (fun j b hj => ?_)
    · intro h0
      rw [hfl2, hlen] at h0 ⊢
      have hlt : 0 < (h - l) * sz := h0
      have hcl : ¬ c = l := by
        intro e
        have : h - l = 0 := by omega
        rw [this] at hlt
        simp at hlt
      rw [if_neg hcl]
      obtain ⟨ad, vs, T, fr, u, rfl, hs, hH, hU, hle, hv⟩ := hp (by omega)
      have hcut := Place.cut (U := U) (h := H) (ad := ad) (len := xs.flatten.length) (f := f) (fun hx => ⟨ad, vs, T, fr, u, rfl, hs, hH, hU, hle, hv⟩) hs (l * sz) ((h - l) * sz) hmul
      exact hcut hlt
    · rw [hflat, List.getElem?_drop, List.getElem?_take] at hj
      split at hj
      · exact hr _ _ hj
      · cases hj

theorem tok_slice {H : Array Obj} {t sz : Nat} {A : Option Addr} {n c l : Nat} (ht : TokR g H t sz A n c) (hl : l ≤ n) (hc : n ≤ c) :
    TokR g H t sz (if c = l then A else A.map (·.add (l * sz))) (n - l) (c - l) := by
  rcases ht with ⟨rfl, rfl, e, h4⟩ | ⟨ad, vs, T, fr, u, rfl, hs, hh, hu, hcap, hτ⟩
  · exact .inl ⟨by omega, by omega, e, h4⟩
  · by_cases hcl : c = l
    · exact .inl ⟨by omega, by omega, _, hτ⟩
    · rw [if_neg hcl]
      refine .inr ⟨ad.add (l * sz), vs, T, fr, u, rfl, by rw [add_spot hs], by rw [add_spot hs]; exact hh, by rw [add_spot hs]; exact hu, ?_, ?_⟩
      · rw [add_spot hs]
        simp only
        have : l * sz + (c - l) * sz = c * sz := by rw [← Nat.add_mul]; congr 1; omega
        omega
      · rw [add_spot hs, hτ]
        simp only
        have : l * sz + (n - l) * sz = n * sz := by rw [← Nat.add_mul]; congr 1; omega
        congr 3
        omega

theorem built_array {t e : TypeId} {n : Nat} (hu : P.underlying t = some (.array n e)) {zero : List PV} (hz : zeroT P t = some zero) {sz : Nat} (hsz : sizeT P e = some sz) (H : Array Obj) :
    ∃ vs, VRs g H (zero.map AV.p) vs ∧ ∀ parts, P.built t parts = Instr.fill (fun i => some (i * sz, sz)) vs parts := by
  obtain ⟨i, z, hi, hz1, hv⟩ := vrs_zero (g := g) H hz
  obtain ⟨ie, d, hie, _, rfl⟩ := sizeT_spec hsz
  exact ⟨z.cells, hv, fun parts => by simp [Program.built, hi, hu, hz1, hie]⟩
theorem places_map : ∀ (fs : List Field), (fs.all fun f => (sizeT P f.type).isSome) = true → ∃ pl, fs.mapM (fun f => (P.info? f.type).map fun i => (f.offset, i.size)) = some pl ∧ ∀ (i : Nat) f n, fs[i]? = some f → sizeT P f.type = some n → pl[i]? = some (f.offset, n)
  | [], _ => ⟨[], rfl, fun i f n h => by simp at h⟩
  | f :: fs, h => by
    simp only [List.all_cons, Bool.and_eq_true] at h
    obtain ⟨pl, h1, h2⟩ := places_map fs h.2
    obtain ⟨n, hn⟩ := Option.isSome_iff_exists.1 h.1
    obtain ⟨i, d, hi, _, rfl⟩ := sizeT_spec hn
    refine ⟨(f.offset, i.size) :: pl, by simp [List.mapM_cons, hi, h1], fun j f' n' hj hn' => ?_⟩
    cases j with
    | zero =>
      simp at hj
      subst hj
      rw [hn] at hn'
      cases hn'
      rfl
    | succ j => simpa using h2 j f' n' (by simpa using hj) hn'
theorem built_struct {t : TypeId} {fs : Array Field} (hu : P.underlying t = some (.struct fs)) {zero : List PV} (hz : zeroT P t = some zero) (ha : (fs.toList.all fun f => (sizeT P f.type).isSome) = true) (H : Array Obj) :
    ∃ vs place, VRs g H (zero.map AV.p) vs ∧ (∀ (i : Nat) f n, fs[i]? = some f → sizeT P f.type = some n → place i = some (f.offset, n)) ∧ ∀ parts, P.built t parts = Instr.fill place vs parts := by
  obtain ⟨i, z, hi, hz1, hv⟩ := vrs_zero (g := g) H hz
  obtain ⟨pl, h1, h2⟩ := places_map fs.toList ha
  exact ⟨z.cells, (pl.toArray[·]?), hv, fun j f n hj hn => by simpa using h2 j f n (by simpa using hj) hn, fun parts => by simp [Program.built, hi, hu, hz1, h1]⟩

theorem parts_get {γ : Type} {F : Nat × Operand → Option γ} : ∀ {l : List (Nat × Operand)} {ps : List γ}, l.mapM F = some ps → ps.length = l.length ∧ ∀ (i : Nat) x q, l[i]? = some x → ps[i]? = some q → F x = some q
  | [], ps, h => by
    simp only [List.mapM_nil, pure, Option.some.injEq] at h
    subst h
    exact ⟨rfl, fun i x q h => by simp at h⟩
  | y :: l, ps, h => by
    simp only [List.mapM_cons, bind, Option.bind_eq_some_iff, pure, Option.some.injEq] at h
    obtain ⟨q0, hq0, r, hr, rfl⟩ := h
    obtain ⟨h1, h2⟩ := parts_get hr
    refine ⟨by simp [h1], fun i x q hx hq => ?_⟩
    cases i with
    | zero => simp at hx hq; subst hx; subst hq; exact hq0
    | succ i => exact h2 i x q (by simpa using hx) (by simpa using hq)

theorem build_parts (hS : RelS Γ N g w a env m) {zero : List PV} {vs : Array Value} (hv : VRs g w.heap (zero.map AV.p) vs) {place : Nat → Option (Nat × Nat)} {parts : Array (Nat × Operand)} {ps : List (Nat × Nat × X)}
    (hl : ps.length = parts.toList.length) (hps : ∀ (i : Nat) x q, parts.toList[i]? = some x → ps[i]? = some q → place x.1 = some (q.1, q.2.1) ∧ cX N x.2 = some q.2.2)
    (hc : (ps.all fun (off, n, x) => (x.ev Γ env).celled && (x.ev Γ env).cells.length == n && decide (off + n ≤ zero.length)) = true) :
    ∃ vs', Instr.fill place vs (parts.map fun (i, x) => (i, a.eval x)).toList = some vs' ∧ VRs g w.heap (fillA (zero.map AV.p) (ps.map fun (off, _, x) => (off, (x.ev Γ env).cells))) vs' := by
  refine fill_run place _ _ _ _ hv (by simp [hl]) (fun i p q hp hq => ?_)
  simp only [Array.toList_map, List.getElem?_map] at hp hq
  obtain ⟨x, hx, rfl⟩ := Option.map_eq_some_iff.1 hp
  obtain ⟨y, hy, rfl⟩ := Option.map_eq_some_iff.1 hq
  obtain ⟨off, n, z⟩ := y
  obtain ⟨h1, h2⟩ := hps i x _ hx hy
  have h3 := List.all_eq_true.1 hc _ (List.mem_of_getElem? hy)
  simp only [Bool.and_eq_true, beq_iff_eq, decide_eq_true_eq] at h3
  obtain ⟨⟨h4, h5⟩, h6⟩ := h3
  refine ⟨by simp only [h1, h5], vr_cells (cX_sound hS h2) (celled_or h4), by simp only [List.length_map, h5]; exact h6⟩
end
end Go.Shade

/- The quiet operations do what 'cpure' says: the theorem. Own work. -/
namespace Go.Shade
open Go

section
variable {P : Program} {N : Nat} {Γ : Globs} {g : Gh} {w : World} {a : Act} {env : Nat → AV} {m : Mem} {o : Oper} {r : AV}

theorem exec_val {s : Sem Value} {v : Value} (hs : s.run P w = .ok v w) : (do pure (Next.value (← s)) : Sem Next).run P w = .ok (.value v) w := by
  rw [Sem.run_bind, hs]
  rfl

theorem does_move (hS : RelS Γ N g w a env m) {x : Operand} {x' : X} (ho : o.op = .move x ∨ o.op = .assign x) (hx : cX N x = some x') (hv : cpure Γ env (.mv x') = some r) : ∃ v, Does P a w o v ∧ VR g w.heap r v := by
  simp only [cpure, Option.some.injEq] at hv
  subst hv
  refine ⟨a.eval x, ?_, cX_sound hS hx⟩
  unfold Does execOp
  rcases ho with ho | ho <;> rw [ho] <;> rfl

theorem does_pick (hS : RelS Γ N g w a env m) {c x y : Operand} {c' x' y' : X} (ho : o.op = .pick c x y) (hc : cX N c = some c') (hx : cX N x = some x') (hy : cX N y = some y') (hv : cpure Γ env (.pick c' x' y') = some r) :
    ∃ v, Does P a w o v ∧ VR g w.heap r v := by
  simp only [cpure] at hv
  split at hv
  · rename_i t ht
    cases hv
    have hcv := cX_sound hS hc
    rw [ht] at hcv
    have hcv := vr_s hcv
    refine ⟨if t then a.eval x else a.eval y, ?_, ?_⟩
    · unfold Does execOp
      rw [ho]
      simp [hcv, asBool]
    · cases t
      · exact cX_sound hS hy
      · exact cX_sound hS hx
  · cases hv

theorem does_bin (hS : RelS Γ N g w a env m) {op : BinOp} {t u : TypeId} {x y : Operand} {x' y' : X} (ho : o.op = .binOp op t x y u) (hx : cX N x = some x') (hy : cX N y = some y') (hv : cpure Γ env (.bin op x' y') = some r) :
    ∃ v, Does P a w o v ∧ VR g w.heap r v := by
  simp only [cpure] at hv
  split at hv
  · rename_i v1 v2 h1 h2
    obtain ⟨v, hv1, rfl⟩ := Option.map_eq_some_iff.1 hv
    have hxv := cX_sound hS hx
    have hyv := cX_sound hS hy
    rw [h1] at hxv; rw [h2] at hyv
    have hxv := vr_s hxv
    have hyv := vr_s hyv
    refine ⟨v, ?_, .p (.s _)⟩
    unfold Does execOp
    simp only [ho, hxv, hyv]
    exact exec_val (abin_run hv1)
  · cases hv

theorem does_beq (hS : RelS Γ N g w a env m) {op : BinOp} {t u : TypeId} {x y : Operand} {x' y' : X} (ho : o.op = .binOp op t x y u) (hop : op = .eql ∨ op = .neq) (hu : P.underlying t = some .bool) (hx : cX N x = some x') (hy : cX N y = some y')
    (hv : cpure Γ env (.beq (op == .neq) x' y') = some r) : ∃ v, Does P a w o v ∧ VR g w.heap r v := by
  simp only [cpure] at hv
  split at hv
  · rename_i v1 v2 h1 h2
    cases hv
    have hxv := cX_sound hS hx
    have hyv := cX_sound hS hy
    rw [h1] at hxv; rw [h2] at hyv
    have hxv := vr_s hxv
    have hyv := vr_s hyv
    refine ⟨_, ?_, .p (.s _)⟩
    unfold Does execOp
    simp only [ho, hxv, hyv]
    exact exec_val (beq_run hop hu)
  · cases hv

theorem eqAs_vals {h : Array Obj} : ∀ {ks : List Nat} {cs ds : List AV} {xs ys : List Value} {t : Bool}, eqAs ks cs ds = some t → cs.length = xs.length → ds.length = ys.length →
    (∀ (i : Nat) a v, cs[i]? = some a → xs[i]? = some v → VR g h a v) → (∀ (i : Nat) a v, ds[i]? = some a → ys[i]? = some v → VR g h a v) → eqVs ks xs ys = some t
  | [], [], [], xs, ys, t, he, h1, h2, _, _ => by
    have e1 : xs = [] := List.eq_nil_of_length_eq_zero h1.symm
    have e2 : ys = [] := List.eq_nil_of_length_eq_zero h2.symm
    subst e1; subst e2
    simpa [eqAs, eqVs] using he
  | [], [], _ :: _, _, _, _, he, _, _, _, _ => by simp [eqAs] at he
  | [], _ :: _, _, _, _, _, he, _, _, _, _ => by simp [eqAs] at he
  | _ :: _, [], _, _, _, _, he, _, _, _, _ => by simp [eqAs] at he
  | _ :: _, _ :: _, [], _, _, _, he, _, _, _, _ => by simp [eqAs] at he
  | k :: ks, a :: cs, b :: ds, [], _, t, _, h1, _, _, _ => by simp at h1
  | k :: ks, a :: cs, b :: ds, _ :: _, [], t, _, _, h2, _, _ => by simp at h2
  | k :: ks, a :: cs, b :: ds, x :: xs, y :: ys, t, he, h1, h2, h3, h4 => by
    simp only [eqAs] at he
    have k1 := h3 0 a x rfl rfl
    have k2 := h4 0 b y rfl rfl
    split at he
    · rename_i u v hu hv
      have ea : a = .p (.s u) := by cases a <;> simp [AV.asV] at hu; rename_i p; cases p <;> simp at hu; rw [hu]
      have eb : b = .p (.s v) := by cases b <;> simp [AV.asV] at hv; rename_i p; cases p <;> simp at hv; rw [hv]
      subst ea; subst eb
      cases k1 with
      | p q1 =>
      cases k2 with
      | p q2 =>
      cases q1
      cases q2
      obtain ⟨r, hr, he⟩ := Option.bind_eq_some_iff.1 he
      obtain ⟨q, hq, rfl⟩ := Option.map_eq_some_iff.1 he
      have ih := eqAs_vals hq (by simpa using h1) (by simpa using h2) (fun i a v ha hv => h3 (i + 1) a v (by simpa using ha) (by simpa using hv)) (fun i a v ha hv => h4 (i + 1) a v (by simpa using ha) (by simpa using hv))
      simp [eqVs, hr, ih]
    · cases he
theorem does_eqs (hS : RelS Γ N g w a env m) {op : BinOp} {t u : TypeId} {x y : Operand} {x' y' : X} {ks : List Nat} (ho : o.op = .binOp op t x y u) (hop : op = .eql ∨ op = .neq) (hk : eqT P t = some ks) (hx : cX N x = some x') (hy : cX N y = some y')
    (hv : cpure Γ env (.eqs (op == .neq) ks x' y') = some r) : ∃ v, Does P a w o v ∧ VR g w.heap r v := by
  simp only [cpure, eqsE] at hv
  split at hv
  · rename_i cs ds h1 h2
    obtain ⟨q, hq, rfl⟩ := Option.map_eq_some_iff.1 hv
    have hxv := cX_sound hS hx
    have hyv := cX_sound hS hy
    rw [h1] at hxv; rw [h2] at hyv
    obtain ⟨xs, e1, l1, r1⟩ := vr_agg hxv
    obtain ⟨ys, e2, l2, r2⟩ := vr_agg hyv
    have he := eqAs_vals hq (xs := xs.toList) (ys := ys.toList) (by simpa using l1) (by simpa using l2) (fun i a v ha hv => r1 i a v ha (by simpa using hv)) (fun i a v ha hv => r2 i a v ha (by simpa using hv))
    unfold eqT at hk
    split at hk
    · rename_i hc
      rw [Bool.and_eq_true, Bool.not_eq_true'] at hc
      obtain ⟨hag, hgt⟩ := hc
      have hag : isAggD P t = true := hag
      have hE := equalIn_flat 8 t ks hk 10000 (by omega) w (.agg xs) (.agg ys) xs.toList ys.toList q (by rw [Shp, hag]; rfl) (by rw [Shp, hag]; rfl) he
      have hg := fun op => run_eqGuard_agg w op t x y xs ys hgt
      refine ⟨_, ?_, .p (.s _)⟩
      unfold Does execOp
      simp only [ho, e1, e2]
      refine exec_val ?_
      rw [Sem.run_bind, hg op, Result.andThen_ok]
      rcases hop with rfl | rfl
      · rw [run_eql_struct, hE]; rfl
      · rw [run_neq_struct, hE]; rfl
    · cases hk
  · cases hv

theorem does_un (hS : RelS Γ N g w a env m) {op : UnOp} {t : TypeId} {x : Operand} {x' : X} (ho : o.op = .unOp op t x) (hx : cX N x = some x') (hv : cpure Γ env (.un op x') = some r) : ∃ v, Does P a w o v ∧ VR g w.heap r v := by
  simp only [cpure] at hv
  split at hv
  · rename_i v1 h1
    obtain ⟨v, hv1, rfl⟩ := Option.map_eq_some_iff.1 hv
    have hxv := cX_sound hS hx
    rw [h1] at hxv
    have hxv := vr_s hxv
    refine ⟨v, ?_, .p (.s _)⟩
    unfold Does execOp
    simp only [ho, hxv]
    exact exec_val (aun_run hv1)
  · cases hv

theorem does_toInt (hS : RelS Γ N g w a env m) {s t : TypeId} {x : Operand} {x' : X} {k j : IntKind} (ho : o.op = .convert s t x) (hs : P.underlying s = some (.int j)) (ht : P.underlying t = some (.int k)) (hx : cX N x = some x')
    (hv : cpure Γ env (.toInt k x') = some r) : ∃ v, Does P a w o v ∧ VR g w.heap r v := by
  simp only [cpure] at hv
  split at hv
  · rename_i k1 n1 h1
    cases hv
    have hxv := cX_sound hS hx
    rw [h1] at hxv
    have hxv := vr_s hxv
    refine ⟨_, ?_, .p (.s _)⟩
    unfold Does execOp
    simp only [ho, hxv]
    exact exec_val (by simp [convert, run_underlying hs, run_underlying ht, Conv.intToInt])
  · cases hv

theorem does_strId (hS : RelS Γ N g w a env m) {s t : TypeId} {x : Operand} {x' : X} (ho : o.op = .convert s t x) (hs : P.underlying s = some .string) (ht : P.underlying t = some .string) (hx : cX N x = some x')
    (hv : cpure Γ env (.strId x') = some r) : ∃ v, Does P a w o v ∧ VR g w.heap r v := by
  simp only [cpure] at hv
  split at hv
  · rename_i s1 h1
    cases hv
    have hxv := cX_sound hS hx
    rw [h1] at hxv
    have hxv := vr_s hxv
    refine ⟨_, ?_, .p (.s _)⟩
    unfold Does execOp
    simp only [ho, hxv]
    exact exec_val (by simp [convert, run_underlying hs, run_underlying ht])
  · cases hv

/-- A slice of octets as its octets. -/
theorem bytes_flat : ∀ {xs : List (List PV)} {bs : List UInt8}, asBytes xs = some bs → xs.flatten = bs.map (fun b => PV.s (.int .u8 b.toNat)) ∧ xs.length = bs.length
  | [], bs, h => by
    simp only [asBytes, List.mapM_nil, pure, Option.some.injEq] at h
    subst h
    exact ⟨rfl, rfl⟩
  | x :: xs, bs, h => by
    simp only [asBytes, List.mapM_cons, bind, Option.bind_eq_some_iff, pure, Option.some.injEq] at h
    obtain ⟨b, hb, r, hr, rfl⟩ := h
    obtain ⟨h1, h2⟩ := bytes_flat (xs := xs) (bs := r) hr
    unfold byteOf at hb
    split at hb
    · split at hb
      · rename_i n hn
        cases hb
        refine ⟨?_, by simp [h2]⟩
        rw [List.flatten_cons, h1, List.map_cons, List.singleton_append]
        congr 3
        simp
        omega
      · cases hb
    · cases hb

theorem does_toStr (hS : RelS Γ N g w a env m) {s t e : TypeId} {x : Operand} {x' : X} (ho : o.op = .convert s t x) (hs : P.underlying s = some (.slice e)) (he : P.underlying e = some (.int .u8)) (ht : P.underlying t = some .string) (hx : cX N x = some x')
    (hv : cpure Γ env (.toStr x') = some r) : ∃ v, Does P a w o v ∧ VR g w.heap r v := by
  simp only [cpure] at hv
  obtain ⟨xs, hxs, hv⟩ := Option.bind_eq_some_iff.1 hv
  obtain ⟨bs, hbs, rfl⟩ := Option.map_eq_some_iff.1 hv
  obtain ⟨A, n, c, hev, hp⟩ := vr_asSl (cX_sound hS hx) hxs
  obtain ⟨hfl, hln⟩ := bytes_flat hbs
  refine ⟨.string ⟨bs.toArray⟩, ?_, .p (.s _)⟩
  unfold Does execOp
  simp only [ho, hev]
  refine exec_val ?_
  cases hp with
  | sl f hn hc hm hcm hsz hpl hr =>
    have hlen : xs.flatten.length = n := by rw [hfl, List.length_map, ← hln, hn]
    have hbn : bs.length = n := by omega
    cases A with
    | none =>
      have hn0 : n = 0 := by
        rcases Nat.eq_zero_or_pos n with h | h
        · exact h
        · obtain ⟨_, _, _, _, _, h', _⟩ := hpl (by omega)
          cases h'
      have : bs = [] := List.eq_nil_of_length_eq_zero (by omega)
      subst this
      rw [run_convert_bytes_nil w s e hs he n c t ht]
      rfl
    | some ad =>
      subst hbn
      refine run_convert_bytes_back w s t e ad c bs hs he ht (fun j hj => ?_)
      have hc2 := cptr_cells (g := g) (w := w) (cs := xs.flatten) hpl (n := bs.length) (by omega) j (f j) (by simp [hj])
      rw [hc2]
      have := hr j (PV.s (.int .u8 (bs[j]).toNat)) (by rw [hfl, List.getElem?_map, List.getElem?_eq_getElem hj]; rfl)
      generalize f j = q at this
      cases this
      rfl

theorem does_build (hS : RelS Γ N g w a env m) {t : TypeId} {parts : Array (Nat × Operand)} {zero : List PV} {ps : List (Nat × Nat × X)} (ho : o.op = .build t parts) (hz : zeroT P t = some zero)
    (hcase : (∃ fs, P.underlying t = some (.struct fs) ∧ (fs.toList.all fun f => (sizeT P f.type).isSome) = true ∧ parts.toList.mapM (fun (i, x) => do let f ← fs[i]?; pure (f.offset, ← sizeT P f.type, ← cX N x)) = some ps) ∨
      ∃ n e sz, P.underlying t = some (.array n e) ∧ sizeT P e = some sz ∧ parts.toList.mapM (fun (i, x) => do pure (i * sz, sz, ← cX N x)) = some ps)
    (hv : cpure Γ env (.build zero ps) = some r) : ∃ v, Does P a w o v ∧ VR g w.heap r v := by
  simp only [cpure] at hv
  split at hv
  · rename_i hc
    cases hv
    have key : ∃ vs', P.built t (parts.map fun (i, x) => (i, a.eval x)).toList = some vs' ∧ VRs g w.heap (fillA (zero.map AV.p) (ps.map fun (off, _, x) => (off, (x.ev Γ env).cells))) vs' := by
      rcases hcase with ⟨fs, hu, hall, hps⟩ | ⟨n, e, sz, hu, hsz, hps⟩
      · obtain ⟨vs, place, h1, h2, h3⟩ := built_struct (g := g) hu hz hall w.heap
        obtain ⟨hl, hget⟩ := parts_get hps
        obtain ⟨vs', h4, h5⟩ := build_parts hS h1 hl (place := place) (fun i x q hx hq => by
          have := hget i x q hx hq
          obtain ⟨xi, xo⟩ := x
          simp only [bind, Option.bind_eq_some_iff, pure, Option.some.injEq] at this
          obtain ⟨f, hf, n, hn, y, hy, rfl⟩ := this
          exact ⟨h2 _ f n hf hn, hy⟩) hc
        exact ⟨vs', by rw [h3]; exact h4, h5⟩
      · obtain ⟨vs, h1, h3⟩ := built_array (g := g) hu hz hsz w.heap
        obtain ⟨hl, hget⟩ := parts_get hps
        obtain ⟨vs', h4, h5⟩ := build_parts hS h1 hl (place := fun i => some (i * sz, sz)) (fun i x q hx hq => by
          have := hget i x q hx hq
          obtain ⟨xi, xo⟩ := x
          simp only [bind, Option.bind_eq_some_iff, pure, Option.some.injEq] at this
          obtain ⟨y, hy, rfl⟩ := this
          exact ⟨rfl, hy⟩) hc
        exact ⟨vs', by rw [h3]; exact h4, h5⟩
    obtain ⟨vs', h1, h2⟩ := key
    refine ⟨.agg vs', ?_, .agg h2.1 h2.2⟩
    unfold Does execOp
    simp only [ho]
    exact exec_val (run_build w t _ _ h1)
  · cases hv

theorem does_field (hS : RelS Γ N g w a env m) {t : TypeId} {x : Operand} {i : Nat} {fs : Array Field} {f : Field} {x' : X} {n : Nat} (ho : o.op = .field t x i) (hu : P.underlying t = some (.struct fs)) (hf : fs[i]? = some f) (hn : sizeT P f.type = some n)
    (hx : cX N x = some x') (hv : cpure Γ env (.field (isAggT P f.type) f.offset n x') = some r) : ∃ v, Does P a w o v ∧ VR g w.heap r v := by
  simp only [cpure] at hv
  split at hv
  · rename_i cs h1
    have hxv := cX_sound hS hx
    rw [h1] at hxv
    obtain ⟨vs, he, hvs⟩ := vr_agg hxv
    obtain ⟨v, h2, h3⟩ := part_run (P := P) hn hvs.1 hvs.2 hv
    refine ⟨v, ?_, h3⟩
    unfold Does execOp
    simp only [ho, he]
    exact exec_val (by simp [Instr.field, run_underlying hu, hf, asAgg, h2])
  · cases hv

theorem does_index (hS : RelS Γ N g w a env m) {t e : TypeId} {x i : Operand} {len n : Nat} {x' i' : X} (ho : o.op = .index t x i) (hu : P.underlying t = some (.array len e)) (hn : sizeT P e = some n)
    (hx : cX N x = some x') (hi : cX N i = some i') (hv : cpure Γ env (.index (isAggT P e) len n x' i') = some r) : ∃ v, Does P a w o v ∧ VR g w.heap r v := by
  simp only [cpure] at hv
  split at hv
  · rename_i cs j h1 h2
    split at hv
    · rename_i hj
      have hxv := cX_sound hS hx
      rw [h1] at hxv
      obtain ⟨vs, he, hvs⟩ := vr_agg hxv
      obtain ⟨k, hk⟩ := vr_asInt (cX_sound hS hi) h2
      obtain ⟨v, h3, h4⟩ := part_run (P := P) hn hvs.1 hvs.2 hv
      refine ⟨v, ?_, h4⟩
      unfold Does execOp
      simp only [ho, he, hk]
      exact exec_val (by simp [Instr.index, run_underlying hu, asIntOf, hj, run_sizeOf hn, h3])
    · cases hv
  · cases hv

theorem does_sindex (hS : RelS Γ N g w a env m) {t : TypeId} {x i : Operand} {x' i' : X} (ho : o.op = .index t x i) (hu : P.underlying t = some .string)
    (hx : cX N x = some x') (hi : cX N i = some i') (hv : cpure Γ env (.sindex x' i') = some r) : ∃ v, Does P a w o v ∧ VR g w.heap r v := by
  simp only [cpure] at hv
  split at hv
  · rename_i s j h1 h2
    split at hv
    · rename_i hj
      cases hv
      have hxv := cX_sound hS hx
      rw [h1] at hxv
      have hxv := vr_s hxv
      obtain ⟨k, hk⟩ := vr_asInt (cX_sound hS hi) h2
      refine ⟨_, ?_, .p (.s _)⟩
      unfold Does execOp
      simp only [ho, hxv, hk]
      have hjn : j.toNat < s.size := by omega
      have hjn' : j.toNat < s.data.toList.length := by rw [Array.length_toList]; exact hjn
      refine exec_val ?_
      have hg : s[j.toNat]? = some (s.data.toList.getD j.toNat 0) := by
        rw [List.getD_eq_getElem?_getD, List.getElem?_eq_getElem hjn', getElem?_pos s j.toNat hjn]
        rfl
      simp [Instr.index, run_underlying hu, asIntOf, hj.1, hg]
    · cases hv
  · cases hv

theorem does_extract (hS : RelS Γ N g w a env m) {x : Operand} {i : Nat} {x' : X} (ho : o.op = .extract x i) (hx : cX N x = some x') (hv : cpure Γ env (.extract i x') = some r) : ∃ v, Does P a w o v ∧ VR g w.heap r v := by
  simp only [cpure] at hv
  split at hv
  · rename_i l h1
    have hxv := cX_sound hS hx
    rw [h1] at hxv
    obtain ⟨vs, he, hvs⟩ := vr_tup hxv
    have hlt : i < vs.size := by rw [← hvs.1]; exact (List.getElem?_eq_some_iff.1 hv).1
    refine ⟨vs[i], ?_, hvs.2 i r _ hv (Array.getElem?_eq_getElem hlt)⟩
    unfold Does execOp
    simp only [ho, he]
    exact exec_val (by simp [Instr.extract, Array.getElem?_eq_getElem hlt])
  · cases hv
end
end Go.Shade

/- The quiet operations do what 'cpure' says: addresses, slices, builtins; all together. Own work. -/
namespace Go.Shade
open Go

section
variable {P : Program} {N : Nat} {Γ : Globs} {g : Gh} {w : World} {a : Act} {env : Nat → AV} {m : Mem} {o : Oper} {r : AV}

theorem exec_builtin {b : Builtin} {args : Array Operand} {ts : Array TypeId} (ho : o.op = .call { callee := .builtin b, args, argTypes := ts }) :
    ∃ cs, (execOp a.eval o).run P w = (builtin b ts o.type cs (args.map a.eval)).run P w := by
  refine ⟨args.map fun | .const _ => true | _ => false, ?_⟩
  unfold execOp
  simp only [ho, resolve, Sem.run_bind, Sem.run_pure, Result.andThen_ok, invoke]
  rfl

theorem vr_len {b : AV} {n : Nat} {v : Value} (h : VR g w.heap b v) (hs : b.lenOf = some n) : ∃ A c, v = .slice A n c := by
  unfold AV.lenOf at hs
  split at hs
  · cases hs
    cases h with
    | p h => cases h with
      | sl f hn _ _ _ _ _ _ => subst hn; exact ⟨_, _, rfl⟩
  · cases hs
    cases h with
    | own h _ => cases h with
      | sl f hn _ _ _ _ _ _ => subst hn; exact ⟨_, _, rfl⟩
  · cases hs
    exact ⟨none, 0, vr_s h⟩
  · cases hs
    cases h with
    | bsl => exact ⟨_, _, rfl⟩
  · cases hs

theorem vr_bsl {b off s n : Nat} {v : Value} (h : VR g w.heap (.bsl b off s n) v) : ∃ k c, g.σ b = some k ∧ v = .slice (some ⟨k, off, none⟩) n c ∧ n ≤ c ∧ c ≤ maxLen ∧ n ≤ 281474976710656 := by
  cases h with
  | bsl hs hn hc hm => exact ⟨_, _, hs, rfl, hn, hc, hm⟩

theorem list1 {α : Type} {l : Array α} {x : α} (h : l.toList = [x]) : l = #[x] := by apply Array.ext'; simpa using h
theorem list2 {α : Type} {l : Array α} {x y : α} (h : l.toList = [x, y]) : l = #[x, y] := by apply Array.ext'; simpa using h

theorem does_len (hS : RelS Γ N g w a env m) {t e : TypeId} {args : Array Operand} {ts : Array TypeId} {x : Operand} {x' : X} (ho : o.op = .call { callee := .builtin .len, args, argTypes := ts }) (ha : args.toList = [x]) (ht : ts.toList = [t])
    (hu : P.underlying t = some (.slice e)) (hx : cX N x = some x') (hv : cpure Γ env (.len x') = some r) : ∃ v, Does P a w o v ∧ VR g w.heap r v := by
  simp only [cpure] at hv
  obtain ⟨n, hn, rfl⟩ := Option.map_eq_some_iff.1 hv
  obtain ⟨A, c, he⟩ := vr_len (cX_sound hS hx) hn
  have ha := list1 ha
  have ht := list1 ht
  subst ha; subst ht
  refine ⟨.int .i64 n, ?_, .p (.s _)⟩
  obtain ⟨cs, hcs⟩ := exec_builtin (P := P) (a := a) (w := w) ho
  unfold Does
  rw [hcs]
  simp [builtin, he, Builtin.len_, run_underlying hu, goInt]

theorem does_slen (hS : RelS Γ N g w a env m) {t : TypeId} {args : Array Operand} {ts : Array TypeId} {x : Operand} {x' : X} (ho : o.op = .call { callee := .builtin .len, args, argTypes := ts }) (ha : args.toList = [x]) (ht : ts.toList = [t])
    (hu : P.underlying t = some .string) (hx : cX N x = some x') (hv : cpure Γ env (.slen x') = some r) : ∃ v, Does P a w o v ∧ VR g w.heap r v := by
  simp only [cpure] at hv
  split at hv
  · rename_i s h1
    cases hv
    have hxv := cX_sound hS hx
    rw [h1] at hxv
    have he := vr_s hxv
    have ha := list1 ha
    have ht := list1 ht
    subst ha; subst ht
    refine ⟨.int .i64 s.size, ?_, .p (.s _)⟩
    obtain ⟨cs, hcs⟩ := exec_builtin (P := P) (a := a) (w := w) ho
    unfold Does
    rw [hcs]
    simp [builtin, he, Builtin.len_, run_underlying hu, goInt]
  · cases hv

theorem does_minmax (hS : RelS Γ N g w a env m) {mx : Bool} {args : Array Operand} {ts : Array TypeId} {x y : Operand} {x' y' : X} (ho : o.op = .call { callee := .builtin (if mx then .max else .min), args, argTypes := ts }) (ha : args.toList = [x, y])
    (hx : cX N x = some x') (hy : cX N y = some y') (hv : cpure Γ env (.minmax mx x' y') = some r) : ∃ v, Does P a w o v ∧ VR g w.heap r v := by
  simp only [cpure] at hv
  split at hv
  · rename_i k b j c h1 h2
    cases hv
    have hxv := cX_sound hS hx
    have hyv := cX_sound hS hy
    rw [h1] at hxv; rw [h2] at hyv
    have hxv := vr_s hxv
    have hyv := vr_s hyv
    have ha := list2 ha
    subst ha
    refine ⟨_, ?_, .p (.s _)⟩
    obtain ⟨cs, hcs⟩ := exec_builtin (P := P) (a := a) (w := w) ho
    unfold Does
    rw [hcs]
    cases mx
    · simp [builtin, hxv, hyv, Builtin.min_, Builtin.min2]
    · simp [builtin, hxv, hyv, Builtin.max_, Builtin.max2]
  · cases hv

theorem does_slice (hS : RelS Γ N g w a env m) {t e : TypeId} {x : Operand} {lo hi : Option Operand} {x' : X} {lo' hi' : Option X} {sz : Nat} (ho : o.op = .slice t x lo hi none) (hu : P.underlying t = some (.slice e)) (hsz : sizeT P e = some sz)
    (hx : cX N x = some x') (hlo : cXo N lo = some lo') (hhi : cXo N hi = some hi') (hv : cpure Γ env (.slice sz x' lo' hi') = some r) : ∃ v, Does P a w o v ∧ VR g w.heap r v := by
  simp only [cpure] at hv
  split at hv
  · rename_i r' hb
    cases hv
    unfold bslO at hb
    split at hb
    · rename_i b off s n hev
      simp only [Option.bind_eq_some_iff] at hb
      obtain ⟨i, hi1, j, hj1, ⟨l, h⟩, hb, hr⟩ := hb
      simp only at hr
      split at hr
      · rename_i hc
        cases hr
        obtain ⟨rfl, hl0⟩ := hc
        have hxv := cX_sound hS hx
        rw [hev] at hxv
        obtain ⟨k, c, hk, he, hnc, hcm, hm⟩ := vr_bsl hxv
        obtain ⟨hrun, hlh, hhn⟩ := run_sliceBounds (P := P) hS hlo hhi hi1 hj1 hb hnc true w
        refine ⟨.slice (some ⟨k, off + l * s, none⟩) (h - l) (c - l), ?_, .bsl hk (by omega) (by omega) (by omega)⟩
        unfold Does execOp
        simp only [ho, he]
        refine exec_val ?_
        simp only [Instr.sliceAt, Sem.run_bind, run_underlying hu, Result.andThen_ok, Instr.slice]
        have hadr : (if c = l then (some ⟨k, off, none⟩ : Option Addr) else (some ⟨k, off, none⟩ : Option Addr).map (·.add (l * s))) = some ⟨k, off + l * s, none⟩ := by
          split
          · rename_i hcl
            have : l = 0 := by omega
            subst this
            simp
          · simp only [Option.map_some]; rw [add_spot rfl]
        simp only [Option.map_some] at hadr
        simp [hrun, run_sizeOf hsz, hadr]
      · cases hr
    · cases hb
  rename_i hno0
  clear hno0
  simp only [bind, Option.bind_eq_some_iff] at hv
  obtain ⟨xs, hxs, i, hi1, j, hj1, ⟨l, h⟩, hb, hv⟩ := hv
  obtain ⟨A, n, c, he, hp⟩ := vr_asSl (cX_sound hS hx) hxs
  have hnc : xs.length = n ∧ n ≤ c := by cases hp with | sl f hn hc _ _ _ _ _ => exact ⟨hn, hc⟩
  obtain ⟨hn, hc⟩ := hnc
  rw [hn] at hb
  obtain ⟨hrun, hlh, hhn⟩ := run_sliceBounds (P := P) hS hlo hhi hi1 hj1 hb hc true w
  have hps := pr_slice (sz := sz) hp hlh hhn
  refine ⟨.slice (if c = l then A else A.map (·.add (l * sz))) (h - l) (c - l), ?_, ?_⟩
  · unfold Does execOp
    simp only [ho, he]
    refine exec_val ?_
    simp only [Instr.sliceAt, Sem.run_bind, run_underlying hu, Result.andThen_ok, Instr.slice]
    simp [hrun, run_sizeOf hsz]
  · split at hv
    · rename_i tk sz' xs' hev
      cases hv
      have hxv := cX_sound hS hx
      rw [hev, he] at hxv
      cases hxv with
      | own h1 h2 =>
        have hhn' : h = n := by
          simp only [evO, Option.some.injEq] at hj1
          subst hj1
          unfold bounds at hb
          simp only [Option.getD_none] at hb
          split at hb
          · simp at hb; omega
          · cases hb
        subst hhn'
        have hsz' : sz' = sz := by
          rw [hev] at hxs
          simp only [AV.asSl] at hxs
          split at hxs
          · assumption
          · cases hxs
        subst hsz'
        exact .own hps (tok_slice h2 hlh hc)
    · cases hv
      exact .p hps

theorem does_faddr (hS : RelS Γ N g w a env m) {t : TypeId} {x : Operand} {i n : Nat} {fs : Array Field} {f : Field} {x' : X} (ho : o.op = .fieldAddr t x i) (hu : P.underlying t = some (.struct fs)) (hf : fs[i]? = some f) (hn : sizeT P f.type = some n) (h0 : n ≠ 0)
    (hx : cX N x = some x') (hv : cpure Γ env (.faddr f.offset x') = some r) : ∃ v, Does P a w o v ∧ VR g w.heap r v := by
  simp only [cpure] at hv
  have hrun : ∀ ad : Addr, (Instr.fieldAt t (.pointer (some ad)) i).run P w = .ok (.pointer (some (ad.add f.offset))) w := fun ad => by
    simp [Instr.fieldAt, run_underlying hu, hf, Instr.sureAddr, fieldPlace, run_sizeOf hn, h0]
  split at hv
  · rename_i b off h1
    cases hv
    have hxv := cX_sound hS hx
    rw [h1] at hxv
    obtain ⟨k, hk, he⟩ := vr_ptr hxv
    refine ⟨_, ?_, .ptr (off := off + f.offset) hk⟩
    unfold Does execOp
    simp only [ho, he]
    refine exec_val ?_
    rw [hrun, add_spot rfl]
  · rename_i cs h1
    cases hv
    have hxv := cX_sound hS hx
    rw [h1] at hxv
    obtain ⟨ad, q, he, hs, hp, hr⟩ := vr_cptr hxv
    refine ⟨_, ?_, cptr_drop hs hp hr f.offset⟩
    unfold Does execOp
    simp only [ho, he]
    exact exec_val (hrun ad)
  · cases hv

theorem does_iaddrS (hS : RelS Γ N g w a env m) {t e : TypeId} {x i : Operand} {sz : Nat} {x' i' : X} (ho : o.op = .indexAddr t x i) (hu : P.underlying t = some (.slice e)) (hn : sizeT P e = some sz) (h0 : sz ≠ 0)
    (hx : cX N x = some x') (hi : cX N i = some i') (hv : cpure Γ env (.iaddrS sz x' i') = some r) : ∃ v, Does P a w o v ∧ VR g w.heap r v := by
  simp only [cpure] at hv
  split at hv
  · rename_i r' hb
    cases hv
    unfold bslA at hb
    split at hb
    · rename_i b off s n j hev h2
      split at hb
      · rename_i hc
        cases hb
        obtain ⟨rfl, hj0, hjn⟩ := hc
        have hxv := cX_sound hS hx
        rw [hev] at hxv
        obtain ⟨k, c, hk, he, hnc, hcm, hm⟩ := vr_bsl hxv
        obtain ⟨kd, hkd⟩ := vr_asInt (cX_sound hS hi) h2
        refine ⟨.pointer (some ⟨k, off + j.toNat * s, none⟩), ?_, .ptr hk⟩
        unfold Does execOp
        simp only [ho, he, hkd]
        refine exec_val ?_
        simp [Instr.indexAt, asIntOf, run_underlying hu, hj0, hjn, run_sizeOf hn, add_spot]
      · cases hb
    · cases hb
  rename_i hno0
  clear hno0
  split at hv
  · rename_i xs j h1 h2
    split at hv
    · rename_i hj
      cases hv
      obtain ⟨A, n, c, he, hp⟩ := vr_asSl (cX_sound hS hx) h1
      obtain ⟨k, hk⟩ := vr_asInt (cX_sound hS hi) h2
      cases hp with
      | sl f hln hc hm hcm hsz hpl hr =>
        have hfl := flatten_length hsz
        have hjl : j.toNat < xs.length := by omega
        have hmul : j.toNat * sz + sz ≤ xs.flatten.length := by
          rw [hfl, ← Nat.succ_mul]
          exact Nat.mul_le_mul_right _ (by omega)
        obtain ⟨ad, vs, T, fr, u, rfl, hs, hH, hU, hle, hvv⟩ := hpl (by omega)
        have hpl' : Place g.U w.heap (some ad) xs.flatten.length f := fun _ => ⟨ad, vs, T, fr, u, rfl, hs, hH, hU, hle, hvv⟩
        rw [flatten_at hsz hjl]
        refine ⟨_, ?_, cptr_cut hs hpl' hr (j.toNat * sz) sz (.inl hmul)⟩
        unfold Does execOp
        simp only [ho, he, hk]
        refine exec_val ?_
        have hj2 : 0 ≤ j ∧ j < n := by omega
        simp [Instr.indexAt, asIntOf, run_underlying hu, hj2, run_sizeOf hn]
    · cases hv
  · cases hv

theorem does_iaddrA (hS : RelS Γ N g w a env m) {t e : TypeId} {x i : Operand} {sz len : Nat} {x' i' : X} (ho : o.op = .indexAddr t x i) (hu : P.underlying t = some (.array len e)) (hn : sizeT P e = some sz)
    (hx : cX N x = some x') (hi : cX N i = some i') (hv : cpure Γ env (.iaddrA sz len x' i') = some r) : ∃ v, Does P a w o v ∧ VR g w.heap r v := by
  simp only [cpure] at hv
  have hrun : ∀ (ad : Addr) (k : IntKind) (j : Int), 0 ≤ j ∧ j < len → (Instr.indexAt t (.pointer (some ad)) (.int k j)).run P w = .ok (.pointer (some (ad.add (j.toNat * sz)))) w := fun ad k j hj => by
    simp [Instr.indexAt, asIntOf, run_underlying hu, hj, run_sizeOf hn, Instr.sureAddr]
  split at hv
  · rename_i b off j h1 h2
    split at hv
    · rename_i hj
      cases hv
      have hxv := cX_sound hS hx
      rw [h1] at hxv
      obtain ⟨k, hk, he⟩ := vr_ptr hxv
      obtain ⟨kk, hkk⟩ := vr_asInt (cX_sound hS hi) h2
      refine ⟨_, ?_, .ptr (off := off + j.toNat * sz) hk⟩
      unfold Does execOp
      simp only [ho, he, hkk]
      refine exec_val ?_
      rw [hrun _ _ _ hj, add_spot rfl]
    · cases hv
  · rename_i cs j h1 h2
    split at hv
    · rename_i hj
      cases hv
      have hxv := cX_sound hS hx
      rw [h1] at hxv
      obtain ⟨ad, q, he, hs, hp, hr⟩ := vr_cptr hxv
      obtain ⟨kk, hkk⟩ := vr_asInt (cX_sound hS hi) h2
      refine ⟨_, ?_, cptr_drop hs hp hr (j.toNat * sz)⟩
      unfold Does execOp
      simp only [ho, he, hkk]
      exact exec_val (hrun _ _ _ hj)
    · cases hv
  · cases hv

theorem does_mkfn (hS : RelS Γ N g w a env m) {f : Fn} {first cap : Array Operand} {first' cap' : List X} (ho : o.op = .makeFunc f first cap) (h1 : cXs N first.toList = some first') (h2 : cXs N cap.toList = some cap')
    (hv : cpure Γ env (.mkfn f first' cap') = some r) : ∃ v, Does P a w o v ∧ VR g w.heap r v := by
  simp only [cpure, Option.some.injEq] at hv
  subst hv
  obtain ⟨l1, r1⟩ := cXs_sound hS h1
  obtain ⟨l2, r2⟩ := cXs_sound hS h2
  refine ⟨.func f (first.map a.eval) (cap.map a.eval), ?_, .fn (by simp [l1]) (fun i b v hb hv => ?_) (by simp [l2]) (fun i b v hb hv => ?_)⟩
  · unfold Does execOp
    simp only [ho]
    exact exec_val rfl
  · exact r1 i b v hb (by simpa using hv)
  · exact r2 i b v hb (by simpa using hv)

theorem does_mkif (hS : RelS Γ N g w a env m) {t : TypeId} {d : TypeDesc} {x : Operand} {x' : X} (ho : o.op = .makeInterface t x) (hu : P.underlying t = some d) (hd : ∀ ms, d ≠ .interface ms) (hx : cX N x = some x')
    (hv : cpure Γ env (.mkif t x') = some r) : ∃ v, Does P a w o v ∧ VR g w.heap r v := by
  simp only [cpure] at hv
  have hrun : ∀ v, (Instr.makeInterface t v).run P w = .ok (.iface t v) w := fun v => by
    cases d <;> first | exact absurd rfl (hd _) | simp [Instr.makeInterface, run_underlying hu]
  have hxv := cX_sound hS hx
  split at hv
  · rename_i v h1
    cases hv
    rw [h1] at hxv
    have hxv := vr_s hxv
    refine ⟨.iface t v, ?_, .p (.s _)⟩
    unfold Does execOp
    simp only [ho, hxv]
    exact exec_val (hrun v)
  · rename_i h1
    cases hv
    rw [h1] at hxv
    obtain ⟨vs, he, hl, _⟩ := vr_agg hxv
    have : vs = #[] := Array.eq_empty_of_size_eq_zero (by simpa using hl.symm)
    subst this
    refine ⟨.iface t (.agg #[]), ?_, .p (.s _)⟩
    unfold Does execOp
    simp only [ho, he]
    exact exec_val (hrun _)
  · cases hv

theorem does_nilchk (hS : RelS Γ N g w a env m) {x : Operand} {x' : X} (ho : o.op = .nilCheck x) (hx : cX N x = some x') (hv : cpure Γ env (.nilchk x') = some r) : ∃ v, Does P a w o v ∧ VR g w.heap r v := by
  simp only [cpure] at hv
  have hxv := cX_sound hS hx
  split at hv
  · rename_i b off h1
    cases hv
    rw [h1] at hxv
    obtain ⟨k, hk, he⟩ := vr_ptr hxv
    refine ⟨_, ?_, .ptr hk⟩
    unfold Does execOp
    simp only [ho, he]
    rfl
  · rename_i cs h1
    cases hv
    rw [h1] at hxv
    obtain ⟨ad, q, he, hs, hp, hr⟩ := vr_cptr hxv
    refine ⟨_, ?_, .cptr q hs hp hr⟩
    unfold Does execOp
    simp only [ho, he]
    rfl
  · rename_i f first cap h1
    cases hv
    rw [h1] at hxv
    generalize hq : a.eval x = q at hxv
    cases hxv with
    | fn l1 r1 l2 r2 =>
      refine ⟨_, ?_, .fn l1 r1 l2 r2⟩
      unfold Does execOp
      simp only [ho, hq]
      rfl
  · cases hv

theorem does_arrptr (hS : RelS Γ N g w a env m) {t e : TypeId} {n : Nat} {x : Operand} {x' : X} (ho : o.op = .sliceToArrayPointer t x) (hu : P.underlying t = some (.array n e)) (hx : cX N x = some x') (hv : cpure Γ env (.arrptr n x') = some r) : ∃ v, Does P a w o v ∧ VR g w.heap r v := by
  simp only [cpure] at hv
  have hxv := cX_sound hS hx
  have key : ∀ sz xs A k c, PR g.U w.heap (.sl sz xs) (.slice A k c) → a.eval x = .slice A k c → n ≤ xs.length → 0 < xs.flatten.length → ∃ v, Does P a w o v ∧ VR g w.heap (.cptr xs.flatten) v := by
    intro sz xs A k c hp he h1 h2
    cases hp with
    | sl f hln hc hm hcm hsz hpl hr =>
      obtain ⟨ad, vs, T, fr, u, rfl, hs, hH, hU, hle, hvv⟩ := hpl h2
      refine ⟨.pointer (some ad), ?_, .cptr f hs (fun _ => ⟨ad, vs, T, fr, u, rfl, hs, hH, hU, hle, hvv⟩) hr⟩
      unfold Does execOp
      simp only [ho, he]
      refine exec_val ?_
      have : ¬ k < n := by omega
      simp [Instr.arrayAt, run_underlying hu, this]
  split at hv
  · rename_i sz xs h1
    split at hv
    · rename_i hc
      cases hv
      rw [h1] at hxv
      generalize hq : a.eval x = q at hxv
      cases hxv with
      | p hp =>
        cases hp with
        | sl f hln hc' hm hcm hsz hpl hr => exact key sz xs _ _ _ (.sl f hln hc' hm hcm hsz hpl hr) hq hc.1 hc.2
    · cases hv
  · rename_i tk sz xs h1
    split at hv
    · rename_i hc
      cases hv
      rw [h1] at hxv
      generalize hq : a.eval x = q at hxv
      cases hxv with
      | own hp _ => exact key sz xs _ _ _ hp hq hc.1 hc.2
    · cases hv
  · cases hv

theorem does_cload (hS : RelS Γ N g w a env m) {t : TypeId} {n : Nat} {x : Operand} {x' : X} (ho : o.op = .load t x) (hn : sizeT P t = some n) (hx : cX N x = some x') (hv : cpure Γ env (.load (isAggT P t) n x') = some r) : ∃ v, Does P a w o v ∧ VR g w.heap r v := by
  simp only [cpure] at hv
  split at hv
  · rename_i cs h1
    have hxv := cX_sound hS hx
    rw [h1] at hxv
    obtain ⟨ad, q, he, hs, hp, hr⟩ := vr_cptr hxv
    obtain ⟨v, h2, h3⟩ := cptr_load (P := P) hn hp hr hv
    refine ⟨v, ?_, h3⟩
    unfold Does execOp
    simp only [ho, he]
    refine exec_val ?_
    simp [Instr.loadAt, Instr.sureAddr, h2]
  · cases hv
end
end Go.Shade

/- The quiet operations, all together. Own work. -/
namespace Go.Shade
open Go

section
variable {P : Program} {N : Nat} {Γ : Globs} {g : Gh} {w : World} {a : Act} {env : Nat → AV} {m : Mem} {o : Oper} {r : AV} {c : COp}

theorem pure_sound (hS : RelS Γ N g w a env m) (hc : cop P N o = some c) (hv : cpure Γ env c = some r) : ∃ v, Does P a w o v ∧ VR g w.heap r v := by
  unfold cop at hc
  split at hc
  all_goals rename_i ho
  case h_1 =>
    simp only [bind, Option.bind_eq_some_iff, pure, Option.some.injEq] at hc
    obtain ⟨x, hx, rfl⟩ := hc
    exact does_move hS (.inl ho) hx hv
  case h_2 =>
    simp only [bind, Option.bind_eq_some_iff, pure, Option.some.injEq] at hc
    obtain ⟨x, hx, rfl⟩ := hc
    exact does_move hS (.inr ho) hx hv
  case h_3 =>
    simp only [bind, Option.bind_eq_some_iff, pure, Option.some.injEq] at hc
    obtain ⟨x, hx, y, hy, z, hz, rfl⟩ := hc
    exact does_pick hS ho hx hy hz hv
  case h_4 =>
    simp only [bind, Option.bind_eq_some_iff] at hc
    obtain ⟨x, hx, y, hy, hc⟩ := hc
    split at hc
    · split at hc
      · cases hc; exact does_bin hS ho hx hy hv
      · cases hc; exact does_bin hS ho hx hy hv
      · rename_i hu; cases hc; exact does_beq hS ho (.inl rfl) hu hx hy hv
      · simp only [Option.bind_eq_some_iff, pure, Option.some.injEq] at hc
        obtain ⟨ks, hk, rfl⟩ := hc
        exact does_eqs hS ho (.inl rfl) hk hx hy hv
      · simp only [Option.bind_eq_some_iff, pure, Option.some.injEq] at hc
        obtain ⟨ks, hk, rfl⟩ := hc
        exact does_eqs hS ho (.inl rfl) hk hx hy hv
      · cases hc
    · split at hc
      · cases hc; exact does_bin hS ho hx hy hv
      · cases hc; exact does_bin hS ho hx hy hv
      · rename_i hu; cases hc; exact does_beq hS ho (.inr rfl) hu hx hy hv
      · simp only [Option.bind_eq_some_iff, pure, Option.some.injEq] at hc
        obtain ⟨ks, hk, rfl⟩ := hc
        exact does_eqs hS ho (.inr rfl) hk hx hy hv
      · simp only [Option.bind_eq_some_iff, pure, Option.some.injEq] at hc
        obtain ⟨ks, hk, rfl⟩ := hc
        exact does_eqs hS ho (.inr rfl) hk hx hy hv
      · cases hc
    · cases hc; exact does_bin hS ho hx hy hv
  case h_5 =>
    simp only [bind, Option.bind_eq_some_iff, pure, Option.some.injEq] at hc
    obtain ⟨x, hx, rfl⟩ := hc
    exact does_un hS ho hx hv
  case h_6 =>
    simp only [bind, Option.bind_eq_some_iff] at hc
    obtain ⟨x, hx, hc⟩ := hc
    split at hc
    · rename_i j k hs ht; cases hc; exact does_toInt hS ho hs ht hx hv
    · rename_i e hs ht
      split at hc
      · rename_i _ he
        cases hc
        exact does_toStr hS ho hs he ht hx hv
      · cases hc
    · rename_i hs ht; cases hc; exact does_strId hS ho hs ht hx hv
    · cases hc
  case h_7 =>
    simp only [bind, Option.bind_eq_some_iff] at hc
    obtain ⟨zero, hz, hc⟩ := hc
    split at hc
    · rename_i fs hu
      simp only [Option.bind_eq_some_iff] at hc
      obtain ⟨ps, hps, hc⟩ := hc
      split at hc
      · rename_i hall
        cases hc
        exact does_build hS ho hz (.inl ⟨fs, hu, hall, hps⟩) hv
      · cases hc
    · rename_i n e hu
      simp only [Option.bind_eq_some_iff, pure, Option.some.injEq] at hc
      obtain ⟨sz, hsz, ps, hps, rfl⟩ := hc
      exact does_build hS ho hz (.inr ⟨n, e, sz, hu, hsz, hps⟩) hv
    · cases hc
  case h_8 =>
    simp only [bind, Option.bind_eq_some_iff] at hc
    obtain ⟨x, hx, hc⟩ := hc
    split at hc
    · rename_i fs hu
      simp only [Option.bind_eq_some_iff, pure, Option.some.injEq] at hc
      obtain ⟨f, hf, n, hn, rfl⟩ := hc
      exact does_field hS ho hu hf hn hx hv
    · cases hc
  case h_9 =>
    simp only [bind, Option.bind_eq_some_iff] at hc
    obtain ⟨x, hx, y, hy, hc⟩ := hc
    split at hc
    · rename_i len e hu
      simp only [Option.bind_eq_some_iff, pure, Option.some.injEq] at hc
      obtain ⟨n, hn, rfl⟩ := hc
      exact does_index hS ho hu hn hx hy hv
    · rename_i hu
      cases hc
      exact does_sindex hS ho hu hx hy hv
    · cases hc
  case h_10 =>
    simp only [bind, Option.bind_eq_some_iff, pure, Option.some.injEq] at hc
    obtain ⟨x, hx, rfl⟩ := hc
    exact does_extract hS ho hx hv
  case h_11 =>
    simp only [bind, Option.bind_eq_some_iff] at hc
    obtain ⟨x, hx, lo, hlo, hi, hhi, hc⟩ := hc
    split at hc
    · rename_i e hu
      simp only [Option.bind_eq_some_iff, pure, Option.some.injEq] at hc
      obtain ⟨n, hn, rfl⟩ := hc
      exact does_slice hS ho hu hn hx hlo hhi hv
    · simp only [Option.bind_eq_some_iff, pure, Option.some.injEq] at hc
      obtain ⟨n, hn, rfl⟩ := hc
      simp [cpure] at hv
    · cases hc
  case h_12 =>
    simp only [bind, Option.bind_eq_some_iff] at hc
    obtain ⟨x, hx, hc⟩ := hc
    split at hc
    · rename_i fs hu
      simp only [Option.bind_eq_some_iff] at hc
      obtain ⟨f, hf, n, hn, hc⟩ := hc
      split at hc
      · cases hc
      · rename_i h0
        cases hc
        exact does_faddr hS ho hu hf hn h0 hx hv
    · cases hc
  case h_13 =>
    simp only [bind, Option.bind_eq_some_iff] at hc
    obtain ⟨x, hx, y, hy, hc⟩ := hc
    split at hc
    · rename_i e hu
      simp only [Option.bind_eq_some_iff] at hc
      obtain ⟨n, hn, hc⟩ := hc
      split at hc
      · cases hc
      · rename_i h0
        cases hc
        exact does_iaddrS hS ho hu hn h0 hx hy hv
    · rename_i n e hu
      simp only [Option.bind_eq_some_iff, pure, Option.some.injEq] at hc
      obtain ⟨sz, hsz, rfl⟩ := hc
      exact does_iaddrA hS ho hu hsz hx hy hv
    · cases hc
  case h_14 =>
    simp only [bind, Option.bind_eq_some_iff, pure, Option.some.injEq] at hc
    obtain ⟨x, hx, y, hy, rfl⟩ := hc
    exact does_mkfn hS ho hx hy hv
  case h_15 =>
    simp only [bind, Option.bind_eq_some_iff] at hc
    obtain ⟨x, hx, hc⟩ := hc
    split at hc
    · cases hc
    · cases hc
    · rename_i h1 h2
      cases hc
      cases hu : P.underlying _ with
      | none => exact absurd hu h2
      | some d => exact does_mkif hS ho hu (fun ms h => h1 ms (h ▸ hu)) hx hv
  case h_16 =>
    simp only [bind, Option.bind_eq_some_iff, pure, Option.some.injEq] at hc
    obtain ⟨x, hx, rfl⟩ := hc
    exact does_nilchk hS ho hx hv
  case h_17 =>
    simp only [bind, Option.bind_eq_some_iff] at hc
    obtain ⟨x, hx, hc⟩ := hc
    split at hc
    · rename_i n e hu
      cases hc
      exact does_arrptr hS ho hu hx hv
    · cases hc
  case h_18 =>
    simp only [bind, Option.bind_eq_some_iff, pure, Option.some.injEq] at hc
    obtain ⟨n, hn, x, hx, rfl⟩ := hc
    exact does_cload hS ho hn hx hv
  case h_19 =>
    simp only [bind, Option.bind_eq_some_iff, pure, Option.some.injEq] at hc
    obtain ⟨_, _, _, _, _, _, rfl⟩ := hc
    simp [cpure] at hv
  case h_20 =>
    simp only [bind, Option.bind_eq_some_iff, pure, Option.some.injEq] at hc
    obtain ⟨_, _, rfl⟩ := hc
    simp [cpure] at hv
  case h_21 =>
    simp only [bind, Option.bind_eq_some_iff, pure, Option.some.injEq] at hc
    obtain ⟨_, _, rfl⟩ := hc
    simp [cpure] at hv
  case h_22 =>
    split at hc
    · simp only [bind, Option.bind_eq_some_iff] at hc
      obtain ⟨_, _, _, _, hc⟩ := hc
      split at hc
      · cases hc
      · simp only [Option.bind_eq_some_iff, pure, Option.some.injEq] at hc
        obtain ⟨_, _, rfl⟩ := hc
        simp [cpure] at hv
    · cases hc
  case h_23 =>
    split at hc
    · rename_i x t ha ht
      simp only [bind, Option.bind_eq_some_iff] at hc
      obtain ⟨x', hx, hc⟩ := hc
      split at hc
      · rename_i e hu; cases hc; exact does_len hS ho ha ht hu hx hv
      · rename_i hu; cases hc; exact does_slen hS ho ha ht hu hx hv
      · cases hc
    · rename_i x y _ ha
      simp only [bind, Option.bind_eq_some_iff, pure, Option.some.injEq] at hc
      obtain ⟨x', hx, y', hy, rfl⟩ := hc
      exact does_minmax (mx := false) hS ho ha hx hy hv
    · rename_i x y _ ha
      simp only [bind, Option.bind_eq_some_iff, pure, Option.some.injEq] at hc
      obtain ⟨x', hx, y', hy, rfl⟩ := hc
      exact does_minmax (mx := true) hS ho ha hx hy hv
    · simp only [bind, Option.bind_eq_some_iff] at hc
      obtain ⟨_, _, _, _, hc⟩ := hc
      split at hc
      · simp only [Option.bind_eq_some_iff] at hc
        obtain ⟨_, _, hc⟩ := hc
        split at hc
        · simp only [Option.bind_eq_some_iff, pure, Option.some.injEq] at hc
          obtain ⟨_, _, rfl⟩ := hc
          simp [cpure] at hv
        · simp only [Option.bind_eq_some_iff, pure, Option.some.injEq] at hc
          obtain ⟨_, _, rfl⟩ := hc
          simp [cpure] at hv
        · cases hc
      · cases hc
    · cases hc
  case h_24 =>
    simp only [bind, Option.bind_eq_some_iff, pure, Option.some.injEq] at hc
    obtain ⟨_, _, _, _, rfl⟩ := hc
    simp [cpure] at hv
  case h_25 =>
    simp only [bind, Option.bind_eq_some_iff, pure, Option.some.injEq] at hc
    obtain ⟨_, _, rfl⟩ := hc
    simp [cpure] at hv
  case h_26 => cases hc
end
end Go.Shade

/- The operations that read and write memory. Own work. -/
namespace Go.Shade
open Go

def AV.toPV : AV → Option PV
  | .p x => some x
  | .own _ sz xs => some (.sl sz xs)
  | _ => none
def PV.oneCell : PV → Bool
  | .s v => v.oneCell'
  | .sl _ _ => true
def toPVs (cs : List AV) : Option (List PV) := cs.mapM AV.toPV
def setEls (xs : List (List PV)) : List (Nat × List PV) → List (List PV)
  | [] => xs
  | (i, l) :: r => setEls (xs.set i l) r
/-- What is appended: elements, or a string's octets. -/
def AV.asSrc (sz : Nat) (a : AV) : Option (List (List PV)) :=
  match a with
  | .p (.s (.string s)) => if sz = 1 then some (s.data.toList.map fun b => [.s (.int .u8 b.toNat)]) else none
  | a => a.asSl sz

abbrev ML := List (Nat × Res)
def memL : ML → Nat → Option Res
  | [], _ => none
  | (k, r) :: L, n => if n = k then some r else memL L n
def updL (m : Mem) (us : ML) : Mem := fun n => match memL us n with
  | some r => some r
  | none => m n
/-- What is copied: how many elements, and their cells. -/
def srcC (sz : Nat) (m : Mem) : AV → Option (Nat × List AV)
  | .bsl b off s n => match m b with
    | some (.box cs _) => if s = sz ∧ off + n * sz ≤ cs.length then some (n, (cs.drop off).take (n * sz)) else none
    | _ => none
  | x => (x.asSrc sz).map fun ys => (ys.length, ys.flatten.map AV.p)
def copyE (sz : Nat) (m : Mem) : List AV → Option (AV × ML)
  | [.bsl b off s n, x] => match m b with
    | some (.box cs false) => (srcC sz m x).bind fun (k, l) =>
      if s = sz ∧ sz ≠ 0 ∧ off + n * sz ≤ cs.length ∧ (l.take (min k n * sz)).all AV.oneCell then
        some (.int .i64 (min k n : Nat), [(b, .box (cs.take off ++ l.take (min k n * sz) ++ cs.drop (off + min k n * sz)) false)]) else none
    | _ => none
  | _ => none
def mksE (sz bytes : Nat) (zero : List PV) (own : Bool) (m : Mem) (nm : Nat) : List AV → Option (AV × ML)
  | [l, c] => match m nm with
    | none => l.asInt.bind fun l => c.asInt.bind fun c =>
      if 0 ≤ l ∧ l ≤ c ∧ (bytes : Int) * c ≤ 281474976710656 ∧ c ≤ 281474976710656 ∧ zero.length = sz ∧ zero.all PV.oneCell = true then
        (if own then some (.own nm sz (List.replicate l.toNat zero), [(nm, .tok)]) else some (.bsl nm 0 sz l.toNat, [(nm, .box (List.replicate c.toNat (zero.map AV.p)).flatten false)])) else none
    | _ => none
  | _ => none
def mkzE (m : Mem) (nm : Nat) : List AV → Option (AV × ML)
  | [.p (.s (.int .i64 n))] => match m nm with
    | none => if 0 ≤ n ∧ n ≤ 281474976710656 then some (.bsl nm 0 1 n.toNat, [(nm, .box (List.replicate n.toNat .junk) false)]) else none
    | _ => none
  | _ => none
def toBysE : List AV → Option (AV × ML)
  | [.p (.s (.string s))] => if s.size ≤ 281474976710656 then some (.p (.sl 1 (s.data.toList.map fun b => [.s (.int .u8 b.toNat)])), []) else none
  | _ => none
def bconvE (m : Mem) : List AV → Option (AV × ML)
  | [.own t sz xs] => match m t with
    | some .tok => if sz = 1 ∧ 0 < xs.length then some (.p (.sl 1 xs), [(t, .dead)]) else none
    | _ => none
  | _ => none
def eMem : EOp → List AV → Mem → Nat → Option (AV × ML)
  | .copy sz, vs, m, _ => copyE sz m vs
  | .mks sz bytes zero own, vs, m, nm => mksE sz bytes zero own m nm vs
  | .mkz, vs, m, nm => mkzE m nm vs
  | .toBys, vs, _, _ => toBysE vs
  | .bconv, vs, m, _ => bconvE m vs
  | _, _, _, _ => none
def eFoot : EOp → List AV → Nat → List Nat × List Nat
  | .copy _, [.bsl b _ _ _, .bsl c _ _ _], _ => ([b, c], [b])
  | .copy _, [.bsl b _ _ _, _], _ => ([b], [b])
  | .toBys, _, _ => ([], [])
  | .bconv, [.own t _ _], _ => ([t], [t])
  | _, _, nm => ([nm], [nm])

def cmem (Γ : Globs) (env : Nat → AV) (m : Mem) (nm : Nat) : COp → Option (AV × Mem)
  | .load agg n a => match a.ev Γ env with
    | .ptr b off => match m b with
      | some (.box cs _) => (subA agg cs off n).map fun r => (r, m)
      | _ => none
    | _ => none
  | .store n a x => match a.ev Γ env with
    | .ptr b off => match m b with
      | some (.box cs false) =>
        let l := (x.ev Γ env).cells
        if (x.ev Γ env).celled && l.all AV.oneCell && l.length == n && decide (off + n ≤ cs.length) then
          some (.junk, upd m b (some (.box (cs.take off ++ l ++ cs.drop (off + n)) false))) else none
      | _ => none
    | _ => none
  | .box x => match m nm with
    | none => if (x.ev Γ env).celled then some (.ptr nm 0, upd m nm (some (.box (x.ev Γ env).cells false))) else none
    | _ => none
  | .alloc zero => match m nm with
    | none => some (.ptr nm 0, upd m nm (some (.box (zero.map AV.p) false)))
    | _ => none
  | .bslice sz len zero parts => match m nm, parts.mapM (fun (p : Nat × X) => (toPVs (p.2.ev Γ env).cells).map fun l => (p.1, l)) with
    | none, some ps =>
      if (parts.all fun p => (p.2.ev Γ env).celled) && (ps.all fun p => p.2.length == sz && p.2.all PV.oneCell && decide (p.1 < len)) && zero.length == sz && zero.all PV.oneCell && decide (len ≤ 281474976710656) then
        some (.own nm sz (setEls (List.replicate len zero) ps), upd m nm (some .tok)) else none
    | _, _ => none
  | .append sz bytes zero s x => match m nm, (x.ev Γ env).asSrc sz, (s.ev Γ env).asSl sz with
    | none, some ys, some xs =>
      if zero.length = sz ∧ sz ≠ 0 ∧ bytes ≠ 0 ∧ zero.all PV.oneCell ∧ (xs.length + ys.length) * bytes ≤ 140737488355328 then
        match s.ev Γ env with
        | .own t _ _ => match m t with
          | some .tok => some (.own nm sz (xs ++ ys), upd (upd m t (some .dead)) nm (some .tok))
          | _ => none
        | .p (.s (.slice none 0 0)) => some (.own nm sz ys, upd m nm (some .tok))
        | _ => none
      else none
    | _, _, _ => none
  | .aslice sz len x lo hi => match x.ev Γ env with
    | .ptr b off => match m b with
      | some (.box cs _) => do
        let lo ← evO Γ env lo
        let hi ← evO Γ env hi
        let (l, h) ← bounds len lo hi
        let ps ← toPVs ((cs.drop (off + l)).take (h - l))
        if sz = 1 ∧ off + h ≤ cs.length ∧ ps.all PV.oneCell ∧ len ≤ 281474976710656 then some (.p (.sl 1 (ps.map fun p => [p])), upd m b (some (.box cs true))) else none
      | _ => none
    | _ => none
  | .ext e xs => (eMem e (xs.map (X.ev Γ env)) m nm).map fun p => (p.1, updL m p.2)
  | _ => none

section
variable {P : Program} {N : Nat} {Γ : Globs} {g : Gh} {w : World} {a : Act} {env : Nat → AV} {m : Mem} {o : Oper} {r : AV} {c : COp}

def Did (P : Program) (a : Act) (w : World) (o : Oper) (v : Value) (w' : World) : Prop := (execOp a.eval o).run P w = .ok (.value v) w' ∨ ((execOp a.eval o).run P w = .ok .skip w' ∧ v = undef)
theorem exec_val' {s : Sem Value} {v : Value} {w' : World} (hs : s.run P w = .ok v w') : (do pure (Next.value (← s)) : Sem Next).run P w = .ok (.value v) w' := by
  rw [Sem.run_bind, hs]
  rfl

theorem vr_toPV {h : Array Obj} {b : AV} {v : Value} {x : PV} (hr : VR g h b v) (hx : b.toPV = some x) : PR g.U h x v := by
  cases hr <;> simp [AV.toPV] at hx
  · subst hx; assumption
  · subst hx; assumption
theorem toPVs_get : ∀ {cs : List AV} {ps : List PV}, toPVs cs = some ps → ps.length = cs.length ∧ ∀ (i : Nat) b p, cs[i]? = some b → ps[i]? = some p → b.toPV = some p
  | [], ps, h => by
    simp only [toPVs, List.mapM_nil, pure, Option.some.injEq] at h
    subst h
    exact ⟨rfl, fun i b p h => by simp at h⟩
  | x :: cs, ps, h => by
    simp only [toPVs, List.mapM_cons, bind, Option.bind_eq_some_iff, pure, Option.some.injEq] at h
    obtain ⟨x', hx, q, hq, rfl⟩ := h
    obtain ⟨h1, h2⟩ := toPVs_get (cs := cs) (ps := q) hq
    refine ⟨by simp [h1], fun i b p hb hp => ?_⟩
    cases i with
    | zero => simp at hb hp; subst hb; subst hp; exact hx
    | succ i => exact h2 i b p (by simpa using hb) (by simpa using hp)
theorem vrs_toPVs {h : Array Obj} {cs : List AV} {vs : Array Value} {ps : List PV} (hv : VRs g h cs vs) (hp : toPVs cs = some ps) : ps.length = vs.size ∧ ∀ (i : Nat) p v, ps[i]? = some p → vs[i]? = some v → PR g.U h p v := by
  obtain ⟨h1, h2⟩ := toPVs_get hp
  refine ⟨h1.trans hv.1, fun i p v hpi hvi => ?_⟩
  have hlt : i < cs.length := by rw [← h1]; exact (List.getElem?_eq_some_iff.1 hpi).1
  exact vr_toPV (hv.2 i _ v (List.getElem?_eq_getElem hlt) hvi) (h2 i _ p (List.getElem?_eq_getElem hlt) hpi)
theorem vr_oneCell {h : Array Obj} {b : AV} {v : Value} (hr : VR g h b v) (h1 : b.oneCell = true) : v.oneCell' = true := by
  cases hr with
  | p hr => cases hr with
    | s v => exact h1
    | sl => rfl
  | own => rfl
  | agg => simp [AV.oneCell] at h1
  | tup => simp [AV.oneCell] at h1
  | ptr => rfl
  | cptr => rfl
  | fn => rfl
  | bsl => rfl
  | cmap => rfl
  | junk => simp [AV.oneCell] at h1
theorem pr_oneCell {U : Nat → Option Nat} {h : Array Obj} {p : PV} {v : Value} (hr : PR U h p v) (h1 : p.oneCell = true) : v.oneCell' = true := by
  cases hr with
  | s v => exact h1
  | sl => rfl

theorem heap_setRow {w : World} {k : Nat} {vs vs' : Array Value} {T : TypeId} {fr : Nat × Nat} (hk : w.heap[k]? = some (.cells vs T fr)) : (w.setRow k vs').heap = w.heap.setIfInBounds k (.cells vs' T fr) := by
  apply Array.ext_getElem?
  intro i
  by_cases hi : i = k
  · subst hi
    rw [setRow_heap w i vs vs' T fr hk, set_at hk]
  · rw [setRow_other w k i vs' hi, set_other hi]
theorem sameW_setRow (w : World) (k : Nat) (vs : Array Value) : SameW w (w.setRow k vs) := ⟨rfl, rfl, rfl⟩
theorem sameW_alloc (w : World) (o : Obj) : SameW w (w.alloc o) := ⟨rfl, rfl, rfl⟩

/-- The same of lists. -/
def VL (g : Gh) (h : Array Obj) (cs : List AV) (vl : List Value) : Prop := cs.length = vl.length ∧ ∀ (i : Nat) (a : AV) (v : Value), cs[i]? = some a → vl[i]? = some v → VR g h a v
theorem VRs.list {h : Array Obj} {cs : List AV} {vs : Array Value} (hv : VRs g h cs vs) : VL g h cs vs.toList := ⟨by rw [Array.length_toList]; exact hv.1, fun i a v h1 h2 => hv.2 i a v h1 (by simpa using h2)⟩
theorem VL.arr {h : Array Obj} {cs : List AV} {vl : List Value} (hv : VL g h cs vl) : VRs g h cs vl.toArray := ⟨by simpa using hv.1, fun i a v h1 h2 => hv.2 i a v h1 (by simpa using h2)⟩
theorem VL.take {h : Array Obj} {cs : List AV} {vl : List Value} (hv : VL g h cs vl) (n : Nat) : VL g h (cs.take n) (vl.take n) := by
  refine ⟨by simp [hv.1], fun i a v h1 h2 => ?_⟩
  rw [List.getElem?_take] at h1 h2
  split at h1
  · rename_i hi
    rw [if_pos hi] at h2
    exact hv.2 i a v h1 h2
  · cases h1
theorem VL.drop {h : Array Obj} {cs : List AV} {vl : List Value} (hv : VL g h cs vl) (n : Nat) : VL g h (cs.drop n) (vl.drop n) := by
  refine ⟨by simp [hv.1], fun i a v h1 h2 => ?_⟩
  rw [List.getElem?_drop] at h1 h2
  exact hv.2 _ a v h1 h2
theorem VL.append {h : Array Obj} {cs ds : List AV} {vl ul : List Value} (hv : VL g h cs vl) (hu : VL g h ds ul) : VL g h (cs ++ ds) (vl ++ ul) := by
  refine ⟨by simp [hv.1, hu.1], fun i a v h1 h2 => ?_⟩
  by_cases hi : i < cs.length
  · rw [List.getElem?_append_left hi] at h1
    rw [List.getElem?_append_left (by rw [← hv.1]; exact hi)] at h2
    exact hv.2 i a v h1 h2
  · rw [List.getElem?_append_right (by omega)] at h1
    rw [List.getElem?_append_right (by rw [← hv.1]; omega), ← hv.1] at h2
    exact hu.2 _ a v h1 h2

/-- The same of a row whose beginning alone is known. -/
def VP (g : Gh) (h : Array Obj) (cs : List AV) (vl : List Value) : Prop := cs.length ≤ vl.length ∧ ∀ (i : Nat) (a : AV) (v : Value), cs[i]? = some a → vl[i]? = some v → VR g h a v
theorem vp_of {h : Array Obj} {cs : List AV} {vs : Array Value} (hl : cs.length ≤ vs.size) (hr : ∀ (i : Nat) (a : AV) (v : Value), cs[i]? = some a → vs[i]? = some v → VR g h a v) : VP g h cs vs.toList :=
  ⟨by rw [Array.length_toList]; exact hl, fun i a v h1 h2 => hr i a v h1 (by simpa using h2)⟩
theorem VP.drop {h : Array Obj} {cs : List AV} {vl : List Value} (hv : VP g h cs vl) (n : Nat) : VP g h (cs.drop n) (vl.drop n) := by
  refine ⟨by have := hv.1; simp only [List.length_drop]; omega, fun i a v h1 h2 => ?_⟩
  rw [List.getElem?_drop] at h1 h2
  exact hv.2 _ a v h1 h2
theorem VP.take {h : Array Obj} {cs : List AV} {vl : List Value} (hv : VP g h cs vl) {n : Nat} (hn : n ≤ cs.length) : VL g h (cs.take n) (vl.take n) := by
  refine ⟨by have := hv.1; simp only [List.length_take]; omega, fun i a v h1 h2 => ?_⟩
  rw [List.getElem?_take] at h1 h2
  split at h1
  · rename_i hi
    rw [if_pos hi] at h2
    exact hv.2 i a v h1 h2
  · cases h1
theorem VL.appendP {h : Array Obj} {cs ds : List AV} {vl ul : List Value} (hv : VL g h cs vl) (hu : VP g h ds ul) : VP g h (cs ++ ds) (vl ++ ul) := by
  refine ⟨by have := hv.1; have := hu.1; simp only [List.length_append]; omega, fun i a v h1 h2 => ?_⟩
  by_cases hi : i < cs.length
  · rw [List.getElem?_append_left hi] at h1
    rw [List.getElem?_append_left (by rw [← hv.1]; exact hi)] at h2
    exact hv.2 i a v h1 h2
  · rw [List.getElem?_append_right (by omega)] at h1
    rw [List.getElem?_append_right (by rw [← hv.1]; omega), ← hv.1] at h2
    exact hu.2 _ a v h1 h2
theorem VP.arr {h : Array Obj} {cs : List AV} {vl : List Value} (hv : VP g h cs vl) : cs.length ≤ vl.toArray.size ∧ ∀ (i : Nat) (a : AV) (v : Value), cs[i]? = some a → vl.toArray[i]? = some v → VR g h a v := ⟨by simpa using hv.1, fun i a v h1 h2 => hv.2 i a v h1 (by simpa using h2)⟩

/-! ### A box is read -/
theorem mem_load (hS : RelS Γ N g w a env m) {t : TypeId} {n : Nat} {x : Operand} {x' : X} (ho : o.op = .load t x) (hn : sizeT P t = some n) (hx : cX N x = some x') {nm : Nat} {m' : Mem} (hv : cmem Γ env m nm (.load (isAggT P t) n x') = some (r, m')) :
    ∃ v g' w', Did P a w o v w' ∧ Out Γ g w m g' w' m' ∧ VR g' w'.heap r v := by
  simp only [cmem] at hv
  split at hv
  · rename_i b off h1
    split at hv
    · rename_i cs fz hm
      obtain ⟨r', hr', he'⟩ := Option.map_eq_some_iff.1 hv
      simp only [Prod.mk.injEq] at he'
      obtain ⟨rfl, rfl⟩ := he'
      have hxv := cX_sound hS hx
      rw [h1] at hxv
      obtain ⟨k, hk, he⟩ := vr_ptr hxv
      obtain ⟨k', vs, T, hk', hh, hl, hvs, _⟩ := hS.rel.box b cs fz hm
      rw [hk] at hk'
      cases hk'
      obtain ⟨i, d, hi, hd, rfl⟩ := sizeT_spec hn
      have h2 := run_isAgg hd w
      have hcell : ∀ j v, vs[j]? = some v → w.cell? ⟨k, j, none⟩ = some v := fun j v hj => by simp [World.cell?, hh, hj]
      have key : ∃ v, (loadVar t ⟨k, off, none⟩).run P w = .ok v w ∧ VR g w.heap r' v := by
        unfold subA at hr'
        cases hb : isAggT P t with
        | true =>
          rw [hb] at hr' h2
          simp only [if_true] at hr'
          split at hr'
          · rename_i hle
            cases hr'
            have hld := run_loadCells_list (P := P) w ⟨k, off, none⟩ (vs.extract off (off + i.size)).toList (fun j v hj => by
              rw [add_spot rfl]
              refine hcell _ _ ?_
              rw [Array.getElem?_toList, Array.getElem?_extract] at hj
              split at hj
              · exact hj
              · cases hj)
            have hsz : (vs.extract off (off + i.size)).toList.length = i.size := by simp; omega
            rw [hsz] at hld
            exact ⟨.agg (vs.extract off (off + i.size)), by simp only [loadVar, Sem.run_bind, h2, Result.andThen_ok, if_true, run_sizeOf hn w, hld, Sem.run_pure], vr_agg_sub hl hvs hle⟩
          · cases hr'
        | false =>
          rw [hb] at hr' h2
          simp only [Bool.false_eq_true, if_false] at hr'
          have hlt : off < vs.size := Nat.lt_of_lt_of_le (List.getElem?_eq_some_iff.1 hr').1 hl
          have hld : (Go.load ⟨k, off, none⟩).run P w = .ok vs[off] w := by
            unfold Go.load
            simp only [Sem.run, hcell off _ (Array.getElem?_eq_getElem hlt)]
          exact ⟨vs[off], by simp only [loadVar, Sem.run_bind, h2, Result.andThen_ok, Bool.false_eq_true, if_false, hld], hvs off r' _ hr' (Array.getElem?_eq_getElem hlt)⟩
      obtain ⟨v, h3, h4⟩ := key
      refine ⟨v, g, w, .inl ?_, Out.refl hS.rel, h4⟩
      unfold execOp
      simp only [ho, he]
      refine exec_val' ?_
      simp [Instr.loadAt, Instr.sureAddr, h3]
    · cases hv
  · cases hv

/-! ### A box is written -/
theorem mem_store (hS : RelS Γ N g w a env m) {t : TypeId} {n : Nat} {x y : Operand} {x' y' : X} (ho : o.op = .store t x y) (hn : sizeT P t = some n) (hx : cX N x = some x') (hy : cX N y = some y') {nm : Nat} {m' : Mem} (hv : cmem Γ env m nm (.store n x' y') = some (r, m')) :
    ∃ v g' w', Did P a w o v w' ∧ Out Γ g w m g' w' m' ∧ VR g' w'.heap r v := by
  simp only [cmem] at hv
  split at hv
  · rename_i b off h1
    split at hv
    · rename_i cs hm
      split at hv
      · rename_i hc
        cases hv
        simp only [Bool.and_eq_true, List.all_eq_true, beq_iff_eq, decide_eq_true_eq] at hc
        obtain ⟨⟨⟨hce, hone⟩, hlen⟩, hle⟩ := hc
        have hxv := cX_sound hS hx
        rw [h1] at hxv
        obtain ⟨k, hk, he⟩ := vr_ptr hxv
        obtain ⟨k', vs, T, hk', hh, hl, hvs, hu⟩ := hS.rel.box b cs false hm
        rw [hk] at hk'
        cases hk'
        have hyv := cX_sound hS hy
        have hcv := vr_cells hyv (celled_or hce)
        generalize hV : a.eval y = V at hyv hcv
        have hVs : V.cells.size = n := by rw [← hcv.1, hlen]
        have hone' : ∀ v ∈ V.cells.toList, v.oneCell' = true := by
          intro v hv'
          obtain ⟨i, hi⟩ := List.mem_iff_getElem?.1 hv'
          have hlt : i < (y'.ev Γ env).cells.length := by rw [hcv.1]; have := (List.getElem?_eq_some_iff.1 hi).1; simpa using this
          exact vr_oneCell (hcv.2 i _ v (List.getElem?_eq_getElem hlt) (by simpa using hi)) (hone _ (List.getElem_mem hlt))
        have hst := run_storeCells_at (P := P) k off T V.cells.toList 0 vs w hh (by simp [hVs]; omega) hone'
        simp only [Nat.add_zero] at hst
        refine ⟨undef, g, w.setRow k (vs.toList.take off ++ V.cells.toList ++ vs.toList.drop (off + V.cells.toList.length)).toArray, .inr ⟨?_, rfl⟩, ?_, .junk⟩
        · unfold execOp
          simp only [ho, he, hV]
          simp [Instr.storeAt, Instr.sureAddr, storeVar, run_sizeOf hn, hVs, hst]
        · have hsp := ((VL.append ((vp_of hl hvs).take (by omega : off ≤ cs.length)) hcv.list).appendP ((vp_of hl hvs).drop (off + n))).arr
          have e : off + V.cells.toList.length = off + n := by simp [hVs]
          rw [e]
          exact hS.rel.store hm hk hh _ _ hsp.1 hsp.2 (heap_setRow hh) (sameW_setRow _ _ _)
      · cases hv
    · cases hv
  · cases hv
end
end Go.Shade

/- The operations that make memory. Own work. -/
namespace Go.Shade
open Go

section
variable {P : Program} {N : Nat} {Γ : Globs} {g : Gh} {w : World} {a : Act} {env : Nat → AV} {m : Mem} {o : Oper} {r : AV} {c : COp}

theorem mem_box (hS : RelS Γ N g w a env m) {t : TypeId} {x : Operand} {x' : X} (ho : o.op = .box t x) (hx : cX N x = some x') {nm : Nat} {m' : Mem} (hv : cmem Γ env m nm (.box x') = some (r, m')) :
    ∃ v g' w', Did P a w o v w' ∧ Out Γ g w m g' w' m' ∧ VR g' w'.heap r v := by
  simp only [cmem] at hv
  split at hv
  · rename_i hm
    split at hv
    · rename_i hc
      cases hv
      have hcv := vr_cells (cX_sound hS hx) (celled_or hc)
      have hout := hS.rel.newBox hm (x'.ev Γ env).cells (a.eval x).cells t (Nat.le_of_eq hcv.1) hcv.2 (w' := w.alloc (.cells (a.eval x).cells t)) rfl (sameW_alloc _ _)
      refine ⟨.pointer (some ⟨w.heap.size, 0, none⟩), _, _, .inl ?_, hout, .ptr (by simp)⟩
      unfold execOp
      simp only [ho]
      exact exec_val' (by simp [Instr.box, newVar, newRow])
    · cases hv
  · cases hv

theorem run_zeroT {t : TypeId} {zero : List PV} (hz : zeroT P t = some zero) (h : Array Obj) : ∃ z, (∀ W : World, (zeroValue t).run P W = .ok z W) ∧ VRs g h (zero.map AV.p) z.cells ∧ zero = z.cells.toList.map PV.s := by
  unfold zeroT at hz
  obtain ⟨i, hi, hz⟩ := Option.bind_eq_some_iff.1 hz
  obtain ⟨z, hz1, rfl⟩ := Option.map_eq_some_iff.1 hz
  refine ⟨z, fun W => by simp [zeroValue, typeInfo, hi, hz1], ⟨by simp, fun j a v ha hv => ?_⟩, rfl⟩
  simp only [List.map_map, List.getElem?_map, Array.getElem?_toList, hv, Option.map_some, Option.some.injEq, Function.comp] at ha
  subst ha
  exact .p (.s _)

theorem mem_alloc (hS : RelS Γ N g w a env m) {t : TypeId} {zero : List PV} (ho : o.op = .alloc t) (hz : zeroT P t = some zero) {nm : Nat} {m' : Mem} (hv : cmem Γ env m nm (.alloc zero) = some (r, m')) :
    ∃ v g' w', Did P a w o v w' ∧ Out Γ g w m g' w' m' ∧ VR g' w'.heap r v := by
  simp only [cmem] at hv
  split at hv
  · rename_i hm
    cases hv
    obtain ⟨z, hrun, hvs, _⟩ := run_zeroT (g := g) hz w.heap
    have hout := hS.rel.newBox hm (zero.map AV.p) z.cells t (Nat.le_of_eq hvs.1) hvs.2 (w' := w.alloc (.cells z.cells t)) rfl (sameW_alloc _ _)
    refine ⟨.pointer (some ⟨w.heap.size, 0, none⟩), _, _, .inl ?_, hout, .ptr (by simp)⟩
    unfold execOp
    simp only [ho]
    exact exec_val' (by simp [Instr.alloc, hrun, newVar, newRow])
  · cases hv

/-! ### Rows by value -/
/-- A list of cells that read. -/
def PL (U : Nat → Option Nat) (h : Array Obj) (ps : List PV) (vl : List Value) : Prop := ps.length = vl.length ∧ (∀ (i : Nat) p v, ps[i]? = some p → vl[i]? = some v → PR U h p v) ∧ ∀ v ∈ vl, v.oneCell' = true
theorem PL.append {U : Nat → Option Nat} {h : Array Obj} {ps qs : List PV} {vl ul : List Value} (hv : PL U h ps vl) (hu : PL U h qs ul) : PL U h (ps ++ qs) (vl ++ ul) := by
  refine ⟨by simp [hv.1, hu.1], fun i a v h1 h2 => ?_, fun v hm => ?_⟩
  · by_cases hi : i < ps.length
    · rw [List.getElem?_append_left hi] at h1
      rw [List.getElem?_append_left (by rw [← hv.1]; exact hi)] at h2
      exact hv.2.1 i a v h1 h2
    · rw [List.getElem?_append_right (by omega)] at h1
      rw [List.getElem?_append_right (by rw [← hv.1]; omega), ← hv.1] at h2
      exact hu.2.1 _ a v h1 h2
  · rcases List.mem_append.1 hm with h | h
    · exact hv.2.2 v h
    · exact hu.2.2 v h
theorem PL.take {U : Nat → Option Nat} {h : Array Obj} {cs : List PV} {vl : List Value} (hv : PL U h cs vl) (n : Nat) : PL U h (cs.take n) (vl.take n) := by
  refine ⟨by simp [hv.1], fun i a v h1 h2 => ?_, fun v hm => hv.2.2 v (List.mem_of_mem_take hm)⟩
  rw [List.getElem?_take] at h1 h2
  split at h1
  · rename_i hi
    rw [if_pos hi] at h2
    exact hv.2.1 i a v h1 h2
  · cases h1
theorem PL.drop {U : Nat → Option Nat} {h : Array Obj} {cs : List PV} {vl : List Value} (hv : PL U h cs vl) (n : Nat) : PL U h (cs.drop n) (vl.drop n) := by
  refine ⟨by simp [hv.1], fun i a v h1 h2 => ?_, fun v hm => hv.2.2 v (List.mem_of_mem_drop hm)⟩
  rw [List.getElem?_drop] at h1 h2
  exact hv.2.1 _ a v h1 h2
theorem PL.mono {U U' : Nat → Option Nat} {h h' : Array Obj} {cs : List PV} {vl : List Value} (hv : PL U h cs vl) (hb : Pers U h U' h') : PL U' h' cs vl := ⟨hv.1, fun i a v h1 h2 => (hv.2.1 i a v h1 h2).mono hb, hv.2.2⟩
/-- What lies in a block reads as a slice. -/
theorem PL.slice {U : Nat → Option Nat} {h : Array Obj} {sz : Nat} {xs : List (List PV)} {vl : List Value} (hv : PL U h xs.flatten vl) (hsz : ∀ x ∈ xs, x.length = sz) {ad : Addr} {vs : Array Value} {T : TypeId} {fr : Nat × Nat} {u c : Nat}
    (hs : ad.spot = none) (hh : h[ad.block]? = some (.cells vs T fr)) (hu : U ad.block = some u) (hle : ad.off + xs.length * sz ≤ u) (hc : xs.length ≤ c) (hm : xs.length ≤ 281474976710656) (hcm : c ≤ maxLen)
    (hat : ∀ j, j < xs.length * sz → vs[ad.off + j]? = vl[j]?) : PR U h (.sl sz xs) (.slice (some ad) xs.length c) := by
  have hfl := flatten_length hsz
  refine .sl (fun j => vl.getD j default) rfl hc hm hcm hsz (fun _ => ⟨ad, vs, T, fr, u, rfl, hs, hh, hu, by rw [hfl]; exact hle, fun j hj => ?_⟩) (fun j p hj => ?_)
  · have hjl : j < vl.length := by rw [← hv.1]; exact hj
    have hd : vl.getD j default = vl[j] := by rw [List.getD_eq_getElem?_getD, List.getElem?_eq_getElem hjl]; rfl
    simp only [hd]
    rw [hat j (by rw [← hfl]; exact hj), List.getElem?_eq_getElem hjl]
    exact ⟨rfl, hv.2.2 _ (List.getElem_mem hjl)⟩
  · have hjl : j < vl.length := by rw [← hv.1]; exact (List.getElem?_eq_some_iff.1 hj).1
    exact hv.2.1 j p _ hj (by rw [List.getD_eq_getElem?_getD, List.getElem?_eq_getElem hjl]; rfl)
/-- A slice's cells. -/
theorem pr_cells {U : Nat → Option Nat} {h : Array Obj} {sz : Nat} {xs : List (List PV)} {A : Option Addr} {n c : Nat} (hp : PR U h (.sl sz xs) (.slice A n c)) :
    ∃ vl, PL U h xs.flatten vl ∧ xs.length = n ∧ n ≤ c ∧ n ≤ 281474976710656 ∧ c ≤ maxLen ∧ (∀ x ∈ xs, x.length = sz) ∧ (0 < n * sz → ∃ ad vs T fr u, A = some ad ∧ ad.spot = none ∧ h[ad.block]? = some (.cells vs T fr) ∧ U ad.block = some u ∧ ad.off + n * sz ≤ u ∧ ∀ j, j < n * sz → vs[ad.off + j]? = vl[j]?) := by
  cases hp with
  | sl f hn hc hm hcm hsz hpl hr =>
    have hfl := flatten_length hsz
    rw [hn] at hfl
    refine ⟨(List.range (n * sz)).map f, ⟨by rw [hfl]; simp, fun i p v h1 h2 => ?_, fun v hv => ?_⟩, hn, hc, hm, hcm, hsz, fun h0 => ?_⟩
    · have hi : i < n * sz := by rw [← hfl]; exact (List.getElem?_eq_some_iff.1 h1).1
      simp [hi] at h2
      subst h2
      exact hr i p h1
    · obtain ⟨i, hi, rfl⟩ := List.mem_map.1 hv
      rw [List.mem_range] at hi
      obtain ⟨_, _, _, _, _, _, _, _, _, _, hv⟩ := hpl (by omega)
      exact (hv i (by omega)).2
    · obtain ⟨ad, vs, T, fr, u, h1, h2, h3, h4, h5, h6⟩ := hpl (by omega)
      exact ⟨ad, vs, T, fr, u, h1, h2, h3, h4, by omega, fun j hj => by simp [hj, (h6 j (by omega)).1]⟩

theorem setEls_spec {sz : Nat} : ∀ (ps : List (Nat × List PV)) (xs : List (List PV)), (∀ x ∈ xs, x.length = sz) → (∀ p ∈ ps, p.2.length = sz ∧ p.1 < xs.length) →
    (setEls xs ps).length = xs.length ∧ (∀ x ∈ setEls xs ps, x.length = sz) ∧ (setEls xs ps).flatten.map AV.p = fillA (xs.flatten.map AV.p) (ps.map fun p => (p.1 * sz, p.2.map AV.p))
  | [], xs, h, _ => ⟨rfl, h, rfl⟩
  | (i, l) :: ps, xs, h, hp => by
    obtain ⟨hl, hi⟩ := hp (i, l) (by simp)
    simp only at hl hi
    have hx' : ∀ x ∈ xs.set i l, x.length = sz := fun x hx => by
      rcases List.mem_or_eq_of_mem_set hx with h' | h'
      · exact h x h'
      · rw [h']; exact hl
    obtain ⟨h1, h2, h3⟩ := setEls_spec ps (xs.set i l) hx' (fun p hpp => by
      obtain ⟨k1, k2⟩ := hp p (by simp [hpp])
      exact ⟨k1, by simpa using k2⟩)
    refine ⟨by rw [setEls, h1]; simp, by rw [setEls]; exact h2, ?_⟩
    rw [setEls, h3, List.map_cons, fillA]
    congr 1
    have hset : xs.set i l = xs.take i ++ l :: xs.drop (i + 1) := by
      apply List.ext_getElem?
      intro j
      rw [List.getElem?_set]
      by_cases hj : i = j
      · subst hj
        rw [if_pos rfl, if_pos hi, List.getElem?_append_right (by simp; omega), List.length_take, Nat.min_eq_left (by omega), Nat.sub_self]
        rfl
      · rw [if_neg hj]
        by_cases hj' : j < i
        · rw [List.getElem?_append_left (by simp; omega), List.getElem?_take, if_pos hj']
        · rw [List.getElem?_append_right (by simp; omega), List.length_take, Nat.min_eq_left (by omega), show j - i = (j - i - 1) + 1 by omega, List.getElem?_cons_succ, List.getElem?_drop]
          congr 1
          omega
    rw [hset, List.flatten_append, List.flatten_cons, flatten_take i h, flatten_drop (i + 1) h, List.map_append, List.map_append, List.map_take, List.map_drop]
    simp only [List.length_map, hl]
    rw [show (i + 1) * sz = i * sz + sz by rw [Nat.add_mul, Nat.one_mul], List.append_assoc]

/-- Parts that are laid: as values, as cells. -/
theorem vrs_toPL {h : Array Obj} {cs : List AV} {vs : Array Value} {ps : List PV} (hv : VRs g h cs vs) (hp : toPVs cs = some ps) (h1 : ps.all PV.oneCell = true) : PL g.U h ps vs.toList := by
  obtain ⟨h2, h3⟩ := vrs_toPVs hv hp
  refine ⟨by rw [Array.length_toList]; exact h2, fun i p v ha hb => h3 i p v ha (by simpa using hb), fun v hm => ?_⟩
  obtain ⟨i, hi⟩ := List.mem_iff_getElem?.1 hm
  have hlt : i < ps.length := by rw [h2]; have := (List.getElem?_eq_some_iff.1 hi).1; simpa using this
  exact pr_oneCell (h3 i _ v (List.getElem?_eq_getElem hlt) (by simpa using hi)) (List.all_eq_true.1 h1 _ (List.getElem_mem hlt))

theorem PL.vrs {h : Array Obj} {ps : List PV} {vs : Array Value} (hp : PL g.U h ps vs.toList) : VRs g h (ps.map AV.p) vs := by
  refine ⟨by simpa using hp.1, fun i b v hb hv => ?_⟩
  rw [List.getElem?_map] at hb
  obtain ⟨p, hpi, rfl⟩ := Option.map_eq_some_iff.1 hb
  exact .p (hp.2.1 i p v hpi (by simpa using hv))
theorem vrs_pl {h : Array Obj} {ps : List PV} {vs : Array Value} (hv : VRs g h (ps.map AV.p) vs) (h1 : ps.all PV.oneCell = true) : PL g.U h ps vs.toList := by
  refine vrs_toPL hv ?_ h1
  clear hv h1
  induction ps with
  | nil => rfl
  | cons p ps ih =>
    simp only [toPVs] at ih
    simp [toPVs, List.mapM_cons, ih, AV.toPV]

theorem all_setEls {sz : Nat} : ∀ (ps : List (Nat × List PV)) (xs : List (List PV)), (∀ x ∈ xs, x.all PV.oneCell = true) → (∀ p ∈ ps, p.2.all PV.oneCell = true) → ∀ x ∈ setEls xs ps, x.all PV.oneCell = true
  | [], xs, h, _ => h
  | (i, l) :: ps, xs, h, hp => all_setEls (sz := sz) ps _ (fun x hx => by
      rcases List.mem_or_eq_of_mem_set hx with h' | h'
      · exact h x h'
      · rw [h']; exact hp (i, l) (by simp)) (fun p hpp => hp p (by simp [hpp]))

theorem mem_bslice (hS : RelS Γ N g w a env m) {t e : TypeId} {len sz : Nat} {parts : Array (Nat × Operand)} {zero : List PV} {ps : List (Nat × X)} (ho : o.op = .buildSlice t len parts) (hu : P.underlying t = some (.slice e)) (hsz : sizeT P e = some sz)
    (hz : zeroT P e = some zero) (h24 : ¬ len * sz > 16777216) (hps : parts.toList.mapM (fun (i, x) => do pure (i, ← cX N x)) = some ps) {nm : Nat} {m' : Mem} (hv : cmem Γ env m nm (.bslice sz len zero ps) = some (r, m')) :
    ∃ v g' w', Did P a w o v w' ∧ Out Γ g w m g' w' m' ∧ VR g' w'.heap r v := by
  simp only [cmem] at hv
  split at hv
  · rename_i qs hm hqs
    split at hv
    · rename_i hc
      cases hv
      simp only [Bool.and_eq_true, List.all_eq_true, beq_iff_eq, decide_eq_true_eq] at hc
      obtain ⟨⟨⟨⟨hce, hq⟩, hzl⟩, hz1⟩, hlen⟩ := hc
      obtain ⟨z, hzrun, hzv, hzz⟩ := run_zeroT (g := g) hz w.heap
      obtain ⟨hl, hget⟩ := parts_get hps
      -- the elements as they are told
      have hqlen : qs.length = ps.length ∧ ∀ (i : Nat) p q, ps[i]? = some p → qs[i]? = some q → q.1 = p.1 ∧ toPVs (p.2.ev Γ env).cells = some q.2 := by
        clear hl hget hps hce hq ho
        induction ps generalizing qs with
        | nil =>
          simp only [List.mapM_nil, pure, Option.some.injEq] at hqs
          subst hqs
          exact ⟨rfl, fun i p q h => by simp at h⟩
        | cons p ps ih =>
          simp only [List.mapM_cons, bind, Option.bind_eq_some_iff, pure, Option.some.injEq] at hqs
          obtain ⟨q0, hq0, qr, hqr, rfl⟩ := hqs
          obtain ⟨l0, hl0, rfl⟩ := Option.map_eq_some_iff.1 hq0
          obtain ⟨k1, k2⟩ := ih qr hqr
          refine ⟨by simp [k1], fun i p' q hp' hq' => ?_⟩
          cases i with
          | zero => simp at hp' hq'; subst hp'; subst hq'; exact ⟨rfl, hl0⟩
          | succ i => exact k2 i p' q (by simpa using hp') (by simpa using hq')
      have hrep : ∀ x ∈ List.replicate len zero, x.length = sz := fun x hx => by rw [List.eq_of_mem_replicate hx]; exact hzl
      have hqsz : ∀ p ∈ qs, p.2.length = sz ∧ p.1 < (List.replicate len zero).length := fun p hp => by
        have := hq p hp
        simp only [List.length_replicate]
        exact ⟨this.1.1, this.2⟩
      obtain ⟨s1, s2, s3⟩ := setEls_spec qs _ hrep hqsz
      -- the model's row of noughts
      have hsz0 : z.cells.size = sz := by rw [← hzl, hzz]; simp
      have hzero : VRs g w.heap ((List.replicate len zero).flatten.map AV.p) ((Array.range (len * sz)).map (z.cells[· % z.cells.size]!)) := by
        have hfl := flatten_length hrep
        rw [List.length_replicate] at hfl
        refine ⟨by simp only [List.length_map, Array.size_map, Array.size_range]; exact hfl, fun i b v hb hv => ?_⟩
        have hi : i < len * sz := by
          have h := (List.getElem?_eq_some_iff.1 hb).1
          rw [List.length_map, hfl] at h
          exact h
        have hs0 : 0 < sz := by
          rcases Nat.eq_zero_or_pos sz with h | h
          · subst h; simp at hi
          · exact h
        have hmod : i % sz < sz := Nat.mod_lt _ hs0
        have hd : i / sz < len := by rw [Nat.div_lt_iff_lt_mul hs0]; exact hi
        have hbi : (List.replicate len zero).flatten[i]? = zero[i % sz]? := by
          have h5 := flatten_at hrep (i := i / sz) (by simpa using hd) []
          have h6 : (List.replicate len zero).getD (i / sz) [] = zero := by
            rw [List.getD_eq_getElem?_getD, List.getElem?_replicate, if_pos hd]; rfl
          rw [h6] at h5
          have h7 : zero[i % sz]? = (((List.replicate len zero).flatten.drop (i / sz * sz)).take sz)[i % sz]? := congrArg (fun l : List PV => l[i % sz]?) h5
          rw [h7, List.getElem?_take, if_pos hmod, List.getElem?_drop, Nat.mul_comm, Nat.div_add_mod]
        rw [List.getElem?_map, hbi, hzz] at hb
        simp only [List.getElem?_map, Array.getElem?_toList] at hb
        rw [Array.getElem?_map, Array.getElem?_range, if_pos hi] at hv
        simp only [Option.map_some, Option.some.injEq, hsz0] at hv
        rw [getElem!_pos z.cells _ (by rw [hsz0]; exact hmod)] at hv
        rw [Array.getElem?_eq_getElem (by rw [hsz0]; exact hmod)] at hb
        simp at hb
        subst hb; subst hv
        exact .p (.s _)
      obtain ⟨vs', hfill, hvs'⟩ := fill_run (h := w.heap) (g := g) (fun i => some (i * sz, sz)) (parts.map fun (i, x) => (i, a.eval x)).toList (qs.map fun p => (p.1 * sz, p.2.map AV.p)) _ _ hzero (by simp [hqlen.1, hl]) (fun i p q hp hq' => by
        simp only [Array.toList_map, List.getElem?_map] at hp hq'
        obtain ⟨x, hx, rfl⟩ := Option.map_eq_some_iff.1 hp
        obtain ⟨q0, hq0, rfl⟩ := Option.map_eq_some_iff.1 hq'
        have hip : i < ps.length := by rw [← hqlen.1]; exact (List.getElem?_eq_some_iff.1 hq0).1
        obtain ⟨k1, k2⟩ := hqlen.2 i _ q0 (List.getElem?_eq_getElem hip) hq0
        have k3 := hget i x _ hx (List.getElem?_eq_getElem hip)
        obtain ⟨xi, xo⟩ := x
        simp only [bind, Option.bind_eq_some_iff, pure, Option.some.injEq] at k3
        obtain ⟨y, hy, hpe⟩ := k3
        obtain ⟨k4, k5⟩ := hqsz q0 (List.mem_of_getElem? hq0)
        have k6 : ps[i].1 = xi ∧ ps[i].2 = y := by rw [← hpe]; exact ⟨rfl, rfl⟩
        rw [k6.1] at k1
        rw [k6.2] at k2
        have hcell := vr_cells (cX_sound hS hy) (celled_or (by have := hce _ (List.getElem_mem hip); rwa [k6.2] at this))
        refine ⟨by simp [k1, k4], ?_, ?_⟩
        · exact (vrs_toPL hcell k2 (by have := hq q0 (List.mem_of_getElem? hq0); exact List.all_eq_true.2 this.1.2)).vrs
        · simp only [List.length_map, k4]
          rw [flatten_length hrep, ← Nat.succ_mul]
          exact Nat.mul_le_mul_right _ k5)
      rw [← s3] at hvs'
      have hall1 : (setEls (List.replicate len zero) qs).flatten.all PV.oneCell = true := by
        rw [List.all_flatten]
        refine List.all_eq_true.2 (fun x hx => all_setEls (sz := sz) qs _ (fun y hy => ?_) (fun p hp => ?_) x hx)
        · rw [List.eq_of_mem_replicate hy]; exact List.all_eq_true.2 hz1
        · exact List.all_eq_true.2 (hq p hp).1.2
      have hpl := vrs_pl hvs' hall1
      have hflat := flatten_length s2
      rw [s1, List.length_replicate] at hflat
      have hvsz : vs'.size = len * sz := by rw [← hvs'.1]; simp only [List.length_map]; exact hflat
      have hout := hS.rel.newTok hm vs' e (len * sz) (by rw [hvsz]; exact Nat.le_refl _) (w' := w.alloc (.cells vs' e)) rfl (sameW_alloc _ _)
      refine ⟨.slice (some ⟨w.heap.size, 0, none⟩) len len, _, _, .inl ?_, hout, ?_⟩
      · unfold execOp
        simp only [ho]
        refine exec_val' ?_
        simp only [Instr.buildSlice, Sem.run_bind, run_underlying hu, Result.andThen_ok, run_sizeOf hsz, if_neg h24]
        by_cases h0 : len * sz = 0
        · have he0 : ((Array.range (len * sz)).map (z.cells[· % z.cells.size]!)) = ((Array.range (len * sz)).map ((#[] : Array Value)[· % (#[] : Array Value).size]!)) := by rw [h0]; simp
          rw [he0] at hfill
          rw [if_pos h0]
          simp only [Sem.run_bind, Sem.run_pure, Result.andThen_ok]
          rw [hfill]
          simp [newRow]
        · rw [if_neg h0]
          simp only [Sem.run_bind, hzrun, Result.andThen_ok, Sem.run_pure]
          rw [hfill]
          simp [newRow]
      · have hlx : (setEls (List.replicate len zero) qs).length = len := by rw [s1]; simp
        have hps := (hpl.mono hout.st.pers).slice s2 (ad := ⟨w.heap.size, 0, none⟩) (vs := vs') (T := e) (fr := (0, 0)) (u := len * sz) (c := len) rfl (push_new) (by simp) (by rw [hlx]; simp) (by rw [hlx]; exact Nat.le_refl _) (by rw [hlx]; exact hlen) (by simp only [maxLen]; omega) (fun j _ => by simp)
        rw [hlx] at hps
        exact .own hps (.inr ⟨⟨w.heap.size, 0, none⟩, vs', e, (0, 0), len * sz, rfl, rfl, push_new, by simp, by simp [hvsz], by simp⟩)
    · cases hv
  · cases hv
end
end Go.Shade

/- append, and slices of arrays. Own work. -/
namespace Go.Shade
open Go

section
variable {P : Program} {N : Nat} {Γ : Globs} {g : Gh} {w : World} {a : Act} {env : Nat → AV} {m : Mem} {o : Oper} {r : AV} {c : COp}

theorem pl_bytes (U : Nat → Option Nat) (h : Array Obj) : ∀ (l : List UInt8), PL U h (l.map fun b => [PV.s (.int .u8 b.toNat)]).flatten (l.map fun b => Value.int .u8 b.toNat)
  | [] => ⟨rfl, fun i p v h => by simp at h, fun v h => by simp at h⟩
  | b :: l => by
    have h1 : PL U h [PV.s (.int .u8 b.toNat)] [Value.int .u8 b.toNat] := ⟨rfl, fun i p v hp hv => by
      cases i with
      | zero => simp at hp hv; subst hp; subst hv; exact .s _
      | succ i => simp at hp, fun v hv => by simp at hv; subst hv; rfl⟩
    simpa using h1.append (pl_bytes U h l)

/-- What is appended. -/
theorem src_of {u : TypeId} (hk : (∃ e', P.underlying u = some (.slice e')) ∨ P.underlying u = some .string) {b : AV} {v : Value} {sz : Nat} (h0 : sz ≠ 0) {ys : List (List PV)} (hr : VR g w.heap b v) (hs : b.asSrc sz = some ys) :
    ∃ news, Src P sz u v ys.length news w ∧ PL g.U w.heap ys.flatten news ∧ ∀ y ∈ ys, y.length = sz := by
  unfold AV.asSrc at hs
  split at hs
  · rename_i s
    split at hs
    · rename_i h1
      subst h1
      cases hs
      have := vr_s hr
      subst this
      have hl : (s.data.toList.map fun b => [PV.s (.int .u8 b.toNat)]).length = s.size := by rw [List.length_map, Array.length_toList]; rfl
      refine ⟨byteCells s, ⟨hk, fun _ => by rw [hl]; rfl, by rw [hl]; exact firstCells_string s w, by rw [hl]; exact firstCells_string s w.drew, by rw [hl, byteCells_length, Nat.mul_one], fun u hu => ?_⟩, pl_bytes _ _ _, fun y hy => ?_⟩
      · obtain ⟨_, _, rfl⟩ := List.mem_map.1 hu
        rfl
      · obtain ⟨_, _, rfl⟩ := List.mem_map.1 hy
        rfl
    · cases hs
  · obtain ⟨A, n, c, rfl, hp⟩ := vr_asSl hr hs
    obtain ⟨vl, hpl, hn, hc, hm, hcm, hsz, hat⟩ := pr_cells hp
    have hfl := flatten_length hsz
    refine ⟨vl, ?_, hpl, hsz⟩
    rw [hn]
    have hvl : vl.length = n * sz := by rw [← hpl.1, hfl, hn]
    rcases Nat.eq_zero_or_pos n with h | h
    · subst h
      have hv0 : vl = [] := List.eq_nil_of_length_eq_zero (by omega)
      subst hv0
      cases A with
      | none => exact ⟨hk, fun _ => rfl, run_firstCells_none w sz 0 0 c, run_firstCells_none w.drew sz 0 0 c, by simp, fun _ h => by cases h⟩
      | some ad => exact ⟨hk, fun _ => rfl, run_firstCells_some w sz 0 ad 0 c [] (by simp) (fun j v h => by simp at h), run_firstCells_some w.drew sz 0 ad 0 c [] (by simp) (fun j v h => by simp at h), by simp, fun _ h => by cases h⟩
    · obtain ⟨ad, vs, T, fr, u', rfl, hs, hh, hu, hle, hv⟩ := hat (Nat.mul_pos h (Nat.pos_of_ne_zero h0))
      have hcell : ∀ j v, vl[j]? = some v → w.cell? (ad.add j) = some v := fun j v hj => by
        have hjl : j < n * sz := by rw [← hvl]; exact (List.getElem?_eq_some_iff.1 hj).1
        rw [add_spot hs]
        simp [World.cell?, hh, hv j hjl, hj]
      exact ⟨hk, fun _ => rfl, run_firstCells_some w sz n ad n c vl hvl hcell, run_firstCells_some w.drew sz n ad n c vl hvl (fun j v hj => by simpa using hcell j v hj), hvl, hpl.2.2⟩

theorem run_append_there {t u ty e : TypeId} {i : TypeInfo} (ht : P.underlying t = some (.slice e)) (hi : P.info? e = some i) {ad : Addr} (hs : ad.spot = none) {n c : Nat} {x : Value} {k : Nat} {news : List Value} (hsrc : Src P i.size u x k news w) (hroom : n + k ≤ c)
    {vs : Array Value} {T : TypeId} (hh : w.heap[ad.block]? = some (.cells vs T (0, 0))) (hfit : ad.off + c * i.size ≤ vs.size) :
    (Builtin.append_ #[t, u] ty #[.slice (some ad) n c, x]).run P w = .ok (.slice (some ad) (n + k) c) (w.setRow ad.block (vs.toList.take (ad.off + n * i.size) ++ news ++ vs.toList.drop (ad.off + n * i.size + news.length)).toArray) := by
  have hmul : n * i.size + k * i.size ≤ c * i.size := by rw [← Nat.add_mul]; exact Nat.mul_le_mul_right _ hroom
  have hst := run_storeCells_at (P := P) ad.block (ad.off + n * i.size) T news 0 vs w hh (by rw [hsrc.newsLen]; omega) hsrc.one
  simp only [Nat.add_zero] at hst
  rcases hsrc.kind with ⟨e', hk⟩ | hk <;> simp [Builtin.append_, run_underlying ht, run_underlying hk, sizeOf, typeInfo, hi, hsrc.len, hroom, hsrc.cells, add_spot hs, hst]

theorem tok_alt {t sz : Nat} {A : Option Addr} {n c : Nat} (ht : TokR g w.heap t sz A n c) (hR : Rel Γ g w m) (hm : m t = some .tok) (hc : c ≠ 0) :
    ∃ ad vs T, A = some ad ∧ ad.spot = none ∧ w.heap[ad.block]? = some (.cells vs T (0, 0)) ∧ g.U ad.block = some (ad.off + n * sz) ∧ ad.off + c * sz ≤ vs.size ∧ g.τ t = some (some (ad.block, ad.off + n * sz)) := by
  rcases ht with ⟨_, h, _⟩ | ⟨ad, vs, T, fr, u, rfl, hs, hh, hu, hle, hτ⟩
  · exact absurd h hc
  · rcases hR.tok t hm with h | ⟨k, e, vs', T', h, hh', hU⟩
    · rw [hτ] at h; cases h
    · rw [hτ] at h
      cases h
      rw [hh] at hh'
      cases hh'
      exact ⟨ad, vs, T, rfl, hs, hh, hU, hle, hτ⟩

theorem wlist_take {l : List Value} {off : Nat} {news : List Value} (hle : off + news.length ≤ l.length) (i : Nat) : ((l.take off ++ news ++ l.drop (off + news.length)).toArray)[i]? = if off ≤ i ∧ i < off + news.length then news[i - off]? else l[i]? := by
  rw [List.getElem?_toArray]
  by_cases h1 : i < off
  · rw [if_neg (by omega), List.append_assoc, List.getElem?_append_left (by rw [List.length_take]; omega), List.getElem?_take, if_pos h1]
  · by_cases h2 : i < off + news.length
    · rw [if_pos (by omega), List.append_assoc, List.getElem?_append_right (by rw [List.length_take]; omega), List.getElem?_append_left (by rw [List.length_take]; omega), List.length_take, Nat.min_eq_left (by omega)]
    · rw [if_neg (by omega), List.getElem?_append_right (by rw [List.length_append, List.length_take]; omega), List.getElem?_drop, List.length_append, List.length_take, Nat.min_eq_left (by omega)]
      congr 1
      omega

section
variable {t u ty e : TypeId} {i : TypeInfo} {zero : List PV} {xs ys : List (List PV)} {A : Option Addr} {n cp : Nat} {v : Value} {news : List Value} {nm : Nat}

theorem olds_run {vl : List Value} (h0 : i.size ≠ 0) (hpl : vl.length = n * i.size) (hat : 0 < n * i.size → ∃ ad vs T fr u, A = some ad ∧ ad.spot = none ∧ w.heap[ad.block]? = some (.cells vs T fr) ∧ g.U ad.block = some u ∧ ad.off + n * i.size ≤ u ∧ ∀ j, j < n * i.size → vs[ad.off + j]? = vl[j]?) :
    (Builtin.firstCells i.size n (.slice A n cp)).run P w.drew = .ok vl.toArray w.drew := by
  rcases Nat.eq_zero_or_pos n with h | h
  · subst h
    have hv0 : vl = [] := List.eq_nil_of_length_eq_zero (by omega)
    subst hv0
    cases A with
    | none => exact run_firstCells_none w.drew i.size 0 0 cp
    | some ad => exact run_firstCells_some w.drew i.size 0 ad 0 cp [] (by simp) (fun j v h => by simp at h)
  · obtain ⟨ad, vs, T, fr, u', rfl, hs, hh, _, _, hv⟩ := hat (Nat.mul_pos h (Nat.pos_of_ne_zero h0))
    refine run_firstCells_some w.drew i.size n ad n cp vl hpl (fun j x hj => ?_)
    have hjl : j < n * i.size := by rw [← hpl]; exact (List.getElem?_eq_some_iff.1 hj).1
    rw [add_spot hs, World.cell?_drew]
    simp [World.cell?, hh, hv j hjl, hj]

theorem append_new (hR : Rel Γ g w m) (ht : P.underlying t = some (.slice e)) (hi : P.info? e = some i) (hz : zeroT P e = some zero) (hzl : zero.length = i.size) (h0 : i.size ≠ 0) (hb0 : i.bytes ≠ 0)
    (hp : PR g.U w.heap (.sl i.size xs) (.slice A n cp)) (hsrc : Src P i.size u v ys.length news w) (hpl : PL g.U w.heap ys.flatten news) (hysz : ∀ y ∈ ys, y.length = i.size)
    (hfit : (xs.length + ys.length) * i.bytes ≤ 140737488355328) (hnm : m nm = none) (hgrow : cp < n + ys.length) :
    ∃ v' g' w', (Builtin.append_ #[t, u] ty #[.slice A n cp, v]).run P w = .ok v' w' ∧ Out Γ g w m g' w' (upd m nm (some .tok)) ∧ VR g' w'.heap (.own nm i.size (xs ++ ys)) v' := by
  obtain ⟨vl, hvl, hn, hc, hm, hcm, hsz, hat⟩ := pr_cells hp
  have hfl := flatten_length hsz
  have hvll : vl.length = n * i.size := by rw [← hvl.1, hfl, hn]
  have hold := olds_run (P := P) (w := w) (g := g) (cp := cp) (i := i) h0 hvll hat
  obtain ⟨iz, z, hiz, hz1, hzv⟩ := vrs_zero (g := g) w.heap hz
  rw [hi] at hiz
  cases hiz
  rw [hn] at hfit
  have hpos : 0 < i.bytes := Nat.pos_of_ne_zero hb0
  have hle48 : n + ys.length ≤ 140737488355328 := Nat.le_trans (Nat.le_mul_of_pos_right _ hpos) hfit
  have hrun := run_append_grow_src (P := P) w t u ty e i z ht hi hz1 A n cp vl hold v ys.length news hsrc hgrow (by omega) (growslice_fits hgrow hfit)
  have hcap := grownCap_ge w (n + ys.length) cp e
  have hcapm := grownCap_le_maxLen w (n + ys.length) cp e (by simp only [maxLen]; omega)
  generalize grownCap w (n + ys.length) cp e = C at hrun hcap hcapm
  have hzs : z.cells.size = i.size := by have := hzv.1; simpa [hzl] using this.symm
  have hzc : (Builtin.zeroCells z.cells (C - (n + ys.length))).size = (C - (n + ys.length)) * i.size := by simp [Builtin.zeroCells, hzs]
  have hcells := hvl.append hpl
  have hnews : (vl ++ news).length = (n + ys.length) * i.size := by rw [List.length_append, hvll, hsrc.newsLen, Nat.add_mul]
  have hsize : ((vl ++ news).toArray ++ Builtin.zeroCells z.cells (C - (n + ys.length))).size = C * i.size := by
    rw [Array.size_append, hzc, List.size_toArray, hnews, ← Nat.add_mul]
    congr 1
    omega
  have hle : (n + ys.length) * i.size ≤ C * i.size := Nat.mul_le_mul_right _ hcap
  have hout := hR.newTok hnm ((vl ++ news).toArray ++ Builtin.zeroCells z.cells (C - (n + ys.length))) e ((n + ys.length) * i.size) (by rw [hsize]; exact hle) (w' := w.drew.alloc (.cells ((vl ++ news).toArray ++ Builtin.zeroCells z.cells (C - (n + ys.length))) e)) rfl ⟨rfl, rfl, rfl⟩
  refine ⟨_, _, _, hrun, hout, ?_⟩
  have hsz2 : ∀ x ∈ xs ++ ys, x.length = i.size := fun x hx => by
    rcases List.mem_append.1 hx with h | h
    · exact hsz x h
    · exact hysz x h
  have hlen : (xs ++ ys).length = n + ys.length := by rw [List.length_append, hn]
  have hflat : (xs ++ ys).flatten = xs.flatten ++ ys.flatten := by simp
  have hps := PL.slice (sz := i.size) (xs := xs ++ ys) (by rw [hflat]; exact hcells.mono hout.st.pers) hsz2 (ad := ⟨w.heap.size, 0, none⟩) (vs := (vl ++ news).toArray ++ Builtin.zeroCells z.cells (C - (n + ys.length))) (T := e) (fr := (0, 0)) (u := (n + ys.length) * i.size) (c := C) rfl push_new (by simp)
    (by rw [hlen]; simp) (by rw [hlen]; exact hcap) (by rw [hlen]; omega) hcapm (fun j hj => by
      rw [hlen] at hj
      rw [Nat.zero_add, Array.getElem?_append_left (by rw [List.size_toArray, hnews]; exact hj)]
      simp)
  rw [hlen] at hps
  exact .own hps (.inr ⟨⟨w.heap.size, 0, none⟩, _, e, (0, 0), (n + ys.length) * i.size, rfl, rfl, push_new, by simp, by simp only [Nat.zero_add]; rw [hsize]; exact Nat.le_refl _, by simp⟩)

theorem append_own (hR : Rel Γ g w m) (ht : P.underlying t = some (.slice e)) (hi : P.info? e = some i) (hz : zeroT P e = some zero) (hzl : zero.length = i.size) (h0 : i.size ≠ 0) (hb0 : i.bytes ≠ 0)
    (hp : PR g.U w.heap (.sl i.size xs) (.slice A n cp)) (hsrc : Src P i.size u v ys.length news w) (hpl : PL g.U w.heap ys.flatten news) (hysz : ∀ y ∈ ys, y.length = i.size)
    (hfit : (xs.length + ys.length) * i.bytes ≤ 140737488355328) (hnm : m nm = none) {tk : Nat} (htk : m tk = some .tok) (htok : TokR g w.heap tk i.size A n cp) :
    ∃ v' g' w', (Builtin.append_ #[t, u] ty #[.slice A n cp, v]).run P w = .ok v' w' ∧ Out Γ g w m g' w' (upd (upd m tk (some .dead)) nm (some .tok)) ∧ VR g' w'.heap (.own nm i.size (xs ++ ys)) v' := by
  have hkill := hR.kill (n := tk) (by rw [htk]; simp)
  have hne : nm ≠ tk := fun h => by subst h; rw [hnm] at htk; cases htk
  have hnm' : upd m tk (some Res.dead) nm = none := by rw [upd_ne _ _ hne]; exact hnm
  by_cases hroom : n + ys.length ≤ cp
  · by_cases hc0 : cp = 0
    · have hy0 : ys = [] := List.eq_nil_of_length_eq_zero (by omega)
      subst hy0
      have hn0 : n = 0 := by omega
      subst hc0; subst hn0
      have hv0 : news = [] := List.eq_nil_of_length_eq_zero (by have := hpl.1; simpa using this.symm)
      subst hv0
      have hrun := run_append_nothing (P := P) w t u ty e i ht hi A 0 0 (Nat.le_refl _) v hsrc
      have hout := hkill.trans (hkill.rel.nilTok (w' := w) hnm' rfl ⟨rfl, rfl, rfl⟩)
      refine ⟨_, _, _, hrun, hout, ?_⟩
      rw [List.append_nil]
      exact .own (hp.mono hout.st.pers) (.inl ⟨rfl, rfl, none, by simp⟩)
    · obtain ⟨ad, vs, T, rfl, hs, hh, hU, hle, hτ⟩ := tok_alt htok hR htk hc0
      obtain ⟨vl, hvl, hn, hc, hm, hcm, hsz, hat⟩ := pr_cells hp
      have hfl := flatten_length hsz
      have hfy := flatten_length hysz
      have hrun := run_append_there (P := P) (w := w) (ty := ty) ht hi hs hsrc hroom hh hle
      have hmul : n * i.size + ys.length * i.size ≤ cp * i.size := by rw [← Nat.add_mul]; exact Nat.mul_le_mul_right _ hroom
      have hnl : news.length = ys.length * i.size := hsrc.newsLen
      have hvt : vs.toList.length = vs.size := Array.length_toList
      have hvsl : ad.off + n * i.size + news.length ≤ vs.toList.length := by rw [hvt, hnl]; omega
      have hget := wlist_take (l := vs.toList) (off := ad.off + n * i.size) (news := news) hvsl
      have hsz' : (vs.toList.take (ad.off + n * i.size) ++ news ++ vs.toList.drop (ad.off + n * i.size + news.length)).toArray.size = vs.size := by
        rw [List.size_toArray, List.length_append, List.length_append, List.length_take, List.length_drop]
        omega
      have hout := hR.grow htk hnm hτ hh (vs.toList.take (ad.off + n * i.size) ++ news ++ vs.toList.drop (ad.off + n * i.size + news.length)).toArray hsz' (fun j hj => by rw [hget, if_neg (by omega)]; simp) (ad.off + (n + ys.length) * i.size) (by rw [Nat.add_mul]; omega) (by rw [Nat.add_mul]; omega) (heap_setRow hh) (sameW_setRow _ _ _)
      refine ⟨_, _, _, hrun, hout, ?_⟩
      have hsz2 : ∀ x ∈ xs ++ ys, x.length = i.size := fun x hx => by
        rcases List.mem_append.1 hx with h | h
        · exact hsz x h
        · exact hysz x h
      have hlen : (xs ++ ys).length = n + ys.length := by rw [List.length_append, hn]
      have hflat : (xs ++ ys).flatten = xs.flatten ++ ys.flatten := by simp
      have hvll : vl.length = n * i.size := by rw [← hvl.1, hfl, hn]
      have hheap : (w.setRow ad.block (vs.toList.take (ad.off + n * i.size) ++ news ++ vs.toList.drop (ad.off + n * i.size + news.length)).toArray).heap[ad.block]? = some (.cells (vs.toList.take (ad.off + n * i.size) ++ news ++ vs.toList.drop (ad.off + n * i.size + news.length)).toArray T (0, 0)) := setRow_heap w _ vs _ T (0, 0) hh
      have hps := PL.slice (sz := i.size) (xs := xs ++ ys) (vl := vl ++ news) (by rw [hflat]; exact (hvl.append hpl).mono hout.st.pers) hsz2 (ad := ad) (T := T) (fr := (0, 0)) (u := ad.off + (n + ys.length) * i.size) (c := cp) hs hheap (by simp)
        (by rw [hlen]; exact Nat.le_refl _) (by rw [hlen]; exact hroom) (by
          rw [hlen]
          have hpos : 0 < i.bytes := Nat.pos_of_ne_zero hb0
          rw [hn] at hfit
          have : n + ys.length ≤ 140737488355328 := Nat.le_trans (Nat.le_mul_of_pos_right _ hpos) hfit
          omega) hcm (fun j hj => by
          rw [hlen] at hj
          rw [hget]
          by_cases hjn : j < n * i.size
          · obtain ⟨ad', vs', T', fr', u', h1, h2, h3, h4, h5, h6⟩ := hat (by omega)
            cases h1
            rw [hh] at h3
            cases h3
            rw [if_neg (by omega), Array.getElem?_toList, h6 j hjn, List.getElem?_append_left (by omega)]
          · rw [if_pos (by rw [hnl]; rw [Nat.add_mul] at hj; omega), List.getElem?_append_right (by omega), hvll]
            congr 1
            omega)
      rw [hlen] at hps
      refine .own hps (.inr ⟨ad, _, T, (0, 0), ad.off + (n + ys.length) * i.size, rfl, hs, hheap, by simp, by rw [hsz']; exact hle, by simp⟩)
  · obtain ⟨v', g', w', h1, h2, h3⟩ := append_new (P := P) (u := u) (ty := ty) (v := v) hkill.rel ht hi hz hzl h0 hb0 hp hsrc hpl hysz hfit hnm' (by omega)
    exact ⟨v', g', w', h1, hkill.trans h2, h3⟩

theorem append_nil (hR : Rel Γ g w m) (ht : P.underlying t = some (.slice e)) (hi : P.info? e = some i) (hz : zeroT P e = some zero) (hzl : zero.length = i.size) (h0 : i.size ≠ 0) (hb0 : i.bytes ≠ 0)
    (hsrc : Src P i.size u v ys.length news w) (hpl : PL g.U w.heap ys.flatten news) (hysz : ∀ y ∈ ys, y.length = i.size) (hfit : ys.length * i.bytes ≤ 140737488355328) (hnm : m nm = none) :
    ∃ v' g' w', (Builtin.append_ #[t, u] ty #[.slice none 0 0, v]).run P w = .ok v' w' ∧ Out Γ g w m g' w' (upd m nm (some .tok)) ∧ VR g' w'.heap (.own nm i.size ys) v' := by
  have hp0 : PR g.U w.heap (.sl i.size []) (.slice none 0 0) := .sl (fun _ => default) rfl (Nat.le_refl _) (by omega) (by simp) (fun _ h => by simp at h) (fun hl => by simp at hl) (fun j a h => by simp at h)
  rcases Nat.eq_zero_or_pos ys.length with hy | hy
  · have hy0 : ys = [] := List.eq_nil_of_length_eq_zero hy
    subst hy0
    have hv0 : news = [] := List.eq_nil_of_length_eq_zero (by have := hpl.1; simpa using this.symm)
    subst hv0
    have hrun := run_append_nothing (P := P) w t u ty e i ht hi none 0 0 (Nat.le_refl _) v hsrc
    have hout := hR.nilTok (w' := w) hnm rfl ⟨rfl, rfl, rfl⟩
    exact ⟨_, _, _, hrun, hout, .own (hp0.mono hout.st.pers) (.inl ⟨rfl, rfl, none, by simp⟩)⟩
  · have := append_new (P := P) (u := u) (ty := ty) (v := v) hR ht hi hz hzl h0 hb0 hp0 hsrc hpl hysz (by simpa using hfit) hnm (by omega)
    simpa using this
end

theorem mem_append (hS : RelS Γ N g w a env m) {t u e : TypeId} {i : TypeInfo} {zero : List PV} {args : Array Operand} {ts : Array TypeId} {s x : Operand} {s' x' : X} (ho : o.op = .call { callee := .builtin .append, args, argTypes := ts }) (ha : args.toList = [s, x]) (hts : ts.toList = [t, u])
    (ht : P.underlying t = some (.slice e)) (hi : P.info? e = some i) (hu : (∃ e', P.underlying u = some (.slice e')) ∨ P.underlying u = some .string) (hz : zeroT P e = some zero) (hs : cX N s = some s') (hx : cX N x = some x') {nm : Nat} {m' : Mem}
    (hv : cmem Γ env m nm (.append i.size i.bytes zero s' x') = some (r, m')) : ∃ v g' w', Did P a w o v w' ∧ Out Γ g w m g' w' m' ∧ VR g' w'.heap r v := by
  have ha := list2 ha
  have hts := list2 hts
  subst ha; subst hts
  obtain ⟨cs, hcs⟩ := exec_builtin (P := P) (a := a) (w := w) ho
  have hexec : ∀ {S V v' : Value} {w' : World}, a.eval s = S → a.eval x = V → (Builtin.append_ #[t, u] o.type #[S, V]).run P w = .ok v' w' → Did P a w o v' w' := by
    intro S V v' w' h1 h2 h3
    refine .inl ?_
    rw [hcs]
    simp [builtin, h1, h2, h3]
  simp only [cmem] at hv
  split at hv
  · rename_i ys xs hm hys hxs
    split at hv
    · rename_i hc
      obtain ⟨hzl, h0, hb0, _, hfit⟩ := hc
      obtain ⟨news, hsrc, hpl, hysz⟩ := src_of (P := P) hu h0 (cX_sound hS hx) hys
      have hsv := cX_sound hS hs
      split at hv
      · rename_i tk sz' xs' hev
        split at hv
        · rename_i htk
          cases hv
          rw [hev] at hsv hxs
          have hsz' : sz' = i.size ∧ xs' = xs := by
            simp only [AV.asSl] at hxs
            split at hxs
            · rename_i h; cases hxs; exact ⟨h, rfl⟩
            · cases hxs
          obtain ⟨rfl, rfl⟩ := hsz'
          generalize hS' : a.eval s = S at hsv
          cases hsv with
          | own h1 h2 =>
            obtain ⟨v', g', w', h3, h4, h5⟩ := append_own (P := P) (u := u) (ty := o.type) hS.rel ht hi hz hzl h0 hb0 h1 hsrc hpl hysz hfit hm htk h2
            exact ⟨v', g', w', hexec hS' rfl h3, h4, h5⟩
        · cases hv
      · rename_i hev
        cases hv
        rw [hev] at hsv hxs
        simp only [AV.asSl, Option.some.injEq] at hxs
        subst hxs
        obtain ⟨v', g', w', h3, h4, h5⟩ := append_nil (P := P) (u := u) (ty := o.type) hS.rel ht hi hz hzl h0 hb0 hsrc hpl hysz (by simpa using hfit) hm
        exact ⟨v', g', w', hexec (vr_s hsv) rfl h3, h4, h5⟩
      · cases hv
    · cases hv
  · cases hv

theorem flatten_ones {α : Type} : ∀ (l : List α), (l.map fun p => [p]).flatten = l
  | [] => rfl
  | x :: l => by rw [List.map_cons, List.flatten_cons, flatten_ones l]; rfl

theorem mem_aslice (hS : RelS Γ N g w a env m) {t e : TypeId} {n sz : Nat} {x : Operand} {lo hi : Option Operand} {x' : X} {lo' hi' : Option X} (ho : o.op = .slice t x lo hi none) (hu : P.underlying t = some (.array n e)) (hsz : sizeT P e = some sz)
    (hx : cX N x = some x') (hlo : cXo N lo = some lo') (hhi : cXo N hi = some hi') {nm : Nat} {m' : Mem} (hv : cmem Γ env m nm (.aslice sz n x' lo' hi') = some (r, m')) : ∃ v g' w', Did P a w o v w' ∧ Out Γ g w m g' w' m' ∧ VR g' w'.heap r v := by
  simp only [cmem] at hv
  split at hv
  · rename_i b off h1
    split at hv
    · rename_i cs fz hm
      simp only [bind, Option.bind_eq_some_iff] at hv
      obtain ⟨i, hi1, j, hj1, ⟨l, h⟩, hb, ps, hps, hv⟩ := hv
      simp only at hv hps
      split at hv
      · rename_i hc
        cases hv
        obtain ⟨rfl, hle, hone, hn48⟩ := hc
        have hxv := cX_sound hS hx
        rw [h1] at hxv
        obtain ⟨k, hk, he⟩ := vr_ptr hxv
        obtain ⟨k', vs, T, hk', hh, hl, hvs, _⟩ := hS.rel.box b cs fz hm
        rw [hk] at hk'
        cases hk'
        obtain ⟨hrun, hlh, hhn⟩ := run_sliceBounds (P := P) hS hlo hhi hi1 hj1 hb (Nat.le_refl n) false w
        have hout := hS.rel.freeze hm hk
        have hvl : VL g w.heap ((cs.drop (off + l)).take (h - l)) ((vs.toList.drop (off + l)).take (h - l)) := ((vp_of hl hvs).drop _).take (by rw [List.length_drop]; omega)
        have hpl := vrs_toPL hvl.arr hps hone
        have hpl' : PL g.U w.heap (ps.map fun p => [p]).flatten ((vs.toList.drop (off + l)).take (h - l)) := by rw [flatten_ones]; simpa using hpl
        have hpsl : ps.length = h - l := by
          rw [hpl.1]
          have hvt : vs.toList.length = vs.size := Array.length_toList
          simp
          omega
        have hlen : (ps.map fun p => [p]).length = h - l := by simp [hpsl]
        have hvt : vs.toList.length = vs.size := Array.length_toList
        refine ⟨.slice (some (if n = l then ⟨k, off, none⟩ else (⟨k, off, none⟩ : Addr).add (l * 1))) (h - l) (n - l), _, w, .inl ?_, hout, .p ?_⟩
        · unfold execOp
          simp only [ho, he]
          refine exec_val' ?_
          simp [Instr.sliceAt, run_underlying hu, Instr.sureAddr, hrun, run_sizeOf hsz]
        · by_cases hnl : n = l
          · have h0 : ps = [] := List.eq_nil_of_length_eq_zero (by omega)
            subst h0
            have hhl : h - l = 0 := by omega
            rw [hhl]
            exact .sl (fun _ => default) rfl (Nat.zero_le _) (by omega) (by simp only [maxLen]; omega) (by simp) (fun hl => by simp at hl) (fun j a h => by simp at h)
          · rw [if_neg hnl, Nat.mul_one, add_spot rfl]
            have := PL.slice (sz := 1) (xs := ps.map fun p => [p]) (hpl'.mono hout.st.pers) (fun x hx => by obtain ⟨_, _, rfl⟩ := List.mem_map.1 hx; rfl) (ad := ⟨k, off + l, none⟩) (vs := vs) (T := T) (fr := (0, 0)) (u := cs.length) (c := n - l) rfl hh (by simp)
              (by rw [hlen]; simp only; omega) (by rw [hlen]; omega) (by rw [hlen]; omega) (by simp only [maxLen]; omega) (fun j hj => by
                rw [hlen] at hj
                rw [List.getElem?_take, if_pos (by omega), List.getElem?_drop, Array.getElem?_toList])
            rw [hlen] at this
            exact this
      · cases hv
    · cases hv
  · cases hv

/-- Whether an operation makes a name. -/
theorem mem_sound (hS : RelS Γ N g w a env m) (hc : cop P N o = some c) {nm : Nat} {m' : Mem} (hv : cmem Γ env m nm c = some (r, m')) : ∃ v g' w', Did P a w o v w' ∧ Out Γ g w m g' w' m' ∧ VR g' w'.heap r v := by
  unfold cop at hc
  split at hc
  all_goals rename_i ho
  case h_4 =>
    simp only [bind, Option.bind_eq_some_iff] at hc
    obtain ⟨x, hx, y, hy, hc⟩ := hc
    repeat' split at hc
    all_goals first
      | (cases hc; done)
      | (cases hc; simp [cmem] at hv; done)
      | (simp only [Option.bind_eq_some_iff, pure, Option.some.injEq] at hc; obtain ⟨_, _, rfl⟩ := hc; simp [cmem] at hv; done)
  case h_6 =>
    simp only [bind, Option.bind_eq_some_iff] at hc
    obtain ⟨x, hx, hc⟩ := hc
    repeat' split at hc
    all_goals first
      | (cases hc; done)
      | (cases hc; simp [cmem] at hv; done)
  case h_7 =>
    simp only [bind, Option.bind_eq_some_iff] at hc
    obtain ⟨zero, hz, hc⟩ := hc
    split at hc
    · simp only [Option.bind_eq_some_iff] at hc
      obtain ⟨ps, hps, hc⟩ := hc
      split at hc
      · cases hc; simp [cmem] at hv
      · cases hc
    · simp only [Option.bind_eq_some_iff, pure, Option.some.injEq] at hc
      obtain ⟨_, _, _, _, rfl⟩ := hc
      simp [cmem] at hv
    · cases hc
  case h_8 =>
    simp only [bind, Option.bind_eq_some_iff] at hc
    obtain ⟨x, hx, hc⟩ := hc
    split at hc
    · simp only [Option.bind_eq_some_iff, pure, Option.some.injEq] at hc
      obtain ⟨_, _, _, _, rfl⟩ := hc
      simp [cmem] at hv
    · cases hc
  case h_9 =>
    simp only [bind, Option.bind_eq_some_iff] at hc
    obtain ⟨x, hx, y, hy, hc⟩ := hc
    split at hc
    · simp only [Option.bind_eq_some_iff, pure, Option.some.injEq] at hc
      obtain ⟨_, _, rfl⟩ := hc
      simp [cmem] at hv
    · cases hc; simp [cmem] at hv
    · cases hc
  case h_11 =>
    simp only [bind, Option.bind_eq_some_iff] at hc
    obtain ⟨x, hx, lo, hlo, hi, hhi, hc⟩ := hc
    split at hc
    · simp only [Option.bind_eq_some_iff, pure, Option.some.injEq] at hc
      obtain ⟨_, _, rfl⟩ := hc
      simp [cmem] at hv
    · rename_i n e hu
      simp only [Option.bind_eq_some_iff, pure, Option.some.injEq] at hc
      obtain ⟨sz, hsz, rfl⟩ := hc
      exact mem_aslice hS ho hu hsz hx hlo hhi hv
    · cases hc
  case h_12 =>
    simp only [bind, Option.bind_eq_some_iff] at hc
    obtain ⟨x, hx, hc⟩ := hc
    split at hc
    · simp only [Option.bind_eq_some_iff] at hc
      obtain ⟨_, _, _, _, hc⟩ := hc
      split at hc
      · cases hc
      · cases hc; simp [cmem] at hv
    · cases hc
  case h_13 =>
    simp only [bind, Option.bind_eq_some_iff] at hc
    obtain ⟨x, hx, y, hy, hc⟩ := hc
    split at hc
    · simp only [Option.bind_eq_some_iff] at hc
      obtain ⟨_, _, hc⟩ := hc
      split at hc
      · cases hc
      · cases hc; simp [cmem] at hv
    · simp only [Option.bind_eq_some_iff, pure, Option.some.injEq] at hc
      obtain ⟨_, _, rfl⟩ := hc
      simp [cmem] at hv
    · cases hc
  case h_15 =>
    simp only [bind, Option.bind_eq_some_iff] at hc
    obtain ⟨x, hx, hc⟩ := hc
    split at hc
    · cases hc
    · cases hc
    · cases hc; simp [cmem] at hv
  case h_17 =>
    simp only [bind, Option.bind_eq_some_iff] at hc
    obtain ⟨x, hx, hc⟩ := hc
    split at hc
    · cases hc; simp [cmem] at hv
    · cases hc
  case h_18 =>
    simp only [bind, Option.bind_eq_some_iff, pure, Option.some.injEq] at hc
    obtain ⟨n, hn, x, hx, rfl⟩ := hc
    exact mem_load hS ho hn hx hv
  case h_19 =>
    simp only [bind, Option.bind_eq_some_iff, pure, Option.some.injEq] at hc
    obtain ⟨n, hn, x, hx, y, hy, rfl⟩ := hc
    exact mem_store hS ho hn hx hy hv
  case h_20 =>
    simp only [bind, Option.bind_eq_some_iff, pure, Option.some.injEq] at hc
    obtain ⟨x, hx, rfl⟩ := hc
    exact mem_box hS ho hx hv
  case h_21 =>
    simp only [bind, Option.bind_eq_some_iff, pure, Option.some.injEq] at hc
    obtain ⟨z, hz, rfl⟩ := hc
    exact mem_alloc hS ho hz hv
  case h_22 =>
    split at hc
    · rename_i e hu
      simp only [bind, Option.bind_eq_some_iff] at hc
      obtain ⟨sz, hsz, zero, hz, hc⟩ := hc
      split at hc
      · cases hc
      · rename_i h24
        simp only [Option.bind_eq_some_iff, pure, Option.some.injEq] at hc
        obtain ⟨ps, hps, rfl⟩ := hc
        exact mem_bslice hS ho hu hsz hz h24 hps hv
    · cases hc
  case h_23 =>
    split at hc
    · simp only [bind, Option.bind_eq_some_iff] at hc
      obtain ⟨x', hx, hc⟩ := hc
      split at hc
      · cases hc; simp [cmem] at hv
      · cases hc; simp [cmem] at hv
      · cases hc
    · simp only [bind, Option.bind_eq_some_iff, pure, Option.some.injEq] at hc
      obtain ⟨_, _, _, _, rfl⟩ := hc
      simp [cmem] at hv
    · simp only [bind, Option.bind_eq_some_iff, pure, Option.some.injEq] at hc
      obtain ⟨_, _, _, _, rfl⟩ := hc
      simp [cmem] at hv
    · rename_i s x t u ha hts
      simp only [bind, Option.bind_eq_some_iff] at hc
      obtain ⟨s', hs, x', hx, hc⟩ := hc
      split at hc
      · rename_i e ht
        simp only [Option.bind_eq_some_iff] at hc
        obtain ⟨i, hi, hc⟩ := hc
        split at hc
        · rename_i e' hu
          simp only [Option.bind_eq_some_iff, pure, Option.some.injEq] at hc
          obtain ⟨z, hz, rfl⟩ := hc
          exact mem_append hS ho ha hts ht hi (.inl ⟨e', hu⟩) hz hs hx hv
        · rename_i hu
          simp only [Option.bind_eq_some_iff, pure, Option.some.injEq] at hc
          obtain ⟨z, hz, rfl⟩ := hc
          exact mem_append hS ho ha hts ht hi (.inr hu) hz hs hx hv
        · cases hc
      · cases hc
    · cases hc
  case h_26 => cases hc
  all_goals
    simp only [bind, Option.bind_eq_some_iff, pure, Option.some.injEq] at hc
    first
      | (obtain ⟨_, _, rfl⟩ := hc; simp [cmem] at hv; done)
      | (obtain ⟨_, _, _, _, rfl⟩ := hc; simp [cmem] at hv; done)
      | (obtain ⟨_, _, _, _, _, _, rfl⟩ := hc; simp [cmem] at hv; done)
end
end Go.Shade
