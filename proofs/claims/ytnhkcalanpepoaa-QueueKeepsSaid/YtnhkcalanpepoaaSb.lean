/- Steps of memory: a new box, a new owned slice, a store, an append in place, a name let go. Own work. -/
import Derived.Test.YtnhkcalanpepoaaSa
namespace Go.Shade
open Go

def upd {α : Type} (f : Nat → α) (n : Nat) (a : α) : Nat → α := fun i => if i = n then a else f i
@[simp] theorem upd_same {α : Type} (f : Nat → α) (n : Nat) (a : α) : upd f n a n = a := by simp [upd]
theorem upd_ne {α : Type} (f : Nat → α) {n i : Nat} (a : α) (h : i ≠ n) : upd f n a i = f i := by simp [upd, h]

structure SameW (w w' : World) : Prop where
  os : w'.os = w.os
  tape : w'.tape = w.tape
  output : w'.output = w.output

/-- What comes of a step of memory. -/
structure Out (Γ : Globs) (g : Gh) (w : World) (m : Mem) (g' : Gh) (w' : World) (m' : Mem) : Prop where
  rel : Rel Γ g' w' m'
  st : St g w m g' w' m'
  le : GhLe g g'
  names : ∀ n, m n ≠ none → g'.σ n = g.σ n ∧ g'.τ n = g.τ n
  dom : ∀ n, m n ≠ none → m' n ≠ none

theorem upd_dom {m : Mem} {n i : Nat} {r : Res} (h : m i ≠ none) : upd m n (some r) i ≠ none := by
  unfold upd
  split
  · simp
  · exact h
theorem Out.refl {Γ : Globs} {g : Gh} {w : World} {m : Mem} (hR : Rel Γ g w m) : Out Γ g w m g w m := ⟨hR, St.refl _ _ _, GhLe.refl _, fun _ _ => ⟨rfl, rfl⟩, fun _ h => h⟩
theorem Out.trans {Γ : Globs} {g g' g'' : Gh} {w w' w'' : World} {m m' m'' : Mem} (a : Out Γ g w m g' w' m') (b : Out Γ g' w' m' g'' w'' m'') : Out Γ g w m g'' w'' m'' :=
  ⟨b.rel, a.st.trans b.st, a.le.trans b.le, fun n h => ⟨((b.names n (a.dom n h)).1).trans (a.names n h).1, ((b.names n (a.dom n h)).2).trans (a.names n h).2⟩, fun n h => b.dom n (a.dom n h)⟩
theorem Out.vr {Γ : Globs} {g g' : Gh} {w w' : World} {m m' : Mem} (o : Out Γ g w m g' w' m') {a : AV} {v : Value} (h : VR g w.heap a v) : VR g' w'.heap a v := h.mono o.le o.st.pers

section
variable {Γ : Globs} {g : Gh} {w w' : World} {m : Mem}

theorem push_old {h : Array Obj} {o : Obj} {k : Nat} (hk : k < h.size) : (h.push o)[k]? = h[k]? := by
  rw [Array.getElem?_push]; simp [Nat.ne_of_lt hk]
theorem push_new {h : Array Obj} {o : Obj} : (h.push o)[h.size]? = some o := by simp

theorem Rel.none_new (hR : Rel Γ g w m) : g.U w.heap.size = none := by
  cases hu : g.U w.heap.size with
  | none => rfl
  | some u => exact absurd (hR.lt hu) (Nat.lt_irrefl _)

/-- The world draws, nothing else. -/
theorem Rel.same (hR : Rel Γ g w m) (hh : w'.heap = w.heap) (hs : SameW w w') : Out Γ g w m g w' m where
  rel := ⟨hR.fresh, by rw [hh]; exact hR.box, by rw [hh]; exact hR.tok, hR.inj, by rw [hh]; exact hR.ulen, by rw [hh]; exact hR.glob⟩
  st := ⟨hs.os, hs.tape, hs.output, fun a _ _ => frozen_same hh a, by rw [hh]; exact Nat.le_refl _, fun _ _ _ => ⟨by rw [hh], rfl⟩, by rw [hh]; exact Pers.refl _ _, fun n _ _ h => ⟨n, h⟩, fun n _ _ h => ⟨n, h⟩⟩
  le := GhLe.refl _
  names _ _ := ⟨rfl, rfl⟩
  dom _ h := h

theorem pers_push {U U' : Nat → Option Nat} {h : Array Obj} {o : Obj} (hU : ∀ k u, U k = some u → U' k = some u) (hl : ∀ k u, U k = some u → k < h.size) : Pers U h U' (h.push o) := by
  refine ⟨fun k u vs T fr hu hh => ?_, fun k l t hk => by rw [push_old (lt_size hk)]; exact hk⟩
  exact ⟨u, vs, fr, hU _ _ hu, Nat.le_refl _, by rw [push_old (hl _ _ hu)]; exact hh, rfl, fun _ _ => rfl⟩
theorem mp_set {h h' : Array Obj} {k : Nat} {vs vs' : Array Value} {T : TypeId} {fr : Nat × Nat} (hk : h[k]? = some (.cells vs T fr)) (hh : h' = h.setIfInBounds k (.cells vs' T fr)) : ∀ (i : Nat) l t, h[i]? = some (Obj.map l t) → h'[i]? = some (Obj.map l t) := by
  intro i l t hi
  have hne : i ≠ k := fun e => by subst e; rw [hk] at hi; cases hi
  rw [hh, Array.getElem?_setIfInBounds]
  simp [Ne.symm hne, hi]

/-- A new box. -/
theorem Rel.newBox (hR : Rel Γ g w m) {n : Nat} (hn : m n = none) (cs : List AV) (vs : Array Value) (T : TypeId) (hl : cs.length ≤ vs.size)
    (hv : ∀ (i : Nat) (a : AV) (v : Value), cs[i]? = some a → vs[i]? = some v → VR g w.heap a v) (hh : w'.heap = w.heap.push (.cells vs T (0, 0))) (hs : SameW w w') :
    Out Γ g w m { g with σ := upd g.σ n (some w.heap.size) } w' (upd m n (some (.box cs false))) := by
  have hle : GhLe g { g with σ := upd g.σ n (some w.heap.size) } := ⟨fun i k h => by
    by_cases hi : i = n
    · subst hi; rw [(hR.fresh i hn).1] at h; cases h
    · simp only [upd_ne _ _ hi]; exact h, fun _ _ h => h⟩
  have hb : Pers g.U w.heap g.U w'.heap := by rw [hh]; exact pers_push (fun _ _ h => h) (fun _ _ h => hR.lt h)
  refine ⟨hR.update hle hb (fun i => i = n) (fun k => k = w.heap.size) (fun i hi => upd_ne _ _ hi) (fun i hi => upd_ne _ _ hi) (fun _ _ => rfl) ?_ ?_ ?_ ?_ ?_ ?_ ?_, ?_, hle, fun i hi => ⟨upd_ne _ _ (fun h => hi (h ▸ hn)), rfl⟩, fun i hi => upd_dom hi⟩
  · intro k hk _
    exact ⟨by rw [hh, push_old hk], rfl⟩
  · intro i k _ ho hD
    exact absurd (hR.holds_lt ho) (by omega)
  · intro i hi hm; subst hi; simp at hm
  · intro i cs' fz hi hm
    subst hi
    simp only [upd_same, Option.some.injEq, Res.box.injEq] at hm
    obtain ⟨rfl, rfl⟩ := hm
    exact ⟨w.heap.size, vs, T, by simp, by rw [hh]; simp, hl, fun j a v ha hv' => (hv j a v ha hv').mono hle hb, by simpa using hR.none_new⟩
  · intro i hi hm; subst hi; simp at hm
  · intro i i' k hi h1 h2
    subst hi
    have hk : k = w.heap.size := by
      rcases h1 with ⟨_, _, _, h⟩ | ⟨h, _⟩
      · simp at h; exact h.symm
      · simp at h
    rcases h2 with ⟨cs', fz', h, h'⟩ | ⟨h, e, h'⟩
    · by_cases hi' : i' = i
      · exact hi'.symm
      · rw [upd_ne _ _ hi'] at h
        simp only [upd_ne _ _ hi'] at h'
        exact absurd (hR.holds_lt (.inl ⟨cs', fz', h, h'⟩)) (by omega)
    · by_cases hi' : i' = i
      · exact hi'.symm
      · rw [upd_ne _ _ hi'] at h
        exact absurd (hR.holds_lt (.inr ⟨h, e, h'⟩)) (by omega)
  · intro k u hu
    obtain ⟨vs', T', fr, hk, hle'⟩ := hR.ulen k u hu
    exact ⟨vs', T', fr, by rw [hh, push_old (lt_size hk)]; exact hk, hle'⟩
  · refine ⟨hs.os, hs.tape, hs.output, fun a _ _ => frozen_push hh a, by rw [hh]; simp, fun k hk _ => ⟨by rw [hh, push_old hk], rfl⟩, hb, fun i k hk ho => ?_, fun i k hk ho => ?_⟩
    · by_cases hi : i = n
      · subst hi
        rcases ho with ⟨_, _, h⟩ | ⟨h, _⟩
        · simp at h; omega
        · simp at h
      · refine ⟨i, ?_⟩
        rcases ho with ⟨cs', h, h'⟩ | ⟨h, e, h'⟩
        · rw [upd_ne _ _ hi] at h; simp only [upd_ne _ _ hi] at h'; exact .inl ⟨cs', h, h'⟩
        · rw [upd_ne _ _ hi] at h; exact .inr ⟨h, e, h'⟩
    · by_cases hi : i = n
      · subst hi
        rcases ho with ⟨_, _, _, h⟩ | ⟨h, _⟩
        · simp at h; omega
        · simp at h
      · refine ⟨i, ?_⟩
        rcases ho with ⟨cs', f, h, h'⟩ | ⟨h, e, h'⟩
        · rw [upd_ne _ _ hi] at h; simp only [upd_ne _ _ hi] at h'; exact .inl ⟨cs', f, h, h'⟩
        · rw [upd_ne _ _ hi] at h; exact .inr ⟨h, e, h'⟩

/-- A new row that is a slice's own: its first e cells stay. -/
theorem Rel.newTok (hR : Rel Γ g w m) {n : Nat} (hn : m n = none) (vs : Array Value) (T : TypeId) (e : Nat) (he : e ≤ vs.size) (hh : w'.heap = w.heap.push (.cells vs T (0, 0))) (hs : SameW w w') :
    Out Γ g w m { g with τ := upd g.τ n (some (some (w.heap.size, e))), U := upd g.U w.heap.size (some e) } w' (upd m n (some .tok)) := by
  have hle : GhLe g { g with τ := upd g.τ n (some (some (w.heap.size, e))), U := upd g.U w.heap.size (some e) } := ⟨fun _ _ h => h, fun i k h => by
    by_cases hi : i = n
    · subst hi; rw [(hR.fresh i hn).2] at h; cases h
    · simp only [upd_ne _ _ hi]; exact h⟩
  have hU : ∀ k u, g.U k = some u → upd g.U w.heap.size (some e) k = some u := fun k u h => by rw [upd_ne _ _ (Nat.ne_of_lt (hR.lt h))]; exact h
  have hb : Pers g.U w.heap (upd g.U w.heap.size (some e)) w'.heap := by rw [hh]; exact pers_push hU (fun _ _ h => hR.lt h)
  refine ⟨hR.update hle hb (fun i => i = n) (fun k => k = w.heap.size) (fun i hi => upd_ne _ _ hi) (fun _ _ => rfl) (fun i hi => upd_ne _ _ hi) ?_ ?_ ?_ ?_ ?_ ?_ ?_, ?_, hle, fun i hi => ⟨rfl, upd_ne _ _ (fun h => hi (h ▸ hn))⟩, fun i hi => upd_dom hi⟩
  · intro k hk hne
    exact ⟨by rw [hh, push_old hk], upd_ne _ _ hne⟩
  · intro i k _ ho hD
    exact absurd (hR.holds_lt ho) (by omega)
  · intro i hi hm; subst hi; simp at hm
  · intro i cs' fz hi hm; subst hi; simp at hm
  · intro i hi hm
    subst hi
    exact .inr ⟨w.heap.size, e, vs, T, by simp, by rw [hh]; simp, by simp⟩
  · intro i i' k hi h1 h2
    subst hi
    have hk : k = w.heap.size := by
      rcases h1 with ⟨_, _, h, _⟩ | ⟨_, e', h⟩
      · simp at h
      · simp at h; exact h.1.symm
    rcases h2 with ⟨cs', fz', h, h'⟩ | ⟨h, e', h'⟩
    · by_cases hi' : i' = i
      · exact hi'.symm
      · rw [upd_ne _ _ hi'] at h
        exact absurd (hR.holds_lt (.inl ⟨cs', fz', h, h'⟩)) (by omega)
    · by_cases hi' : i' = i
      · exact hi'.symm
      · rw [upd_ne _ _ hi'] at h
        simp only [upd_ne _ _ hi'] at h'
        exact absurd (hR.holds_lt (.inr ⟨h, e', h'⟩)) (by omega)
  · intro k u hu
    by_cases hk : k = w.heap.size
    · subst hk
      simp at hu
      subst hu
      exact ⟨vs, T, (0, 0), by rw [hh]; simp, he⟩
    · simp only [upd_ne _ _ hk] at hu
      obtain ⟨vs', T', fr, hk', hle'⟩ := hR.ulen k u hu
      exact ⟨vs', T', fr, by rw [hh, push_old (lt_size hk')]; exact hk', hle'⟩
  · refine ⟨hs.os, hs.tape, hs.output, fun a _ _ => frozen_push hh a, by rw [hh]; simp, fun k hk _ => ⟨by rw [hh, push_old hk], upd_ne _ _ (Nat.ne_of_lt hk)⟩, hb, fun i k hk ho => ?_, fun i k hk ho => ?_⟩
    · by_cases hi : i = n
      · subst hi
        rcases ho with ⟨_, h, _⟩ | ⟨_, e', h⟩
        · simp at h
        · simp at h; omega
      · refine ⟨i, ?_⟩
        rcases ho with ⟨cs', h, h'⟩ | ⟨h, e', h'⟩
        · rw [upd_ne _ _ hi] at h; exact .inl ⟨cs', h, h'⟩
        · rw [upd_ne _ _ hi] at h; simp only [upd_ne _ _ hi] at h'; exact .inr ⟨h, e', h'⟩
    · by_cases hi : i = n
      · subst hi
        rcases ho with ⟨_, _, h, _⟩ | ⟨_, e', h⟩
        · simp at h
        · simp at h; omega
      · refine ⟨i, ?_⟩
        rcases ho with ⟨cs', f, h, h'⟩ | ⟨h, e', h'⟩
        · rw [upd_ne _ _ hi] at h; exact .inl ⟨cs', f, h, h'⟩
        · rw [upd_ne _ _ hi] at h; simp only [upd_ne _ _ hi] at h'; exact .inr ⟨h, e', h'⟩

/-- A nil slice of one's own. -/
theorem Rel.nilTok (hR : Rel Γ g w m) {n : Nat} (hn : m n = none) (hh : w'.heap = w.heap) (hs : SameW w w') :
    Out Γ g w m { g with τ := upd g.τ n (some none) } w' (upd m n (some .tok)) := by
  have hle : GhLe g { g with τ := upd g.τ n (some none) } := ⟨fun _ _ h => h, fun i k h => by
    by_cases hi : i = n
    · subst hi; rw [(hR.fresh i hn).2] at h; cases h
    · simp only [upd_ne _ _ hi]; exact h⟩
  have hb : Pers g.U w.heap g.U w'.heap := by rw [hh]; exact Pers.refl _ _
  refine ⟨hR.update hle hb (fun i => i = n) (fun _ => False) (fun i hi => upd_ne _ _ hi) (fun _ _ => rfl) (fun i hi => upd_ne _ _ hi) ?_ ?_ ?_ ?_ ?_ ?_ ?_, ?_, hle, fun i hi => ⟨rfl, upd_ne _ _ (fun h => hi (h ▸ hn))⟩, fun i hi => upd_dom hi⟩
  · intro k _ _; exact ⟨by rw [hh], rfl⟩
  · intro i k _ _ hD; exact hD
  · intro i hi hm; subst hi; simp at hm
  · intro i cs' fz hi hm; subst hi; simp at hm
  · intro i hi hm; subst hi; exact .inl (by simp)
  · intro i i' k hi h1 _
    subst hi
    rcases h1 with ⟨_, _, h, _⟩ | ⟨_, e', h⟩ <;> simp at h
  · rw [hh]; exact hR.ulen
  · refine ⟨hs.os, hs.tape, hs.output, fun a _ _ => frozen_same hh a, by rw [hh]; exact Nat.le_refl _, fun k _ _ => ⟨by rw [hh], rfl⟩, hb, fun i k hk ho => ?_, fun i k hk ho => ?_⟩
    · by_cases hi : i = n
      · subst hi
        rcases ho with ⟨_, h, _⟩ | ⟨_, e', h⟩ <;> simp at h
      · refine ⟨i, ?_⟩
        rcases ho with ⟨cs', h, h'⟩ | ⟨h, e', h'⟩
        · rw [upd_ne _ _ hi] at h; exact .inl ⟨cs', h, h'⟩
        · rw [upd_ne _ _ hi] at h; simp only [upd_ne _ _ hi] at h'; exact .inr ⟨h, e', h'⟩
    · by_cases hi : i = n
      · subst hi
        rcases ho with ⟨_, _, h, _⟩ | ⟨_, e', h⟩ <;> simp at h
      · refine ⟨i, ?_⟩
        rcases ho with ⟨cs', f, h, h'⟩ | ⟨h, e', h'⟩
        · rw [upd_ne _ _ hi] at h; exact .inl ⟨cs', f, h, h'⟩
        · rw [upd_ne _ _ hi] at h; simp only [upd_ne _ _ hi] at h'; exact .inr ⟨h, e', h'⟩

/-- A name is let go. -/
theorem Rel.kill (hR : Rel Γ g w m) {n : Nat} (hn : m n ≠ none) : Out Γ g w m g w (upd m n (some .dead)) := by
  have hb : Pers g.U w.heap g.U w.heap := Pers.refl _ _
  refine ⟨hR.update (GhLe.refl _) hb (fun i => i = n) (fun _ => False) (fun i hi => upd_ne _ _ hi) (fun _ _ => rfl) (fun _ _ => rfl) ?_ ?_ ?_ ?_ ?_ ?_ hR.ulen, ?_, GhLe.refl _, fun _ _ => ⟨rfl, rfl⟩, fun i hi => upd_dom hi⟩
  · intro k _ _; exact ⟨rfl, rfl⟩
  · intro i k _ _ hD; exact hD
  · intro i hi hm; subst hi; simp at hm
  · intro i cs' fz hi hm; subst hi; simp at hm
  · intro i hi hm; subst hi; simp at hm
  · intro i i' k hi h1 _
    subst hi
    rcases h1 with ⟨_, _, h, _⟩ | ⟨h, _⟩ <;> simp at h
  · refine ⟨rfl, rfl, rfl, fun _ _ _ => rfl, Nat.le_refl _, fun k _ _ => ⟨rfl, rfl⟩, hb, fun i k hk ho => ?_, fun i k hk ho => ?_⟩
    · by_cases hi : i = n
      · subst hi
        rcases ho with ⟨_, h, _⟩ | ⟨h, _⟩ <;> simp at h
      · refine ⟨i, ?_⟩
        rcases ho with ⟨cs', h, h'⟩ | ⟨h, e', h'⟩
        · rw [upd_ne _ _ hi] at h; exact .inl ⟨cs', h, h'⟩
        · rw [upd_ne _ _ hi] at h; exact .inr ⟨h, e', h'⟩
    · by_cases hi : i = n
      · subst hi
        rcases ho with ⟨_, _, h, _⟩ | ⟨h, _⟩ <;> simp at h
      · refine ⟨i, ?_⟩
        rcases ho with ⟨cs', f, h, h'⟩ | ⟨h, e', h'⟩
        · rw [upd_ne _ _ hi] at h; exact .inl ⟨cs', f, h, h'⟩
        · rw [upd_ne _ _ hi] at h; exact .inr ⟨h, e', h'⟩

theorem set_at {h : Array Obj} {k : Nat} {o o' : Obj} (hk : h[k]? = some o) : (h.setIfInBounds k o')[k]? = some o' := by
  simp [lt_size hk]
theorem set_other {h : Array Obj} {k i : Nat} {o' : Obj} (hi : i ≠ k) : (h.setIfInBounds k o')[i]? = h[i]? := by
  rw [Array.getElem?_setIfInBounds]; simp [Ne.symm hi]

theorem holds_upd_box {g : Gh} {m : Mem} {n : Nat} {cs cs' : List AV} {fz fz' : Bool} (hm : m n = some (.box cs fz)) {i k : Nat} (h : Holds g (upd m n (some (.box cs' fz'))) i k) : Holds g m i k := by
  by_cases hi : i = n
  · subst hi
    rcases h with ⟨_, _, _, h'⟩ | ⟨h, _⟩
    · exact .inl ⟨cs, fz, hm, h'⟩
    · simp at h
  · rcases h with ⟨c, f, h, h'⟩ | ⟨h, e, h'⟩
    · rw [upd_ne _ _ hi] at h; exact .inl ⟨c, f, h, h'⟩
    · rw [upd_ne _ _ hi] at h; exact .inr ⟨h, e, h'⟩

/-- A new row that stays, and is nobody's. -/
theorem Rel.newAnon (hR : Rel Γ g w m) (vs : Array Value) (T : TypeId) (fr : Nat × Nat) (e : Nat) (he : e ≤ vs.size) (hh : w'.heap = w.heap.push (.cells vs T fr)) (hs : SameW w w') :
    Out Γ g w m { g with U := upd g.U w.heap.size (some e) } w' m := by
  have hU : ∀ k u, g.U k = some u → upd g.U w.heap.size (some e) k = some u := fun k u h => by
    rw [upd_ne _ _ (Nat.ne_of_lt (hR.lt h))]
    exact h
  have hb : Pers g.U w.heap (upd g.U w.heap.size (some e)) w'.heap := by rw [hh]; exact pers_push hU (fun _ _ h => hR.lt h)
  have hle : GhLe g { g with U := upd g.U w.heap.size (some e) } := ⟨fun _ _ h => h, fun _ _ h => h⟩
  have hfz : ∀ a : Addr, a.block < w.heap.size → w'.frozen? a = w.frozen? a := fun a ha => by
    have h1 : w'.heap[a.block]? = w.heap[a.block]? := by rw [hh, push_old ha]
    simp only [World.frozen?, h1]
  refine ⟨hR.update hle hb (fun _ => False) (fun k => k = w.heap.size) (fun _ _ => rfl) (fun _ _ => rfl) (fun _ _ => rfl) ?_ ?_ (fun _ h => h.elim) (fun _ _ _ h => h.elim) (fun _ h => h.elim) (fun _ _ _ h => h.elim) ?_, ?_, hle, fun _ _ => ⟨rfl, rfl⟩, fun _ h => h⟩
  · intro k hk _
    exact ⟨by rw [hh, push_old hk], upd_ne _ _ (Nat.ne_of_lt hk)⟩
  · intro i k _ ho hD
    exact absurd (hR.holds_lt ho) (by omega)
  · intro k u hu
    by_cases hk : k = w.heap.size
    · subst hk
      simp at hu
      subst hu
      exact ⟨vs, T, fr, by rw [hh]; exact push_new, he⟩
    · simp only [upd_ne _ _ hk] at hu
      obtain ⟨vs', T', fr', hk', hle'⟩ := hR.ulen k u hu
      exact ⟨vs', T', fr', by rw [hh, push_old (lt_size hk')]; exact hk', hle'⟩
  · exact ⟨hs.os, hs.tape, hs.output, fun a ha _ => hfz a ha, by rw [hh]; simp, fun k hk _ => ⟨by rw [hh, push_old hk], upd_ne _ _ (Nat.ne_of_lt hk)⟩, hb, fun i k _ ho => ⟨i, ho⟩, fun i k _ ho => ⟨i, ho⟩⟩

/-- A store into a box. -/
theorem Rel.store (hR : Rel Γ g w m) {n : Nat} {cs : List AV} (hm : m n = some (.box cs false)) {k : Nat} {vs : Array Value} {T : TypeId} (hσ : g.σ n = some k) (hk : w.heap[k]? = some (.cells vs T (0, 0)))
    (cs' : List AV) (vs' : Array Value) (hl : cs'.length ≤ vs'.size) (hv : ∀ (i : Nat) (a : AV) (v : Value), cs'[i]? = some a → vs'[i]? = some v → VR g w.heap a v)
    (hh : w'.heap = w.heap.setIfInBounds k (.cells vs' T (0, 0))) (hs : SameW w w') : Out Γ g w m g w' (upd m n (some (.box cs' false))) := by
  have hbx := hR.box n cs false hm
  have hu : g.U k = none := by
    obtain ⟨k', _, _, h1, _, _, _, h5⟩ := hbx
    rw [hσ] at h1; injection h1 with h1; subst h1; simpa using h5
  have hb : Pers g.U w.heap g.U w'.heap := by
    refine ⟨fun i u ws T' fr hu' hi => ?_, mp_set hk hh⟩
    have hne : i ≠ k := fun h => by subst h; rw [hu] at hu'; cases hu'
    exact ⟨u, ws, fr, hu', Nat.le_refl _, by rw [hh, set_other hne]; exact hi, rfl, fun _ _ => rfl⟩
  have hho : Holds g m n k := .inl ⟨cs, false, hm, hσ⟩
  refine ⟨hR.update (GhLe.refl _) hb (fun i => i = n) (fun i => i = k) (fun i hi => upd_ne _ _ hi) (fun _ _ => rfl) (fun _ _ => rfl) ?_ ?_ ?_ ?_ ?_ ?_ ?_, ?_, GhLe.refl _, fun _ _ => ⟨rfl, rfl⟩, fun i hi => upd_dom hi⟩
  · intro i _ hne; exact ⟨by rw [hh, set_other hne], rfl⟩
  · intro i k' hi ho hD
    subst hD
    exact hi (hR.inj i n k' ho hho)
  · intro i hi hm'; subst hi; simp at hm'
  · intro i c f hi hm'
    subst hi
    simp only [upd_same, Option.some.injEq, Res.box.injEq] at hm'
    obtain ⟨rfl, rfl⟩ := hm'
    exact ⟨k, vs', T, hσ, by rw [hh]; exact set_at hk, hl, fun j a v ha hv' => (hv j a v ha hv').mono (GhLe.refl _) hb, by simpa using hu⟩
  · intro i hi hm'; subst hi; simp at hm'
  · intro i i' k' hi h1 h2
    exact hR.inj i i' k' (holds_upd_box hm h1) (holds_upd_box hm h2)
  · intro i u hu'
    have hne : i ≠ k := fun h => by subst h; rw [hu] at hu'; cases hu'
    rw [hh, set_other hne]
    exact hR.ulen i u hu'
  · refine ⟨hs.os, hs.tape, hs.output, fun a _ _ => frozen_set hk hh a, by rw [hh]; simp, fun i _ hne => ?_, hb, fun i k' _ ho => ?_, fun i k' _ ho => ⟨i, holds_upd_box hm ho⟩⟩
    · have : i ≠ k := fun h => by subst h; exact hne n (.inl ⟨cs, hm, hσ⟩)
      exact ⟨by rw [hh, set_other this], rfl⟩
    · by_cases hi : i = n
      · subst hi
        rcases ho with ⟨_, _, h'⟩ | ⟨h, _⟩
        · exact ⟨i, .inl ⟨cs, hm, h'⟩⟩
        · simp at h
      · refine ⟨i, ?_⟩
        rcases ho with ⟨c, h, h'⟩ | ⟨h, e, h'⟩
        · rw [upd_ne _ _ hi] at h; exact .inl ⟨c, h, h'⟩
        · rw [upd_ne _ _ hi] at h; exact .inr ⟨h, e, h'⟩

/-- A row of one's own is marked: it is nobody's own any more; its cells stay. -/
theorem Rel.mark (hR : Rel Γ g w m) {n k e : Nat} {vs : Array Value} {T : TypeId} {fr : Nat × Nat} (hm : m n = some .tok) (hτ : g.τ n = some (some (k, e))) (hk : w.heap[k]? = some (.cells vs T (0, 0)))
    (hh : w'.heap = w.heap.setIfInBounds k (.cells vs T fr)) (hs : SameW w w') : Out Γ g w m g w' (upd m n (some .dead)) := by
  have hb : Pers g.U w.heap g.U w'.heap := by
    refine ⟨fun i u ws T' fr' hu' hi => ?_, fun i l t hi => ?_⟩
    · by_cases hik : i = k
      · subst hik
        rw [hk] at hi
        cases hi
        exact ⟨u, vs, fr, hu', Nat.le_refl _, by rw [hh]; exact set_at hk, rfl, fun _ _ => rfl⟩
      · exact ⟨u, ws, fr', hu', Nat.le_refl _, by rw [hh, set_other hik]; exact hi, rfl, fun _ _ => rfl⟩
    · have hne : i ≠ k := fun e => by subst e; rw [hk] at hi; cases hi
      rw [hh, set_other hne]; exact hi
  have hho : Holds g m n k := .inr ⟨hm, e, hτ⟩
  have hold : ∀ i k', Holds g (upd m n (some .dead)) i k' → i ≠ n ∧ Holds g m i k' := fun i k' h => by
    by_cases hi : i = n
    · subst hi
      rcases h with ⟨_, _, h, _⟩ | ⟨h, _⟩ <;> simp at h
    · refine ⟨hi, ?_⟩
      rcases h with ⟨c, f, h, h'⟩ | ⟨h, e, h'⟩
      · rw [upd_ne _ _ hi] at h; exact .inl ⟨c, f, h, h'⟩
      · rw [upd_ne _ _ hi] at h; exact .inr ⟨h, e, h'⟩
  refine ⟨hR.update (GhLe.refl _) hb (fun i => i = n) (fun i => i = k) (fun i hi => upd_ne _ _ hi) (fun _ _ => rfl) (fun _ _ => rfl) ?_ ?_ ?_ ?_ ?_ ?_ ?_, ?_, GhLe.refl _, fun _ _ => ⟨rfl, rfl⟩, fun i hi => upd_dom hi⟩
  · intro i _ hne; exact ⟨by rw [hh, set_other hne], rfl⟩
  · intro i k' hi ho hD
    subst hD
    exact absurd (hR.inj i n _ ho hho) hi
  · intro i hi hm'; subst hi; simp at hm'
  · intro i cs' fz hi hm'; subst hi; simp at hm'
  · intro i hi hm'; subst hi; simp at hm'
  · intro i i' k' hi h1 h2
    exact absurd hi (hold i k' h1).1
  · intro i u hu'
    by_cases hik : i = k
    · subst hik
      obtain ⟨ws, T', fr', h1, h2⟩ := hR.ulen i u hu'
      rw [hk] at h1
      cases h1
      exact ⟨vs, T, fr, by rw [hh]; exact set_at hk, h2⟩
    · rw [hh, set_other hik]
      exact hR.ulen i u hu'
  · refine ⟨hs.os, hs.tape, hs.output, fun a ha hno => ?_, by rw [hh]; simp, fun i _ hne => ?_, hb, fun i k' _ ho => ?_, fun i k' _ ho => ⟨i, (hold i k' ho).2⟩⟩
    · have hne : a.block ≠ k := fun h => hno n (.inr ⟨hm, e, by rw [h]; exact hτ⟩)
      have h1 : w'.heap[a.block]? = w.heap[a.block]? := by rw [hh, set_other hne]
      simp only [World.frozen?, h1]
    · have : i ≠ k := fun h => hne n (.inr ⟨hm, e, by rw [h]; exact hτ⟩)
      exact ⟨by rw [hh, set_other this], rfl⟩
    · have hi : i ≠ n := fun h => by
        subst h
        rcases ho with ⟨_, h, _⟩ | ⟨h, _⟩ <;> simp at h
      refine ⟨i, ?_⟩
      rcases ho with ⟨c, h, h'⟩ | ⟨h, e, h'⟩
      · rw [upd_ne _ _ hi] at h; exact .inl ⟨c, h, h'⟩
      · rw [upd_ne _ _ hi] at h; exact .inr ⟨h, e, h'⟩

/-- A box is written no more: its cells stay. -/
theorem Rel.freeze (hR : Rel Γ g w m) {n : Nat} {cs : List AV} {fz : Bool} (hm : m n = some (.box cs fz)) {k : Nat} (hσ : g.σ n = some k) :
    Out Γ g w m { g with U := upd g.U k (some cs.length) } w (upd m n (some (.box cs true))) := by
  obtain ⟨k', vs, T, h1, hk, hl, hv, hu⟩ := hR.box n cs fz hm
  rw [hσ] at h1; injection h1 with h1; subst h1
  have hUle : ∀ u, g.U k = some u → u = cs.length := by
    intro u h
    rw [hu] at h
    cases fz <;> simp at h
    exact h.symm
  have hb : Pers g.U w.heap (upd g.U k (some cs.length)) w.heap := by
    refine ⟨fun i u ws T' fr hu' hi => ?_, fun _ _ _ h => h⟩
    by_cases hik : i = k
    · subst hik
      exact ⟨cs.length, ws, fr, by simp, by rw [hUle u hu']; exact Nat.le_refl _, hi, rfl, fun _ _ => rfl⟩
    · exact ⟨u, ws, fr, by rw [upd_ne _ _ hik]; exact hu', Nat.le_refl _, hi, rfl, fun _ _ => rfl⟩
  have hle : GhLe g { g with U := upd g.U k (some cs.length) } := ⟨fun _ _ h => h, fun _ _ h => h⟩
  have hho : Holds g m n k := .inl ⟨cs, fz, hm, hσ⟩
  have hold : ∀ i k', Holds { g with U := upd g.U k (some cs.length) } (upd m n (some (.box cs true))) i k' → Holds g m i k' := fun i k' h => by
    have h' : Holds g (upd m n (some (.box cs true))) i k' := h
    exact holds_upd_box hm h'
  refine ⟨hR.update hle hb (fun i => i = n) (fun i => i = k) (fun i hi => upd_ne _ _ hi) (fun _ _ => rfl) (fun _ _ => rfl) ?_ ?_ ?_ ?_ ?_ ?_ ?_, ?_, hle, fun _ _ => ⟨rfl, rfl⟩, fun i hi => upd_dom hi⟩
  · intro i _ hne; exact ⟨rfl, upd_ne _ _ hne⟩
  · intro i k' hi ho hD
    subst hD
    exact hi (hR.inj i n k' ho hho)
  · intro i hi hm'; subst hi; simp at hm'
  · intro i c f hi hm'
    subst hi
    simp only [upd_same, Option.some.injEq, Res.box.injEq] at hm'
    obtain ⟨rfl, rfl⟩ := hm'
    exact ⟨k, vs, T, hσ, hk, hl, fun j a v ha hv' => (hv j a v ha hv').mono hle hb, by simp⟩
  · intro i hi hm'; subst hi; simp at hm'
  · intro i i' k' hi h1 h2
    exact hR.inj i i' k' (hold _ _ h1) (hold _ _ h2)
  · intro i u hu'
    by_cases hik : i = k
    · subst hik
      simp at hu'
      subst hu'
      exact ⟨vs, T, (0, 0), hk, by omega⟩
    · simp only [upd_ne _ _ hik] at hu'
      exact hR.ulen i u hu'
  · refine ⟨rfl, rfl, rfl, fun _ _ _ => rfl, Nat.le_refl _, fun i _ hne => ?_, hb, fun i k' _ ho => ?_, fun i k' _ ho => ⟨i, hold _ _ ho⟩⟩
    · by_cases hik : i = k
      · subst hik
        cases fz with
        | false => exact absurd (show Owns g m n i from .inl ⟨cs, hm, hσ⟩) (hne n)
        | true => exact ⟨rfl, by simp only [upd_same]; simpa using hu.symm⟩
      · exact ⟨rfl, upd_ne _ _ hik⟩
    · by_cases hi : i = n
      · subst hi
        rcases ho with ⟨_, h, _⟩ | ⟨h, _⟩ <;> simp at h
      · refine ⟨i, ?_⟩
        rcases ho with ⟨c, h, h'⟩ | ⟨h, e, h'⟩
        · rw [upd_ne _ _ hi] at h; exact .inl ⟨c, h, h'⟩
        · rw [upd_ne _ _ hi] at h; exact .inr ⟨h, e, h'⟩

/-- An append in place. -/
theorem Rel.grow (hR : Rel Γ g w m) {t n : Nat} (ht : m t = some .tok) (hn : m n = none) {k e : Nat} {vs : Array Value} {T : TypeId} (hτ : g.τ t = some (some (k, e))) (hk : w.heap[k]? = some (.cells vs T (0, 0)))
    (vs' : Array Value) (hsz : vs'.size = vs.size) (hsame : ∀ j, j < e → vs'[j]? = vs[j]?) (e' : Nat) (hee : e ≤ e') (he' : e' ≤ vs.size)
    (hh : w'.heap = w.heap.setIfInBounds k (.cells vs' T (0, 0))) (hs : SameW w w') :
    Out Γ g w m { g with τ := upd g.τ n (some (some (k, e'))), U := upd g.U k (some e') } w' (upd (upd m t (some .dead)) n (some .tok)) := by
  have htn : t ≠ n := fun h => by subst h; rw [hn] at ht; cases ht
  have hu : g.U k = some e := by
    rcases hR.tok t ht with h | ⟨k', e1, _, _, h, _, hu⟩
    · rw [hτ] at h; cases h
    · rw [hτ] at h; cases h; exact hu
  have hle : GhLe g { g with τ := upd g.τ n (some (some (k, e'))), U := upd g.U k (some e') } := ⟨fun _ _ h => h, fun i q h => by
    by_cases hi : i = n
    · subst hi; rw [(hR.fresh i hn).2] at h; cases h
    · simp only [upd_ne _ _ hi]; exact h⟩
  have hb : Pers g.U w.heap (upd g.U k (some e')) w'.heap := by
    refine ⟨fun i u ws T' fr hu' hi => ?_, mp_set hk hh⟩
    by_cases hik : i = k
    · subst hik
      rw [hu] at hu'
      injection hu' with hu'
      subst hu'
      rw [hk] at hi
      cases hi
      exact ⟨e', vs', _, by simp, hee, by rw [hh]; exact set_at hk, hsz, hsame⟩
    · exact ⟨u, ws, fr, by rw [upd_ne _ _ hik]; exact hu', Nat.le_refl _, by rw [hh, set_other hik]; exact hi, rfl, fun _ _ => rfl⟩
  have hho : Holds g m t k := .inr ⟨ht, e, hτ⟩
  have hold : ∀ i q, i ≠ n → Holds { g with τ := upd g.τ n (some (some (k, e'))), U := upd g.U k (some e') } (upd (upd m t (some .dead)) n (some .tok)) i q → Holds g m i q ∧ i ≠ t := by
    intro i q hi h
    have hit : i ≠ t := fun h' => by
      subst h'
      rcases h with ⟨_, _, h, _⟩ | ⟨h, _⟩ <;> simp [upd_ne _ _ hi] at h
    refine ⟨?_, hit⟩
    rcases h with ⟨c, f, h, h'⟩ | ⟨h, e1, h'⟩
    · rw [upd_ne _ _ hi, upd_ne _ _ hit] at h; exact .inl ⟨c, f, h, h'⟩
    · rw [upd_ne _ _ hi, upd_ne _ _ hit] at h; simp only [upd_ne _ _ hi] at h'; exact .inr ⟨h, e1, h'⟩
  refine ⟨hR.update hle hb (fun i => i = n ∨ i = t) (fun i => i = k) (fun i hi => ?_) (fun _ _ => rfl) (fun i hi => upd_ne _ _ (fun h => hi (.inl h))) ?_ ?_ ?_ ?_ ?_ ?_ ?_, ?_, hle, fun i hi => ⟨rfl, upd_ne _ _ (fun h => hi (h ▸ hn))⟩, fun i hi => upd_dom (upd_dom hi)⟩
  · rw [upd_ne _ _ (fun h => hi (.inl h)), upd_ne _ _ (fun h => hi (.inr h))]
  · intro i _ hne; exact ⟨by rw [hh, set_other hne], upd_ne _ _ hne⟩
  · intro i k' hi ho hD
    subst hD
    exact hi (.inr (hR.inj i t k' ho hho))
  · intro i hi hm'
    rcases hi with hi | hi <;> subst hi
    · simp at hm'
    · rw [upd_ne _ _ htn] at hm'; simp at hm'
  · intro i c f hi hm'
    rcases hi with hi | hi <;> subst hi
    · simp at hm'
    · rw [upd_ne _ _ htn] at hm'; simp at hm'
  · intro i hi hm'
    rcases hi with hi | hi <;> subst hi
    · exact .inr ⟨k, e', vs', T, by simp, by rw [hh]; exact set_at hk, by simp⟩
    · rw [upd_ne _ _ htn] at hm'; simp at hm'
  · intro i i' k' hi h1 h2
    rcases hi with hi | hi <;> subst hi
    · have hk' : k' = k := by
        rcases h1 with ⟨_, _, h, _⟩ | ⟨_, e1, h⟩
        · simp at h
        · simp at h; exact h.1.symm
      subst hk'
      by_cases hi' : i' = i
      · exact hi'.symm
      · obtain ⟨h3, h4⟩ := hold i' k' hi' h2
        exact absurd (hR.inj i' t k' h3 hho) h4
    · rcases h1 with ⟨_, _, h, _⟩ | ⟨h, _⟩ <;> simp [upd_ne _ _ htn] at h
  · intro i u hu'
    by_cases hik : i = k
    · subst hik
      simp at hu'
      subst hu'
      exact ⟨vs', T, (0, 0), by rw [hh]; exact set_at hk, by omega⟩
    · simp only [upd_ne _ _ hik] at hu'
      rw [hh, set_other hik]
      exact hR.ulen i u hu'
  · refine ⟨hs.os, hs.tape, hs.output, fun a _ _ => frozen_set hk hh a, by rw [hh]; simp, fun i _ hne => ?_, hb, fun i k' _ ho => ?_, fun i k' _ ho => ?_⟩
    · have : i ≠ k := fun h => by subst h; exact hne t (.inr ⟨ht, e, hτ⟩)
      exact ⟨by rw [hh, set_other this], upd_ne _ _ this⟩
    · by_cases hi : i = n
      · subst hi
        rcases ho with ⟨_, h, _⟩ | ⟨_, e1, h⟩
        · simp at h
        · simp at h
          obtain ⟨rfl, _⟩ := h
          exact ⟨t, .inr ⟨ht, e, hτ⟩⟩
      · have hit : i ≠ t := fun h' => by
          subst h'
          rcases ho with ⟨_, h, _⟩ | ⟨h, _⟩ <;> simp [upd_ne _ _ hi] at h
        refine ⟨i, ?_⟩
        rcases ho with ⟨c, h, h'⟩ | ⟨h, e1, h'⟩
        · rw [upd_ne _ _ hi, upd_ne _ _ hit] at h; exact .inl ⟨c, h, h'⟩
        · rw [upd_ne _ _ hi, upd_ne _ _ hit] at h; simp only [upd_ne _ _ hi] at h'; exact .inr ⟨h, e1, h'⟩
    · by_cases hi : i = n
      · subst hi
        rcases ho with ⟨_, _, h, _⟩ | ⟨_, e1, h⟩
        · simp at h
        · simp at h
          obtain ⟨rfl, _⟩ := h
          exact ⟨t, hho⟩
      · exact ⟨i, (hold i k' hi ho).1⟩
end
end Go.Shade
