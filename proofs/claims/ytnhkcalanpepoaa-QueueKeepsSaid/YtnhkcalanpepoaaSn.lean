/- What a call does to the caller's memory. Own work. -/
import Derived.Test.YtnhkcalanpepoaaSm
namespace Go.Shade
open Go

/-- What the callee sees of the caller's names. -/
def under (g : Gh) (ρ : Nat → Nat) (pre : Mem) : Gh := { σ := fun n => if (pre n).isSome then g.σ (ρ n) else none, τ := fun n => if (pre n).isSome then g.τ (ρ n) else none, U := g.U }
/-- What the caller has behind it. -/
def over (g gc : Gh) (ρ : Nat → Nat) (L : ML) : Gh :=
  { σ := fun k => match invOf ρ L k with | some n => gc.σ n | none => g.σ k, τ := fun k => match invOf ρ L k with | some n => gc.τ n | none => g.τ k, U := gc.U }

/-- A renaming that fits. -/
structure Fits (m : Mem) (pre post : ML) (ρ : Nat → Nat) : Prop where
  old : ∀ n r, memL pre n = some r → m (ρ n) = some (r.ren ρ)
  inj : ∀ n n', memL post n ≠ none → memL post n' ≠ none → ρ n = ρ n' → n = n'
  new : ∀ n, memL post n ≠ none → memL pre n = none → m (ρ n) = none

section
variable {P : Program} {Γ : Globs} {g gc' : Gh} {w w' : World} {m : Mem} {f : FuncId} {args : List AV} {pre post : ML} {e : AE} {ρ : Nat → Nat}

theorem under_σ {n : Nat} (h : memL pre n ≠ none) : (under g ρ (memL pre)).σ n = g.σ (ρ n) ∧ (under g ρ (memL pre)).τ n = g.τ (ρ n) := by
  have : (memL pre n).isSome = true := by cases h' : memL pre n <;> simp_all
  simp [under, this]
theorem under_none {n : Nat} (h : memL pre n = none) : (under g ρ (memL pre)).σ n = none ∧ (under g ρ (memL pre)).τ n = none := by
  simp [under, h]

theorem vr_under {a : AV} {v : Value} {h : Array Obj} (h1 : ∀ n ∈ a.names, memL pre n ≠ none) (h2 : VR g h (a.ren ρ) v) : VR (under g ρ (memL pre)) h a v :=
  (vr_ren (gc := under g ρ (memL pre)) (g := g) rfl a v (fun n hnn => under_σ (h1 n hnn))).2 h2

theorem holds_under (hf : Fits m pre post ρ) {n k : Nat} (h : Holds (under g ρ (memL pre)) (memL pre) n k) : Holds g m (ρ n) k ∧ memL pre n ≠ none := by
  rcases h with ⟨cs, fz, h, h'⟩ | ⟨h, e, h'⟩
  · have hne : memL pre n ≠ none := by rw [h]; simp
    rw [(under_σ hne).1] at h'
    exact ⟨.inl ⟨_, fz, hf.old n _ h, h'⟩, hne⟩
  · have hne : memL pre n ≠ none := by rw [h]; simp
    rw [(under_σ hne).2] at h'
    exact ⟨.inr ⟨hf.old n _ h, e, h'⟩, hne⟩
theorem owns_under (hf : Fits m pre post ρ) {n k : Nat} (h : Owns (under g ρ (memL pre)) (memL pre) n k) : Owns g m (ρ n) k ∧ memL pre n ≠ none := by
  rcases h with ⟨cs, h, h'⟩ | ⟨h, e, h'⟩
  · have hne : memL pre n ≠ none := by rw [h]; simp
    rw [(under_σ hne).1] at h'
    exact ⟨.inl ⟨_, hf.old n _ h, h'⟩, hne⟩
  · have hne : memL pre n ≠ none := by rw [h]; simp
    rw [(under_σ hne).2] at h'
    exact ⟨.inr ⟨hf.old n _ h, e, h'⟩, hne⟩

theorem rel_under (hG : GoodF P f args pre e post) (hR : Rel Γ g w m) (hf : Fits m pre post ρ) : Rel Γ (under g ρ (memL pre)) w (memL pre) where
  fresh n hn := under_none hn
  box n cs fz hn := by
    have hne : memL pre n ≠ none := by rw [hn]; simp
    obtain ⟨k, vs, T, h1, h2, h3, h4, h5⟩ := hR.box (ρ n) _ fz (hf.old n _ hn)
    rw [renL_map] at h3 h4 h5
    refine ⟨k, vs, T, by rw [(under_σ hne).1]; exact h1, h2, by simpa using h3, fun i a v ha hv => ?_, by simpa [under] using h5⟩
    refine vr_under (fun q hq => hG.pn n _ hn q ?_) (h4 i _ v (by rw [List.getElem?_map, ha]; rfl) hv)
    exact mem_namesL.2 ⟨a, List.mem_of_getElem? ha, hq⟩
  tok n hn := by
    have hne : memL pre n ≠ none := by rw [hn]; simp
    have h0 := hR.tok (ρ n) (hf.old n _ hn)
    unfold TkR at h0 ⊢
    rw [(under_σ hne).2]
    exact h0
  inj n n' k h1 h2 := by
    obtain ⟨h3, h4⟩ := holds_under hf h1
    obtain ⟨h5, h6⟩ := holds_under hf h2
    exact hf.inj n n' (hG.dom n h4) (hG.dom n' h6) (hR.inj _ _ k h3 h5)
  ulen := hR.ulen
  glob := hR.glob

theorem over_at (hf : Fits m pre post ρ) {n : Nat} (hn : memL post n ≠ none) : (over g gc' ρ post).σ (ρ n) = gc'.σ n ∧ (over g gc' ρ post).τ (ρ n) = gc'.τ n := by
  simp [over, invOf_at hf.inj hn]

theorem vr_over (hf : Fits m pre post ρ) {a : AV} {v : Value} {h : Array Obj} (h1 : ∀ n ∈ a.names, memL post n ≠ none) (h2 : VR gc' h a v) : VR (over g gc' ρ post) h (a.ren ρ) v :=
  (vr_ren (gc := gc') (g := over g gc' ρ post) rfl a v (fun n hn => ⟨(over_at hf (h1 n hn)).1.symm, (over_at hf (h1 n hn)).2.symm⟩)).1 h2

theorem over_old (hf : Fits m pre post ρ) (hn : ∀ n, memL pre n ≠ none → gc'.σ n = (under g ρ (memL pre)).σ n ∧ gc'.τ n = (under g ρ (memL pre)).τ n) {k : Nat} (hk : m k ≠ none) :
    (over g gc' ρ post).σ k = g.σ k ∧ (over g gc' ρ post).τ k = g.τ k := by
  cases hi : invOf ρ post k with
  | none => simp [over, hi]
  | some n =>
    obtain ⟨h1, h2⟩ := invOf_some hi
    subst h1
    have hp : memL pre n ≠ none := fun h => hk (hf.new n h2 h)
    obtain ⟨h3, h4⟩ := hn n hp
    rw [(over_at hf h2).1, (over_at hf h2).2, h3, h4]
    exact under_σ hp

theorem holds_over (hf : Fits m pre post ρ) {k x : Nat} (h : Holds (over g gc' ρ post) (applyM m ρ post) k x) :
    (∃ n, k = ρ n ∧ memL post n ≠ none ∧ Holds gc' (memL post) n x) ∨ (invOf ρ post k = none ∧ Holds g m k x) := by
  cases hi : invOf ρ post k with
  | none =>
    right
    refine ⟨rfl, ?_⟩
    rcases h with ⟨cs, fz, h, h'⟩ | ⟨h, e, h'⟩
    · rw [applyM_get hf.inj, hi] at h
      simp only [over, hi] at h'
      exact .inl ⟨cs, fz, h, h'⟩
    · rw [applyM_get hf.inj, hi] at h
      simp only [over, hi] at h'
      exact .inr ⟨h, e, h'⟩
  | some n =>
    obtain ⟨h1, h2⟩ := invOf_some hi
    left
    refine ⟨n, h1, h2, ?_⟩
    rcases h with ⟨cs, fz, h, h'⟩ | ⟨h, e, h'⟩
    · rw [applyM_get hf.inj, hi] at h
      simp only [over, hi] at h'
      obtain ⟨r, hr, hr'⟩ := Option.map_eq_some_iff.1 h
      cases r <;> simp [Res.ren] at hr'
      obtain ⟨_, rfl⟩ := hr'
      exact .inl ⟨_, _, hr, h'⟩
    · rw [applyM_get hf.inj, hi] at h
      simp only [over, hi] at h'
      obtain ⟨r, hr, hr'⟩ := Option.map_eq_some_iff.1 h
      cases r <;> simp [Res.ren] at hr'
      exact .inr ⟨hr, e, h'⟩
theorem owns_over (hf : Fits m pre post ρ) {k x : Nat} (h : Owns (over g gc' ρ post) (applyM m ρ post) k x) :
    (∃ n, k = ρ n ∧ memL post n ≠ none ∧ Owns gc' (memL post) n x) ∨ (invOf ρ post k = none ∧ Owns g m k x) := by
  cases hi : invOf ρ post k with
  | none =>
    right
    refine ⟨rfl, ?_⟩
    rcases h with ⟨cs, h, h'⟩ | ⟨h, e, h'⟩
    · rw [applyM_get hf.inj, hi] at h
      simp only [over, hi] at h'
      exact .inl ⟨cs, h, h'⟩
    · rw [applyM_get hf.inj, hi] at h
      simp only [over, hi] at h'
      exact .inr ⟨h, e, h'⟩
  | some n =>
    obtain ⟨h1, h2⟩ := invOf_some hi
    left
    refine ⟨n, h1, h2, ?_⟩
    rcases h with ⟨cs, h, h'⟩ | ⟨h, e, h'⟩
    · rw [applyM_get hf.inj, hi] at h
      simp only [over, hi] at h'
      obtain ⟨r, hr, hr'⟩ := Option.map_eq_some_iff.1 h
      cases r <;> simp [Res.ren] at hr'
      obtain ⟨_, rfl⟩ := hr'
      exact .inl ⟨_, hr, h'⟩
    · rw [applyM_get hf.inj, hi] at h
      simp only [over, hi] at h'
      obtain ⟨r, hr, hr'⟩ := Option.map_eq_some_iff.1 h
      cases r <;> simp [Res.ren] at hr'
      exact .inr ⟨hr, e, h'⟩

theorem call_out (hG : GoodF P f args pre e post) (hR : Rel Γ g w m) (hf : Fits m pre post ρ) (hfin : Fin Γ (under g ρ (memL pre)) w (memL pre) gc' w' (memL post)) :
    Out Γ g w m (over g gc' ρ post) w' (applyM m ρ post) := by
  have hold : ∀ {k : Nat}, m k ≠ none → (over g gc' ρ post).σ k = g.σ k ∧ (over g gc' ρ post).τ k = g.τ k := fun h => over_old hf hfin.names h
  have hle : GhLe g (over g gc' ρ post) := ⟨fun n k h => by
    have : m n ≠ none := fun h0 => by rw [(hR.fresh n h0).1] at h; cases h
    rw [(hold this).1]; exact h, fun n k h => by
    have : m n ≠ none := fun h0 => by rw [(hR.fresh n h0).2] at h; cases h
    rw [(hold this).2]; exact h⟩
  -- what of the caller's other names is touched: nothing
  have hout : ∀ k x, invOf ρ post k = none → Holds g m k x → w'.heap[x]? = w.heap[x]? ∧ gc'.U x = g.U x := fun k x hi hh => by
    refine hfin.st.frame x (hR.holds_lt hh) (fun n ho => ?_)
    obtain ⟨h1, h2⟩ := owns_under hf ho
    have := hR.inj _ _ x h1.holds hh
    exact absurd this.symm (invOf_none hi n (hG.dom n h2))
  refine ⟨⟨fun k hk => ?_, fun k cs fz hk => ?_, fun k hk => ?_, fun k k' x h1 h2 => ?_, hfin.rel.ulen, hfin.rel.glob⟩, ⟨hfin.st.os, hfin.st.tape, hfin.st.output, fun a ha hno => hfin.st.fz a ha (fun n ho => hno _ (owns_under hf ho).1), hfin.st.size, fun x hx hno => ?_, hfin.st.pers, fun k x hx ho => ?_, fun k x hx ho => ?_⟩, hle, fun k hk => hold hk, fun k hk => ?_⟩
  · rw [applyM_get hf.inj] at hk
    cases hi : invOf ρ post k with
    | none =>
      rw [hi] at hk
      simp only [over, hi]
      exact hR.fresh k hk
    | some n =>
      rw [hi] at hk
      obtain ⟨_, h2⟩ := invOf_some hi
      simp only [Option.map_eq_none_iff] at hk
      exact absurd hk h2
  · rw [applyM_get hf.inj] at hk
    cases hi : invOf ρ post k with
    | none =>
      rw [hi] at hk
      refine (hR.box k cs fz hk).mono hle hfin.st.pers (fun x hx => hout k x hi (.inl ⟨cs, fz, hk, hx⟩))
    | some n =>
      rw [hi] at hk
      obtain ⟨h1, h2⟩ := invOf_some hi
      subst h1
      obtain ⟨r, hr, hr'⟩ := Option.map_eq_some_iff.1 hk
      cases r <;> simp [Res.ren] at hr'
      obtain ⟨rfl, rfl⟩ := hr'
      obtain ⟨x, vs, T, k1, k2, k3, k4, k5⟩ := hfin.rel.box n _ _ hr
      refine ⟨x, vs, T, by rw [(over_at hf h2).1]; exact k1, k2, by rw [renL_map]; simpa using k3, fun i a v ha hv => ?_, by rw [renL_map]; simpa [over] using k5⟩
      rw [renL_map, List.getElem?_map] at ha
      obtain ⟨b, hb, rfl⟩ := Option.map_eq_some_iff.1 ha
      exact vr_over hf (fun q hq => hG.qn n _ hr q (mem_namesL.2 ⟨b, List.mem_of_getElem? hb, hq⟩)) (k4 i b v hb hv)
  · rw [applyM_get hf.inj] at hk
    cases hi : invOf ρ post k with
    | none =>
      rw [hi] at hk
      exact (hR.tok k hk).mono hle (fun x e hx => hout k x hi (.inr ⟨hk, e, hx⟩))
    | some n =>
      rw [hi] at hk
      obtain ⟨h1, h2⟩ := invOf_some hi
      subst h1
      obtain ⟨r, hr, hr'⟩ := Option.map_eq_some_iff.1 hk
      cases r <;> simp [Res.ren] at hr'
      have h0 := hfin.rel.tok n hr
      unfold TkR at h0 ⊢
      rw [(over_at hf h2).2]
      exact h0
  · have key : ∀ n k x, memL post n ≠ none → Holds gc' (memL post) n x → invOf ρ post k = none → Holds g m k x → False := fun n k x hn hh hi hk => by
      obtain ⟨n', h3⟩ := hfin.st.holdm n x (hR.holds_lt hk) hh
      obtain ⟨h4, h5⟩ := holds_under hf h3
      exact invOf_none hi n' (hG.dom n' h5) (hR.inj _ _ x hk h4)
    rcases holds_over hf h1 with ⟨n, rfl, hn, h3⟩ | ⟨hi, h3⟩ <;> rcases holds_over hf h2 with ⟨n', rfl, hn', h4⟩ | ⟨hi', h4⟩
    · rw [hfin.rel.inj n n' x h3 h4]
    · exact (key n k' x hn h3 hi' h4).elim
    · exact (key n' k x hn' h4 hi h3).elim
    · exact hR.inj k k' x h3 h4
  · exact hfin.st.frame x hx (fun n ho => hno (ρ n) (owns_under hf ho).1)
  · rcases owns_over hf ho with ⟨n, rfl, hn, h3⟩ | ⟨_, h3⟩
    · obtain ⟨n', h4⟩ := hfin.st.ownm n x hx h3
      exact ⟨ρ n', (owns_under hf h4).1⟩
    · exact ⟨k, h3⟩
  · rcases holds_over hf ho with ⟨n, rfl, hn, h3⟩ | ⟨_, h3⟩
    · obtain ⟨n', h4⟩ := hfin.st.holdm n x hx h3
      exact ⟨ρ n', (holds_under hf h4).1⟩
    · exact ⟨k, h3⟩
  · rw [applyM_get hf.inj]
    cases hi : invOf ρ post k with
    | none => exact hk
    | some n =>
      obtain ⟨_, h2⟩ := invOf_some hi
      simp only [ne_eq, Option.map_eq_none_iff]
      exact h2
end
end Go.Shade
