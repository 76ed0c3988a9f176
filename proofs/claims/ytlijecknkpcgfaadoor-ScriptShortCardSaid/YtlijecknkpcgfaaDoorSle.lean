/- A contract's arguments and answer read otherwise: a nil slice within a row's element is an empty one. Own work. -/
import Derived.Test.YtlijecknkpcgfaaDoorZ3
namespace Go.Shade
open Go
variable {P : Program} {Γ : Globs} {f : FuncId} {args args' : List AV} {pre post : ML} {e : AE} {r r' : AV}

theorem leL_nil : LeL [] [] := ⟨rfl, fun i a b h => by simp at h⟩
theorem leL_cons {a b : AV} {as bs : List AV} (h : a.Le b) (t : LeL as bs) : LeL (a :: as) (b :: bs) := by
  refine ⟨by simp [t.1], fun i x y hx hy => ?_⟩
  cases i with
  | zero => cases hx; cases hy; exact h
  | succ i => exact t.2 i x y (by simpa using hx) (by simpa using hy)
theorem le_same (a : AV) : a.Le a := fun _ _ _ h => h
def RowLe : List PV → List PV → Prop
  | [], [] => True
  | a :: as, b :: bs => LeP a b ∧ RowLe as bs
  | _, _ => False
def RowsLe : List (List PV) → List (List PV) → Prop
  | [], [] => True
  | a :: as, b :: bs => RowLe a b ∧ RowsLe as bs
  | _, _ => False
theorem rowLe_len : ∀ {a b : List PV}, RowLe a b → a.length = b.length
  | [], [], _ => rfl
  | _ :: a, _ :: b, h => by rw [List.length_cons, List.length_cons, rowLe_len h.2]
theorem rowLe_get : ∀ {a b : List PV}, RowLe a b → ∀ (i : Nat) y, b[i]? = some y → ∃ x, a[i]? = some x ∧ LeP x y
  | [], [], _, i, y, h => by simp at h
  | x :: a, z :: b, h, 0, y, hy => by cases hy; exact ⟨x, rfl, h.1⟩
  | x :: a, z :: b, h, i + 1, y, hy => rowLe_get (a := a) (b := b) h.2 i y (by simpa using hy)
theorem rowLe_app : ∀ {a b c d : List PV}, RowLe a b → RowLe c d → RowLe (a ++ c) (b ++ d)
  | [], [], _, _, _, h => h
  | _ :: _, _ :: _, _, _, h, k => ⟨h.1, rowLe_app h.2 k⟩
theorem rowsLe_flat : ∀ {a b : List (List PV)}, RowsLe a b → RowLe a.flatten b.flatten
  | [], [], _ => trivial
  | _ :: _, _ :: _, h => rowLe_app h.1 (rowsLe_flat h.2)
theorem rowsLe_len : ∀ {a b : List (List PV)}, RowsLe a b → a.length = b.length
  | [], [], _ => rfl
  | _ :: a, _ :: b, h => by rw [List.length_cons, List.length_cons, rowsLe_len h.2]
theorem rowsLe_sz {n : Nat} : ∀ {a b : List (List PV)}, RowsLe a b → (∀ x ∈ a, x.length = n) → ∀ y ∈ b, y.length = n
  | [], [], _, _, y, h => by simp at h
  | x :: a, z :: b, h, hn, y, hy => by
    rcases List.mem_cons.1 hy with rfl | hy
    · rw [← rowLe_len h.1]; exact hn x (by simp)
    · exact rowsLe_sz h.2 (fun w hw => hn w (by simp [hw])) y hy
theorem le_rows {s : Nat} {xs ys : List (List PV)} (h : RowsLe xs ys) : AV.Le (.p (.sl s xs)) (.p (.sl s ys)) := by
  intro g H v hv
  cases hv with
  | p hr =>
    cases hr with
    | sl q hn hc hm hcm hsz hp hr =>
      have hf := rowsLe_flat h
      refine .p (.sl q (by rw [← rowsLe_len h]; exact hn) hc hm hcm (rowsLe_sz h hsz) (by rw [← rowLe_len hf]; exact hp) (fun j b hb => ?_))
      obtain ⟨x, hx, hl⟩ := rowLe_get hf j b hb
      exact leP_sound hl (hr j x hx)
theorem good_args (h : LeL args' args) (hn : namesL args' = []) (hG : Good P Γ f args pre e post) : Good P Γ f args' pre e post := by
  refine ⟨hG.call, fun n hm => by rw [hn] at hm; simp at hm, hG.pn, hG.rn, hG.qn, hG.dom, fun g w cargs hR hv => hG.run g w cargs hR ⟨by rw [← h.1]; exact hv.1, fun i a v ha hv' => ?_⟩⟩
  have hlt : i < args'.length := by rw [h.1]; exact (List.getElem?_eq_some_iff.1 ha).1
  exact h.2 i _ a (List.getElem?_eq_getElem hlt) ha g w.heap v (hv.2 i _ v (List.getElem?_eq_getElem hlt) hv')
end Go.Shade
