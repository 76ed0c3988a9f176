/- Boxes of which only a part is told; what is handed back of one's own. Own work. -/
import Derived.Test.YtnhkcalanpepoaaGp
import Derived.Test.YtnhkcalanpepoaaSth
import Derived.Test.YtnhkcalanpepoaaSmn
namespace Go.Proofs.Ytnhkcalanpepoaa
open Go Go.Shade
variable {Γ : Globs}
/-! Boxes of which only a part is told -/
def jk (o : Nat) (l : List UInt8) : List AV := List.replicate o .junk ++ bq l
theorem jk_len (o : Nat) (l : List UInt8) : (jk o l).length = o + l.length := by simp [jk, bq]
theorem jk_get {o : Nat} {l : List UInt8} {i : Nat} (h : i < l.length) : (jk o l)[o + i]? = some (.p (.s (.int .u8 (l.getD i 0).toNat))) := by
  unfold jk bq
  rw [List.getElem?_append_right (by simp), List.length_replicate, Nat.add_sub_cancel_left, List.getElem?_map, List.getElem?_eq_getElem h, List.getD_eq_getElem?_getD, List.getElem?_eq_getElem h]
  rfl
theorem jk_set {o : Nat} {l : List UInt8} {i : Nat} {y : UInt8} (h : i < l.length) : (jk o l).take (o + i) ++ .p (.s (.int .u8 y.toNat)) :: (jk o l).drop (o + i + 1) = jk o (l.set i y) := by
  rw [set_split (by rw [jk_len]; omega)]
  unfold jk bq
  rw [List.set_append_right _ _ (by simp), List.length_replicate, Nat.add_sub_cancel_left, List.map_set]
theorem jk_names (o : Nat) (l : List UInt8) : namesL (jk o l) = [] := by
  have h1 : ∀ k : Nat, namesL (List.replicate k .junk) = [] := fun k => by
    induction k with
    | zero => rfl
    | succ k ih => rw [List.replicate_succ, namesL, ih]; rfl
  have h2 : ∀ l : List UInt8, namesL (bq l) = [] := fun l => by
    induction l with
    | nil => rfl
    | cons x l ih => rw [bq, List.map_cons, namesL]; exact ih
  rw [jk, names_app, h1, h2]; rfl
theorem jk_ren (ρ : Nat → Nat) (o : Nat) (l : List UInt8) : renL ρ (jk o l) = jk o l := by
  have h1 : ∀ k : Nat, renL ρ (List.replicate k .junk) = List.replicate k .junk := fun k => by
    induction k with
    | zero => rfl
    | succ k ih => rw [List.replicate_succ, renL, ih]; rfl
  have h2 : ∀ l : List UInt8, renL ρ (bq l) = bq l := fun l => by
    induction l with
    | nil => rfl
    | cons x l ih =>
      rw [bq, List.map_cons, renL]
      exact congrArg (AV.p (.s (.int .u8 x.toNat)) :: ·) ih
  rw [jk, renL_app, h1, h2]
theorem le_jk : ∀ (o : Nat) (l : List UInt8), LeAs (jk o l) (jk o l)
  | 0, l => by
    unfold jk
    rw [List.replicate_zero, List.nil_append]
    induction l with
    | nil => trivial
    | cons x l ih => rw [bq, List.map_cons, LeAs]; exact ⟨rfl, ih⟩
  | o + 1, l => by
    have := le_jk o l
    unfold jk at this ⊢
    rw [List.replicate_succ, List.cons_append, LeAs]
    exact ⟨by rw [LeA]; trivial, this⟩
theorem le_jkr {o : Nat} {l k : List UInt8} {ρ : Nat → Nat} (h : l = k) : LeAs (jk o l) (renL ρ (jk o k)) := by rw [jk_ren, h]; exact le_jk o k
theorem posts_one (t : Nat) (l : List UInt8) (off : Nat → Nat) : posts [(t, 1, bys l)] off = [(t, .box (jk (off t) l) false)] := by
  unfold posts jk
  rw [List.map_cons, List.map_nil, ← bys_cells]
attribute [go_sem] jk_names jk_ren
theorem bys_plain (l : List UInt8) : (bys l).flatten.all plainP = true := by
  induction l with
  | nil => rfl
  | cons x l ih => rw [bys, List.map_cons, List.flatten_cons, List.all_append]; exact (Bool.and_eq_true _ _).mpr ⟨rfl, ih⟩
end Go.Proofs.Ytnhkcalanpepoaa
