/- Layer 16: the statement ModeMeets: whatever the input, the law returns true and its arguments read as they did. No condition. Own work. -/
import Derived.Test.YtccdnkekmpndiaaMr
import Derived.Test.YtccdnkekmpndiaaRmb
namespace Go.Proofs.Ytccdnkekmpndiaa
open Go Go.Shade Go.ChangeShapes Go.WideShapes Go.ChangeAt Go.RowKit
theorem argBoolM {a : AV} (h0 : argOK Try.prog 4 a) : ∃ b, a = .bool b := by
  obtain ⟨p, rfl, h⟩ := arg_one (ty := .bool) (by kernel_rfl) (by kernel_rfl) h0
  obtain ⟨b, rfl⟩ := okP_bool h
  exact ⟨b, rfl⟩
theorem okAct {ps : List PV} (h : OkL (.bool :: .bool :: .int .i64 :: .bool :: .bool :: (List.replicate 32 (.int .u8) ++ [])) ps) : ∃ x : MAct, ps = cP x ∧ in64 x.A.mode := by
  obtain ⟨p1, q1, rfl, h1, h⟩ := okL_cons h
  obtain ⟨p2, q2, rfl, h2, h⟩ := okL_cons h
  obtain ⟨p3, q3, rfl, h3, h⟩ := okL_cons h
  obtain ⟨p4, q4, rfl, h4, h⟩ := okL_cons h
  obtain ⟨p5, q5, rfl, h5, h⟩ := okL_cons h
  obtain ⟨m, q6, rfl, hm⟩ := okL_mask h
  have := okL_nil hm
  subst this
  obtain ⟨b1, rfl⟩ := okP_bool h1
  obtain ⟨b2, rfl⟩ := okP_bool h2
  obtain ⟨n, rfl, n1, n2⟩ := okP_i64 h3
  obtain ⟨b4, rfl⟩ := okP_bool h4
  obtain ⟨b5, rfl⟩ := okP_bool h5
  exact ⟨⟨b1, b2, ⟨n, b4, b5, m⟩⟩, by simp [cP], n1, n2⟩
theorem rows_ofP {α : Type} {g : α → List PV} {p : α → Prop} : ∀ {xs : List (List PV)}, (∀ x ∈ xs, ∃ a, x = g a ∧ p a) → ∃ l : List α, xs = l.map g ∧ ∀ a ∈ l, p a
  | [], _ => ⟨[], rfl, fun _ h => by cases h⟩
  | x :: xs, h => by
    obtain ⟨a, ha, pa⟩ := h x (by simp)
    obtain ⟨l, hl, pl⟩ := rows_ofP (xs := xs) (fun y hy => h y (by simp [hy]))
    refine ⟨a :: l, by rw [ha, hl, List.map_cons], fun y hy => ?_⟩
    rcases List.mem_cons.1 hy with rfl | hy
    · exact pa
    · exact pl y hy
theorem argActs {a : AV} (h0 : argOK Try.prog 62 a) : ∃ l : List MAct, (∀ x ∈ l, in64 x.A.mode) ∧ l.length ≤ 140737488351232 ∧ a = .sl 37 (l.map cP) := by
  obtain ⟨p, rfl, h⟩ := arg_one (ty := .sl (.bool :: .bool :: .int .i64 :: .bool :: .bool :: (List.replicate 32 (.int .u8) ++ []))) (by kernel_rfl) (by kernel_rfl) h0
  obtain ⟨xs, rfl, hb, hx⟩ := okP_sl h
  obtain ⟨l, rfl, hl⟩ := rows_ofP (g := cP) (p := fun x => in64 x.A.mode) (xs := xs) (fun x hxm => okAct (hx x hxm))
  exact ⟨l, hl, by rw [List.length_map] at hb; exact hb, rfl⟩
theorem modeMeetsGood (xs : List AV) (hl : xs.length = Try.f7.params.toList.length) (h : ∀ (i : Nat) t a, Try.f7.params.toList[i]? = some t → xs[i]? = some a → argOK Try.prog t a) : Go.Shade.Good Try.prog (fun _ => none) 7 xs [] (.ret (.bool true)) [] := by
  rw [Try.params7] at hl h
  obtain ⟨x0, x1, rfl⟩ : ∃ x0 x1, xs = [x0, x1] := by
    match xs, hl with
    | [x0, x1], _ => exact ⟨x0, x1, rfl⟩
  obtain ⟨m, rfl⟩ := argBoolM (h 0 4 x0 rfl rfl)
  obtain ⟨l, hin, hb, rfl⟩ := argActs (h 1 62 x1 rfl rfl)
  exact gMeets m l hin (by omega)

set_option maxRecDepth 100000 in
theorem modeMeetsLifted (os : Os) (started : os.Started) (H : Type) (enc : TypeId × Value → H) :
    ReturnsInHanded {} Try.checked os 7 .any (Rows.modeMeetsSpec.pre6 enc Try.prog Try.f7 Rows.modeMeetsRow.domain false) (Rows.modeMeetsSpec.post enc Try.prog Try.f7 false true false false) := by
  refine returnsInHanded_of_change_sized (C := Try.checked) ownK started (by kernel_rfl) Try.func7
    (ChangeSpec.witness6 (enc := enc) (C := Try.checked) false ⟨#[], #[.bool false, .slice none 0 0], []⟩ 8 (by kernel_rfl) (by kernel_rfl) (by kernel_rfl) (by kernel_rfl)) ?_
  intro W base args ds gs before hval hW _ hz _
  exact law_calls laidOut rfl (fun ds hd => by rw [Try.params7] at hd; match ds, hd with | [d0, d1], _ => rfl) (tb := 4) (by kernel_rfl) Try.underlying4 (by kernel_rfl) modeMeetsGood hval hW hz

theorem modeMeets_holds : Rows.ModeMeetsSaid :=
  OpenClaim.holds_of_wide 7 Try.f7 rfl rfl rfl rfl rfl rfl rfl ⟨rfl, rfl, rfl, rfl, rfl⟩ rfl rfl rfl rfl rfl (by kernel_rfl) Try.func7 (by kernel_rfl)
    (of_decide_eq_true (by kernel_rfl)) (by unfold Func.isWrapper; first | (rw [if_pos (by decide +kernel)]; kernel_rfl) | (rw [if_neg (by decide +kernel)]; exact ⟨rfl, rfl⟩))
    (fun os started H enc _ => modeMeetsLifted os started H enc)


end Go.Proofs.Ytccdnkekmpndiaa
