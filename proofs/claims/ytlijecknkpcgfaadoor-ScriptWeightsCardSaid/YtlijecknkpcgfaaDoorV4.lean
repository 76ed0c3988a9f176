/- Layer 22: the statement ScriptWeights: whatever the input, the law returns true and its arguments read as they did. No condition but the listed variables, which the card ties to the program's text. Own work. -/
import Derived.Test.YtlijecknkpcgfaaDoorVv
import Derived.Test.YtlijecknkpcgfaaDoorVy
namespace Go.Proofs.YtlijecknkpcgfaaDoor
open Go Go.Shade Go.ChangeShapes Go.WideShapes Go.ChangeAt Go.RowKit
theorem scriptWeightsGood (xs : List AV) (hl : xs.length = Tryd.f6.params.toList.length) (h : ∀ (i : Nat) t a, Tryd.f6.params.toList[i]? = some t → xs[i]? = some a → argOK Tryd.prog t a) : Go.Shade.Good Tryd.prog (fun _ => none) 6 xs [] (.ret (.bool true)) [] := by
  rw [Tryd.params6] at hl h
  obtain ⟨x0, x1, x2, rfl⟩ : ∃ x0 x1 x2, xs = [x0, x1, x2] := by
    match xs, hl with
    | [x0, x1, x2], _ => exact ⟨x0, x1, x2, rfl⟩
  obtain ⟨w0, w1, w2, w3, b0, b1, b2, b3, rfl⟩ := argF (h 0 40 x0 rfl rfl)
  obtain ⟨d, b4, rfl⟩ := argD (h 1 41 x1 rfl rfl)
  obtain ⟨n, rfl⟩ := argU (h 2 5 x2 rfl rfl)
  exact gLWeights n b0 b1 b2 b3 b4

set_option maxRecDepth 100000 in
theorem scriptWeightsLifted (os : Os) (started : os.Started) (H : Type) (enc : TypeId × Value → H) :
    ReturnsInHanded {} Tryd.checked os 6 .any (fun w args => (Rows.scriptWeightsSpec.pre enc Tryd.prog Tryd.f6 [] false w args ∧ laidMetH Tryd.prog laidV w) ∧ sizedMet enc Tryd.prog Tryd.f6 (OpenSpec.ofChange Rows.scriptWeightsSpec) false w args)
      (Rows.scriptWeightsSpec.post enc Tryd.prog Tryd.f6 false true false false) := by
  refine returnsInHanded_of_change_and (C := Tryd.checked) (X := fun w _ => laidMetH Tryd.prog laidV w) (fun _ _ _ hh h => h.of_heap hh) ownK started (by kernel_rfl) Tryd.func6
    (ChangeSpec.witness_shaped (enc := enc) (C := Tryd.checked) (os := os) (X := fun w _ => laidMetH Tryd.prog laidV w) false (World.laidAll Tryd.prog os laidV) #[.agg #[.float .f64 0, .float .f64 0, .float .f64 0, .float .f64 0], .int .u64 0, .int .u8 0] 8 (World.laidAll_os _ _ _) (World.shaped_of_ZipB (by kernel_rfl) (by kernel_rfl)) (by kernel_rfl) (by kernel_rfl) (by kernel_rfl) (door_met os _)) ?_
  intro W base args ds gs before hval hW _ hz hL _
  exact law_callsG (Γ := (fun _ => none)) laidOut rfl (fun ds hd => by rw [Tryd.params6] at hd; match ds, hd with | [d0, d1, d2], _ => rfl) (tb := 4) (by kernel_rfl) Tryd.underlying4 (by kernel_rfl) scriptWeightsGood (globs hL) hval hW hz

theorem scriptWeightsRow_holds : Rows.ScriptWeightsSaid :=
  OpenClaim.holds_of_wide 6 Tryd.f6 rfl rfl rfl rfl rfl rfl rfl ⟨rfl, rfl, rfl, rfl, rfl⟩ rfl rfl rfl rfl rfl (by kernel_rfl) Tryd.func6 (by kernel_rfl)
    (of_decide_eq_true (by kernel_rfl)) (by unfold Func.isWrapper; first | (rw [if_pos (by decide +kernel)]; kernel_rfl) | (rw [if_neg (by decide +kernel)]; exact ⟨rfl, rfl⟩))
    (fun os started H enc _ => scriptWeightsLifted os started H enc)

theorem scriptWeights_holds : Rows.ScriptWeightsCardSaid :=
  Claim7.holds_tied_plain_at .later [] [.data, .pinned] true (true, "7925503dcf37936fe694c497cfcd74a997d7e98ef97336789567ba97b84138f7") true
    scriptWeightsRow_holds (fun _ h => by cases h) (by kernel_rfl) (fun _ h => by cases h) scriptWeights_row_tie rfl ⟨rfl, rfl⟩ (by kernel_rfl) rfl
    (fun f fn hf hfn => by
      obtain rfl : f = 6 := Option.some.inj ((show Tryd.prog.funcNamed "linnet/linnetlaw22.ScriptWeights" = some 6 by kernel_rfl).symm.trans hf) |>.symm
      obtain rfl : fn = Tryd.f6 := (Option.some.inj (Tryd.func6.symm.trans hfn)).symm
      exact ⟨by kernel_rfl, fun j t ht => by
        rw [Tryd.params6] at ht
        have hm : t ∈ [40, 41, 5] := by simpa using Array.mem_of_getElem? ht
        have hall : ([40, 41, 5].all fun u => !Tryd.prog.wantsStandIn u) = true := by kernel_rfl
        exact (show Tryd.prog.wantsStandIn t = false by simpa using List.all_eq_true.1 hall t hm)⟩)
    (by kernel_rfl)

end Go.Proofs.YtlijecknkpcgfaaDoor
