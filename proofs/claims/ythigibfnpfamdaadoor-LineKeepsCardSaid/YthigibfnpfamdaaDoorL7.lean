/- Layer 12: the statement LineKeeps: whatever the input, the law returns true and its arguments read as they did. No condition but the listed variables, which the card ties to the program's text. Own work. -/
import Derived.Test.YthigibfnpfamdaaDoorLs
import Derived.Test.YthigibfnpfamdaaDoorLz
namespace Go.Proofs.YthigibfnpfamdaaDoor
open Go Go.Shade Go.ChangeShapes Go.WideShapes Go.ChangeAt Go.RowKit
theorem lineKeepsGood (xs : List AV) (hl : xs.length = Tryd.f5.params.toList.length) (h : ∀ (i : Nat) t a, Tryd.f5.params.toList[i]? = some t → xs[i]? = some a → argOK Tryd.prog t a) : Go.Shade.Good Tryd.prog (fun _ => none) 5 xs [] (.ret (.bool true)) [] := by
  rw [Tryd.params5] at hl h
  obtain ⟨x0, x1, x2, rfl⟩ : ∃ x0 x1 x2, xs = [x0, x1, x2] := by
    match xs, hl with
    | [x0, x1, x2], _ => exact ⟨x0, x1, x2, rfl⟩
  obtain ⟨b, n, rfl⟩ := argL (h 0 24 x0 rfl rfl)
  obtain ⟨c, rfl⟩ := argU (h 1 5 x1 rfl rfl)
  obtain ⟨f, rfl⟩ := argI (h 2 3 x2 rfl rfl)
  exact gLKeeps b n c f

set_option maxRecDepth 100000 in
theorem lineKeepsLifted (os : Os) (started : os.Started) (H : Type) (enc : TypeId × Value → H) :
    ReturnsInHanded {} Tryd.checked os 5 .any (fun w args => (Rows.lineKeepsSpec.pre enc Tryd.prog Tryd.f5 [] false w args ∧ laidMetH Tryd.prog laidV w) ∧ sizedMet enc Tryd.prog Tryd.f5 (OpenSpec.ofChange Rows.lineKeepsSpec) false w args)
      (Rows.lineKeepsSpec.post enc Tryd.prog Tryd.f5 false true false false) := by
  refine returnsInHanded_of_change_and (C := Tryd.checked) (X := fun w _ => laidMetH Tryd.prog laidV w) (fun _ _ _ hh h => h.of_heap hh) ownK started (by kernel_rfl) Tryd.func5
    (ChangeSpec.witness_shaped (enc := enc) (C := Tryd.checked) (os := os) (X := fun w _ => laidMetH Tryd.prog laidV w) false (World.laidAll Tryd.prog os laidV) #[.agg #[.slice none 0 0, .int .i64 0], .int .u8 0, .int .i64 0] 8 (World.laidAll_os _ _ _) (World.shaped_of_ZipB (by kernel_rfl) (by kernel_rfl)) (by kernel_rfl) (by kernel_rfl) (by kernel_rfl) (door_met os _)) ?_
  intro W base args ds gs before hval hW _ hz hL _
  exact law_callsG (Γ := (fun _ => none)) laidOut rfl (fun ds hd => by rw [Tryd.params5] at hd; match ds, hd with | [d0, d1, d2], _ => rfl) (tb := 4) (by kernel_rfl) Tryd.underlying4 (by kernel_rfl) lineKeepsGood (globs hL) hval hW hz

theorem lineKeepsRow_holds : Rows.LineKeepsSaid :=
  OpenClaim.holds_of_wide 5 Tryd.f5 rfl rfl rfl rfl rfl rfl rfl ⟨rfl, rfl, rfl, rfl, rfl⟩ rfl rfl rfl rfl rfl (by kernel_rfl) Tryd.func5 (by kernel_rfl)
    (of_decide_eq_true (by kernel_rfl)) (by unfold Func.isWrapper; first | (rw [if_pos (by decide +kernel)]; kernel_rfl) | (rw [if_neg (by decide +kernel)]; exact ⟨rfl, rfl⟩))
    (fun os started H enc _ => lineKeepsLifted os started H enc)

theorem lineKeeps_holds : Rows.LineKeepsCardSaid :=
  Claim7.holds_tied_plain_at .later [] [.data, .pinned] true (true, "5b599de2373f0fe81623c6cae80c50b4c2e809a16017254298f6f5d17e71bf02") false
    lineKeepsRow_holds (fun _ h => by cases h) (by kernel_rfl) (fun _ h => by cases h) lineKeeps_row_tie rfl ⟨rfl, rfl⟩ (by kernel_rfl) rfl
    (fun f fn hf hfn => by
      obtain rfl : f = 5 := Option.some.inj ((show Tryd.prog.funcNamed "linnet/linnetlaw12.LineKeeps" = some 5 by kernel_rfl).symm.trans hf) |>.symm
      obtain rfl : fn = Tryd.f5 := (Option.some.inj (Tryd.func5.symm.trans hfn)).symm
      exact ⟨by kernel_rfl, fun j t ht => by
        rw [Tryd.params5] at ht
        have hm : t ∈ [24, 5, 3] := by simpa using Array.mem_of_getElem? ht
        have hall : ([24, 5, 3].all fun u => !Tryd.prog.wantsStandIn u) = true := by kernel_rfl
        exact (show Tryd.prog.wantsStandIn t = false by simpa using List.all_eq_true.1 hall t hm)⟩)
    (by kernel_rfl)


end Go.Proofs.YthigibfnpfamdaaDoor
