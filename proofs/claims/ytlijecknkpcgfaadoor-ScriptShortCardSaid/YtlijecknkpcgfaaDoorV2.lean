/- Layer 22: the statement ScriptShort: whatever the input, the law returns true and its arguments read as they did. No condition but the listed variables, which the card ties to the program's text. Own work. -/
import Derived.Test.YtlijecknkpcgfaaDoorVw
import Derived.Test.YtlijecknkpcgfaaDoorVq
namespace Go.Proofs.YtlijecknkpcgfaaDoor
open Go Go.Shade Go.ChangeShapes Go.WideShapes Go.ChangeAt Go.RowKit
theorem scriptShortGood (xs : List AV) (hl : xs.length = Tryd.f4.params.toList.length) (h : ∀ (i : Nat) t a, Tryd.f4.params.toList[i]? = some t → xs[i]? = some a → argOK Tryd.prog t a) : Go.Shade.Good Tryd.prog (fun _ => none) 4 xs [] (.ret (.bool true)) [] := by
  rw [Tryd.params4] at hl h
  obtain ⟨x0, rfl⟩ : ∃ x0, xs = [x0] := by
    match xs, hl with
    | [x0], _ => exact ⟨x0, rfl⟩
  obtain ⟨l, hi, rfl⟩ := argS (h 0 22 x0 rfl rfl)
  exact gLShort l hi

set_option maxRecDepth 100000 in
theorem scriptShortLifted (os : Os) (started : os.Started) (H : Type) (enc : TypeId × Value → H) :
    ReturnsInHanded {} Tryd.checked os 4 .any (fun w args => (Rows.scriptShortSpec.pre enc Tryd.prog Tryd.f4 [] false w args ∧ laidMetH Tryd.prog laidV w) ∧ sizedMet enc Tryd.prog Tryd.f4 (OpenSpec.ofChange Rows.scriptShortSpec) false w args)
      (Rows.scriptShortSpec.post enc Tryd.prog Tryd.f4 false true false false) := by
  refine returnsInHanded_of_change_and (C := Tryd.checked) (X := fun w _ => laidMetH Tryd.prog laidV w) (fun _ _ _ hh h => h.of_heap hh) ownK started (by kernel_rfl) Tryd.func4
    (ChangeSpec.witness_shaped (enc := enc) (C := Tryd.checked) (os := os) (X := fun w _ => laidMetH Tryd.prog laidV w) false (World.laidAll Tryd.prog os laidV) #[.slice none 0 0] 8 (World.laidAll_os _ _ _) (World.shaped_of_ZipB (by kernel_rfl) (by kernel_rfl)) (by kernel_rfl) (by kernel_rfl) (by kernel_rfl) (door_met os _)) ?_
  intro W base args ds gs before hval hW _ hz hL _
  exact law_callsG (Γ := (fun _ => none)) laidOut rfl (fun ds hd => by rw [Tryd.params4] at hd; match ds, hd with | [d0], _ => rfl) (tb := 4) (by kernel_rfl) Tryd.underlying4 (by kernel_rfl) scriptShortGood (globs hL) hval hW hz

theorem scriptShortRow_holds : Rows.ScriptShortSaid :=
  OpenClaim.holds_of_wide 4 Tryd.f4 rfl rfl rfl rfl rfl rfl rfl ⟨rfl, rfl, rfl, rfl, rfl⟩ rfl rfl rfl rfl rfl (by kernel_rfl) Tryd.func4 (by kernel_rfl)
    (of_decide_eq_true (by kernel_rfl)) (by unfold Func.isWrapper; first | (rw [if_pos (by decide +kernel)]; kernel_rfl) | (rw [if_neg (by decide +kernel)]; exact ⟨rfl, rfl⟩))
    (fun os started H enc _ => scriptShortLifted os started H enc)

theorem scriptShort_holds : Rows.ScriptShortCardSaid :=
  Claim7.holds_tied_plain_at .later [] [.data, .pinned] true (true, "7925503dcf37936fe694c497cfcd74a997d7e98ef97336789567ba97b84138f7") true
    scriptShortRow_holds (fun _ h => by cases h) (by kernel_rfl) (fun _ h => by cases h) scriptShort_row_tie rfl ⟨rfl, rfl⟩ (by kernel_rfl) rfl
    (fun f fn hf hfn => by
      obtain rfl : f = 4 := Option.some.inj ((show Tryd.prog.funcNamed "linnet/linnetlaw22.ScriptShort" = some 4 by kernel_rfl).symm.trans hf) |>.symm
      obtain rfl : fn = Tryd.f4 := (Option.some.inj (Tryd.func4.symm.trans hfn)).symm
      exact ⟨by kernel_rfl, fun j t ht => by
        rw [Tryd.params4] at ht
        have hm : t ∈ [22] := by simpa using Array.mem_of_getElem? ht
        have hall : ([22].all fun u => !Tryd.prog.wantsStandIn u) = true := by kernel_rfl
        exact (show Tryd.prog.wantsStandIn t = false by simpa using List.all_eq_true.1 hall t hm)⟩)
    (by kernel_rfl)

end Go.Proofs.YtlijecknkpcgfaaDoor
