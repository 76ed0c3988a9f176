/- Layer 7: the statement SlcSignals: whatever the input, the law returns true and its arguments read as they did. No condition but the listed variable, which the card ties to the program's text. Own work. -/
import Derived.Test.YtblmdlhdfiafgaaDoorRa
namespace Go.Proofs.YtblmdlhdfiafgaaDoor
open Go Go.Shade Go.ChangeShapes Go.WideShapes Go.ChangeAt Go.RowKit
theorem slcSignalsGood (xs : List AV) (hl : xs.length = Tryd.f8.params.toList.length) (h : ∀ (i : Nat) t a, Tryd.f8.params.toList[i]? = some t → xs[i]? = some a → argOK Tryd.prog t a) : Go.Shade.Good Tryd.prog Γ7 8 xs [] (.ret (.bool true)) [] := by
  rw [Tryd.params8] at hl h
  obtain ⟨x0, x1, rfl⟩ : ∃ x0 x1, xs = [x0, x1] := by
    match xs, hl with
    | [x0, x1], _ => exact ⟨x0, x1, rfl⟩
  obtain ⟨f, rfl⟩ := argI (h 0 3 x0 rfl rfl)
  obtain ⟨c, rfl⟩ := argI (h 1 3 x1 rfl rfl)
  exact gSignals f c

set_option maxRecDepth 100000 in
theorem slcSignalsLifted (os : Os) (started : os.Started) (H : Type) (enc : TypeId × Value → H) :
    ReturnsInHanded {} Tryd.checked os 8 .any (fun w args => (Rows.slcSignalsSpec.pre enc Tryd.prog Tryd.f8 [] false w args ∧ laidMetH Tryd.prog laidV w) ∧ sizedMet enc Tryd.prog Tryd.f8 (OpenSpec.ofChange Rows.slcSignalsSpec) false w args)
      (Rows.slcSignalsSpec.post enc Tryd.prog Tryd.f8 false true false false) := by
  refine returnsInHanded_of_change_and (C := Tryd.checked) (X := fun w _ => laidMetH Tryd.prog laidV w) (fun _ _ _ hh h => h.of_heap hh) ownK started (by kernel_rfl) Tryd.func8
    (ChangeSpec.witness_shaped (enc := enc) (C := Tryd.checked) (os := os) (X := fun w _ => laidMetH Tryd.prog laidV w) false (World.doorLaid Tryd.prog 400 os) #[.int .i64 0, .int .i64 0] 8 rfl (World.shaped_of_RefB (by kernel_rfl) (by kernel_rfl)) (by kernel_rfl) (by kernel_rfl) (by kernel_rfl) (door_met os _)) ?_
  intro W base args ds gs before hval hW _ hz hL _
  exact law_callsG (Γ := Γ7) laidOut rfl (fun ds hd => by rw [Tryd.params8] at hd; match ds, hd with | [d0, d1], _ => rfl) (tb := 4) (by kernel_rfl) Tryd.underlying4 (by kernel_rfl) slcSignalsGood (globs hL) hval hW hz

theorem slcSignalsRow_holds : Rows.SlcSignalsSaid :=
  OpenClaim.holds_of_wide 8 Tryd.f8 rfl rfl rfl rfl rfl rfl rfl ⟨rfl, rfl, rfl, rfl, rfl⟩ rfl rfl rfl rfl rfl (by kernel_rfl) Tryd.func8 (by kernel_rfl)
    (of_decide_eq_true (by kernel_rfl)) (by unfold Func.isWrapper; first | (rw [if_pos (by decide +kernel)]; kernel_rfl) | (rw [if_neg (by decide +kernel)]; exact ⟨rfl, rfl⟩))
    (fun os started H enc _ => slcSignalsLifted os started H enc)

theorem slcSignals_holds : Rows.SlcSignalsCardSaid :=
  Claim7.holds_tied_plain_at .later [] [.data] true (true, "4f647996cb3ef1714ce49678bb50a79a847f6fe3a16cfa8ba680a11a3fd92814") false
    slcSignalsRow_holds (fun _ h => by cases h) (by kernel_rfl) (fun _ h => by cases h) slcSignals_row_tie rfl ⟨rfl, rfl⟩ (by kernel_rfl) rfl
    (fun f fn hf hfn => by
      obtain rfl : f = 8 := Option.some.inj ((show Tryd.prog.funcNamed "linnet/linnetlaw07.SlcSignals" = some 8 by kernel_rfl).symm.trans hf) |>.symm
      obtain rfl : fn = Tryd.f8 := (Option.some.inj (Tryd.func8.symm.trans hfn)).symm
      exact ⟨by kernel_rfl, fun j t ht => by
        rw [Tryd.params8] at ht
        have hm : t ∈ [3, 3] := by simpa using Array.mem_of_getElem? ht
        have hall : ([3, 3].all fun u => !Tryd.prog.wantsStandIn u) = true := by kernel_rfl
        exact (show Tryd.prog.wantsStandIn t = false by simpa using List.all_eq_true.1 hall t hm)⟩)
    (by kernel_rfl)

end Go.Proofs.YtblmdlhdfiafgaaDoor
