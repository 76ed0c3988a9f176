/- Layer 15: the statement TalkSame: whatever the input, the law returns true and its arguments read as they did. No condition but the listed variables, which the card ties to the program's text. Own work. -/
import Derived.Test.YtmkblhinpnodaaaDoorWk
import Derived.Test.YtmkblhinpnodaaaDoorWf
namespace Go.Proofs.YtmkblhinpnodaaaDoor
open Go Go.Shade Go.ChangeShapes Go.WideShapes Go.ChangeAt Go.RowKit
theorem talkSameGood (xs : List AV) (hl : xs.length = Tryd.f7.params.toList.length) (h : ∀ (i : Nat) t a, Tryd.f7.params.toList[i]? = some t → xs[i]? = some a → argOK Tryd.prog t a) : Go.Shade.Good Tryd.prog ΓT 7 xs [] (.ret (.bool true)) [] := by
  rw [Tryd.params7] at hl h
  obtain ⟨x0, x1, rfl⟩ : ∃ x0 x1, xs = [x0, x1] := by
    match xs, hl with
    | [x0, x1], _ => exact ⟨x0, x1, rfl⟩
  obtain ⟨t, r, rfl⟩ := argD (h 0 27 x0 rfl rfl)
  obtain ⟨l, rfl⟩ := argL (h 1 61 x1 rfl rfl)
  exact gLTSame t r l

set_option maxRecDepth 100000 in
theorem talkSameLifted (os : Os) (started : os.Started) (H : Type) (enc : TypeId × Value → H) :
    ReturnsInHanded {} Tryd.checked os 7 .any (fun w args => (Rows.talkSameSpec.pre enc Tryd.prog Tryd.f7 [] false w args ∧ laidMetH Tryd.prog laidV w) ∧ sizedMet enc Tryd.prog Tryd.f7 (OpenSpec.ofChange Rows.talkSameSpec) false w args)
      (Rows.talkSameSpec.post enc Tryd.prog Tryd.f7 false true false false) := by
  refine returnsInHanded_of_change_and (C := Tryd.checked) (X := fun w _ => laidMetH Tryd.prog laidV w) (fun _ _ _ hh h => h.of_heap hh) ownK started (by kernel_rfl) Tryd.func7
    (ChangeSpec.witness_shaped (enc := enc) (C := Tryd.checked) (os := os) (X := fun w _ => laidMetH Tryd.prog laidV w) false (World.laidAll Tryd.prog os laidV) #[.agg #[.int .i64 0, .int .u8 0, .int .i64 0, .int .u8 0, .int .i64 0, .int .u8 0, .int .i64 0, .int .u8 0, .int .i64 0, .int .u8 0, .int .i64 0, .int .u8 0, .int .i64 0, .int .u8 0, .int .i64 0, .int .u8 0, .int .i64 0, .int .u8 0, .int .i64 0, .int .u8 0, .int .i64 0, .int .u8 0, .int .i64 0, .int .u8 0, .int .i64 0, .int .u8 0, .int .i64 0, .int .u8 0, .int .i64 0, .int .u8 0, .int .i64 0, .int .u8 0, .int .i64 0, .int .u8 0, .int .i64 0, .int .u8 0, .int .i64 0, .int .u8 0, .int .i64 0, .int .u8 0, .int .i64 0, .int .u8 0, .int .i64 0, .int .u8 0, .int .i64 0, .int .u8 0, .int .i64 0, .int .u8 0, .int .i64 0, .int .u8 0, .int .i64 0, .int .u8 0, .int .i64 0, .int .u8 0, .int .i64 0, .int .u8 0, .int .i64 0, .int .u8 0, .int .i64 0, .int .u8 0, .int .i64 0, .int .u8 0, .int .i64 0], .slice none 0 0] 8 (World.laidAll_os _ _ _) (World.shaped_of_ZipB (by kernel_rfl) (by kernel_rfl)) (by kernel_rfl) (by kernel_rfl) (by kernel_rfl) (door_met os _)) ?_
  intro W base args ds gs before hval hW _ hz hL _
  exact law_callsG (Γ := ΓT) laidOut rfl (fun ds hd => by rw [Tryd.params7] at hd; match ds, hd with | [d0, d1], _ => rfl) (tb := 4) (by kernel_rfl) Tryd.underlying4 (by kernel_rfl) talkSameGood (globs hL) hval hW hz

theorem talkSameRow_holds : Rows.TalkSameSaid :=
  OpenClaim.holds_of_wide 7 Tryd.f7 rfl rfl rfl rfl rfl rfl rfl ⟨rfl, rfl, rfl, rfl, rfl⟩ rfl rfl rfl rfl rfl (by kernel_rfl) Tryd.func7 (by kernel_rfl)
    (of_decide_eq_true (by kernel_rfl)) (by unfold Func.isWrapper; first | (rw [if_pos (by decide +kernel)]; kernel_rfl) | (rw [if_neg (by decide +kernel)]; exact ⟨rfl, rfl⟩))
    (fun os started H enc _ => talkSameLifted os started H enc)

theorem talkSame_holds : Rows.TalkSameCardSaid :=
  Claim7.holds_tied_plain_at .later [] [.data, .data, .pinned] true (true, "5205a1901e82548d8be79ffbdfe3f4a8ddf87e57a098756a03548ec1b341e8b0") false
    talkSameRow_holds (fun _ h => by cases h) (by kernel_rfl) (fun _ h => by cases h) talkSame_row_tie rfl ⟨rfl, rfl⟩ (by kernel_rfl) rfl
    (fun f fn hf hfn => by
      obtain rfl : f = 7 := Option.some.inj ((show Tryd.prog.funcNamed "linnet/linnetlaw15.TalkSame" = some 7 by kernel_rfl).symm.trans hf) |>.symm
      obtain rfl : fn = Tryd.f7 := (Option.some.inj (Tryd.func7.symm.trans hfn)).symm
      exact ⟨by kernel_rfl, fun j t ht => by
        rw [Tryd.params7] at ht
        have hm : t ∈ [27, 61] := by simpa using Array.mem_of_getElem? ht
        have hall : ([27, 61].all fun u => !Tryd.prog.wantsStandIn u) = true := by kernel_rfl
        exact (show Tryd.prog.wantsStandIn t = false by simpa using List.all_eq_true.1 hall t hm)⟩)
    (by kernel_rfl)


end Go.Proofs.YtmkblhinpnodaaaDoor
