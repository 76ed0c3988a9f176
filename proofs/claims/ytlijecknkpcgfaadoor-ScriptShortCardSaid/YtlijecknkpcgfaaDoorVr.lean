/- Layer 20: the chunks of 32 octets, one by one, by the kit's own walks. Own work. -/
import Derived.RangeFuncNested
import Derived.RangeFuncBound
import Derived.RangeFuncCalls
import Derived.RangeFuncLeaves
import Derived.RangeFuncBox
import Derived.Shelf.Abstract
import Derived.Shelf.RegionOpen
import Derived.WalkKit
import Derived.OwnWalkIn
import Derived.TacticsInMore
import Derived.LoopNIn
import Derived.LoopIn
import Derived.Test.YtlijecknkpcgfaaDoorProg
namespace Go.Proofs
open Go.RowKit Go.Shelf
attribute [local go_sem] Oper.semAt_some
/-- What a round keeps: what lay ahead, and the two boxes. -/
def KpC (n₀ Bs Bn : Nat) (A B : World) : Prop := Below n₀ A B ∧ (∀ v, Boxed A Bs 23 v → Boxed B Bs 23 v) ∧ ∀ v, Boxed A Bn 3 v → Boxed B Bn 3 v
theorem KpC.trans {n₀ Bs Bn : Nat} {A B C : World} (h : KpC n₀ Bs Bn A B) (k : KpC n₀ Bs Bn B C) : KpC n₀ Bs Bn A C := ⟨h.1.trans k.1, fun v e => k.2.1 v (h.2.1 v e), fun v e => k.2.2 v (h.2.2 v e)⟩
theorem fin_succ : ∀ {k : Nat} (h : k < 4), (List.finRange 4).take (k + 1) = (List.finRange 4).take k ++ [⟨k, h⟩] := by decide
set_option maxRecDepth 100000 in
set_option maxHeartbeats 4000000 in
theorem chunk1_in (F : Fence) (n : Nat) (hf : F.fn 54) (hro : F.round = none) (hn : 1 ≤ n) (l Bs Bn n₀ b off cap : Nat) (hcap : 32 ≤ cap) (hcm : cap ≤ maxLen) (J Jx : List (Fin 4) → World → Prop)
    (hJa : ∀ s (A : World), J s A → J s A.drew)
    (hY : ∀ pre x W, J pre W → pre.length < 4 → YieldAt F (n - 1) Tryd.prog l #[.slice (some ⟨b, off + 8 * x.val, none⟩) 8 8] W fun e W' =>
      (e = .returned (.bool true) ∧ J (pre ++ [x]) W' ∧ KpC n₀ Bs Bn W W') ∨ (e = .returned (.bool false) ∧ Jx (pre ++ [x]) W'))
    (W : World) (hBs : Boxed W Bs 23 (.slice (some ⟨b, off, none⟩) 32 cap)) (hBn : Boxed W Bn 3 (.int .i64 8)) (h0 : J [] W) :
    CallsIn F n Tryd.prog 54 #[.func (.yield l) #[] #[], .pointer (some ⟨Bs, 0, none⟩), .pointer (some ⟨Bn, 0, none⟩)] W fun e W' => (∃ v, e = .returned v) ∧
      ((∃ ys, ys = List.finRange 4 ∧ J ys W') ∨ (∃ pre, (∃ k, k ≤ 4 ∧ pre = (List.finRange 4).take k) ∧ Jx pre W')) := by
  refine callsIn_of_wp Tryd.func54 rfl hf ?_ hro
  simp only [Tryd.ntmps54, List.size_toArray, List.length_cons, List.length_nil, Nat.reduceAdd, Nat.reduceSub, Array.replicate_succ, Array.replicate_zero, List.push_toArray, List.append_toArray, List.nil_append, List.cons_append]
  gi_wp2
  gi_loopw [4] (fun i wr => ∃ k : Nat, k ≤ 4 ∧ i = .int .i64 (8 * k : Nat) ∧ J ((List.finRange 4).take k) wr ∧ KpC n₀ Bs Bn W wr)
    (fun i _ => 32 - (intOf i).toNat)
  case atStart => exact ⟨0, Nat.zero_le _, rfl, h0, Below.refl _ _, fun _ h => h, fun _ h => h⟩
  case round =>
    obtain ⟨k, hk, rfl, hJs, hnx⟩ := hrel
    have bs := hnx.2.1 _ hBs
    have bn := hnx.2.2 _ hBn
    have cs := bs.cell
    have cn := bn.cell
    have fs := bs.frozen
    have fn := bn.frozen
    by_cases hlt : k < 4
    · obtain ⟨fn, tmps, assign, body, hy, hR⟩ := hY _ ⟨k, hlt⟩ wr.drew (hJa _ _ hJs) (by rw [List.length_take]; omega)
      dsimp only at hy
      gi_wp2
      gi_region
      all_goals
        gi_wp2
        refine hR.mono ?_
        rintro e W3 (⟨rfl, hJ3, hk3⟩ | ⟨rfl, hJx3⟩)
        · have hn3 : KpC n₀ Bs Bn W W3 := hnx.trans (KpC.trans ⟨(Below.refl n₀ wr).drew, fun _ h => h, fun _ h => h⟩ hk3)
          have bs3 := hn3.2.1 _ hBs
          have bn3 := hn3.2.2 _ hBn
          have cs3 := bs3.cell
          have cn3 := bn3.cell
          have fs3 := bs3.frozen
          have fn3 := bn3.frozen
          gi_wp2
          go_roundw
          case rel => exact ⟨k + 1, by omega, by congr 1 <;> omega, by rw [fin_succ hlt]; exact hJ3, hn3⟩
          case measure => simp [intOf]; omega
        · gi_wp2
          refine bodyPost_ret (results_none rfl _ _ _) rfl ?_
          exact ⟨⟨_, rfl⟩, .inr ⟨_, ⟨k + 1, by omega, (fin_succ hlt).symm⟩, hJx3⟩⟩
    · obtain rfl : k = 4 := by omega
      gi_wp2
      go_end0
      exact ⟨⟨_, rfl⟩, .inl ⟨_, rfl, hJs⟩⟩
set_option maxHeartbeats 1000000 in
theorem chunk_in (F : Fence) (n : Nat) (hf : F.fn 30) (hro : F.round = none) (a : Option Addr) (len cap : Nat) (w : World) :
    CallsIn F n Tryd.prog 30 #[.slice a len cap, .int .i64 8] w fun e w' => e = .returned (.func (.func 54) #[] #[.pointer (some ⟨w.heap.size, 0, none⟩), .pointer (some ⟨w.heap.size + 1, 0, none⟩)]) ∧
      w' = (w.alloc (.cells #[.slice a len cap] 23)).alloc (.cells #[.int .i64 8] 3) := by
  refine callsIn_of_wp Tryd.func30 rfl hf ?_ hro
  simp only [Tryd.ntmps30, List.size_toArray, List.length_cons, List.length_nil, Nat.reduceAdd, Nat.reduceSub, Array.replicate_succ, Array.replicate_zero, List.push_toArray, List.append_toArray, List.nil_append, List.cons_append]
  gi_wp2
  go_ret
  exact ⟨rfl, rfl⟩
theorem chunk_stops (F : Fence) (n : Nat) (hf : F.fn 54) (hro : F.round = none) (hn : 1 ≤ n) (Bs Bn n₀ b off cap : Nat) (hcap : 32 ≤ cap) (hcm : cap ≤ maxLen) (w : World)
    (hBs : Boxed w Bs 23 (.slice (some ⟨b, off, none⟩) 32 cap)) (hBn : Boxed w Bn 3 (.int .i64 8)) :
    SeqStopsK F n Tryd.prog 54 #[.pointer (some ⟨Bs, 0, none⟩), .pointer (some ⟨Bn, 0, none⟩)] (fun x : Fin 4 => #[Value.slice (some ⟨b, off + 8 * x.val, none⟩) 8 8]) (KpC n₀ Bs Bn) (fun ys => ys = List.finRange 4)
      (fun pre => ∃ k, k ≤ 4 ∧ pre = (List.finRange 4).take k) 4 w := fun l J Jx W hW hJ _ hY h0 =>
  chunk1_in F n hf hro hn l Bs Bn n₀ b off cap hcap hcm J Jx (fun s A h => hJ s A A.drew none h ⟨rfl, rfl, rfl, Nat.le_refl _, fun _ _ _ => rfl⟩ (fun _ e => by cases e)) hY W ((hW.block Bs hBs.lt).trans hBs) ((hW.block Bn hBn.lt).trans hBn) h0
end Go.Proofs
