/- Layer 20: the contract of Read at 32 octets, out of the kit's walk. Own work. -/
import Derived.Test.YtlijecknkpcgfaaDoorVs
import Derived.Test.YtlijecknkpcgfaaDoorVa
namespace Go.Proofs.YtlijecknkpcgfaaDoor
open Go Go.Shade
variable {Γ : Globs}
theorem bys_flat : ∀ l : List UInt8, (bys l).flatten = l.map fun b => PV.s (.int .u8 b.toNat)
  | [] => rfl
  | c :: l => by
    have ih := bys_flat l
    rw [bys] at ih ⊢
    rw [List.map_cons, List.flatten_cons, ih]
    rfl
theorem bys_flat_at {l : List UInt8} {j : Nat} (h : j < l.length) : (bys l).flatten[j]? = some (.s (.int .u8 (l.getD j 0).toNat)) := by
  rw [bys_flat, List.getElem?_map, List.getElem?_eq_getElem h, List.getD_eq_getElem?_getD, List.getElem?_eq_getElem h]
  rfl
def fl4 (l : List UInt8) : List (List PV) := (List.finRange 4).map fun x => [PV.s (Go.Proofs.flV l x)]
theorem gWRead (l : List UInt8) (hl : l.length = 32) : Go.Shade.Good Tryd.prog Γ 17 [.sl 1 (bys l)] [] (.ret (.tup [.sl 1 (fl4 l), .int .i64 0])) [] where
  call := ⟨Tryd.f17, Tryd.func17, by kernel_rfl, by kernel_rfl⟩
  an n hn := by simp [namesL, AV.names] at hn
  pn n r h := by simp [memL] at h
  rn n hn := by simp [AE.names, AV.names, namesL] at hn
  qn n r h := by simp [memL] at h
  dom n h := by simp [memL] at h
  run := fun g w cargs hR hv => by
    obtain ⟨v, rfl⟩ : ∃ v, cargs = [v] := by
      have h1 := hv.1
      match cargs, h1 with
      | [v], _ => exact ⟨v, rfl⟩
    have h0 := hv.2 0 _ v rfl rfl
    cases h0 with
    | p hp =>
      cases hp with
      | sl f hn hc hm hcm hsz hpl hr =>
        rename_i A n c
        rw [bys_length, hl] at hn
        subst hn
        have hfl : (bys l).flatten.length = 32 := by rw [bys_flat, List.length_map, hl]
        obtain ⟨ad, vs, T, fr, u, rfl, hs, hh, hu, hle, hvv⟩ := hpl (by rw [hfl]; omega)
        obtain ⟨b, o, sp⟩ := ad
        simp only at hs hh hu hle hvv
        subst hs
        rw [hfl] at hvv
        have hcs : ∀ j, j < 32 → w.cell? ⟨b, o + j, none⟩ = some (.int .u8 (l.getD j 0).toNat) := fun j hj => by
          have h1 := (hvv j hj).1
          have h2 := hr j _ (bys_flat_at (by omega))
          have h3 : f j = .int .u8 (l.getD j 0).toNat := by
            generalize f j = y at h2
            cases h2
            rfl
          rw [h3] at h1
          simp only [World.cell?, hh]
          exact h1
        refine (callsIn_wide.1 (Go.Proofs.read_in .wide 3 trivial trivial trivial trivial rfl (by omega) b o c (by omega) hcm l hl w (lt_size hh) hcs)).mono ?_
        rintro e W' ⟨v', rfl, hrow, hB⟩
        obtain ⟨_, h⟩ := hrow
        rcases h with ⟨_, h0⟩ | ⟨gb, cap, cur, rfl, hge, hgb, hnc, hcm', hcs', htake⟩
        · omega
        have hold : ∀ k, k < w.heap.size → W'.heap[k]? = w.heap[k]? := fun k hk => hB.block k hk
        have hU : ∀ k, k < w.heap.size → (if k = gb then some 4 else g.U k) = g.U k := fun k hk => if_neg (by omega)
        have hpers : Pers g.U w.heap (fun k => if k = gb then some 4 else g.U k) W'.heap := by
          refine ⟨fun k u vs T fr hu hh => ⟨u, vs, fr, ?_, Nat.le_refl _, ?_, rfl, fun _ _ => rfl⟩, fun k l t hh => ?_⟩
          · exact (hU k (lt_size hh)).trans hu
          · exact (hold k (lt_size hh)).trans hh
          · exact (hold k (lt_size hh)).trans hh
        have hcur : ∀ j : Nat, j < 4 → cur[j]? = ((List.finRange 4).map (Go.Proofs.flV l))[j]? := fun j hj => by
          rw [← htake, List.getElem?_take, if_pos (by omega), Array.getElem?_toList]
        refine ⟨_, { g with U := fun k => if k = gb then some 4 else g.U k }, rfl, ⟨⟨fun n _ => hR.fresh n rfl, fun n cs fz h => by simp [memL] at h, fun n h => by simp [memL] at h, fun n n' k h1 => ?_, fun k u hu => ?_, hR.glob.mono hpers⟩, ?_, fun n hn => absurd rfl hn⟩, ?_⟩
        · rcases h1 with ⟨cs, fz, h, _⟩ | ⟨h, _⟩ <;> simp [memL] at h
        · simp only at hu
          split at hu
          · rename_i hk
            cases hu
            subst hk
            exact ⟨cur, _, _, hgb, by rw [hcs']; omega⟩
          · obtain ⟨vs', T', fr', h1, h2⟩ := hR.ulen k u hu
            exact ⟨vs', T', fr', (hold k (lt_size h1)).trans h1, h2⟩
        · refine ⟨hB.os, hB.tape, hB.output, fun a ha _ => World.frozen?_of_block (hold a.block ha), hB.size, fun k hk _ => ⟨hold k hk, hU k hk⟩, hpers, fun n k hk h => ?_, fun n k hk h => ?_⟩
          · rcases h with ⟨cs, h, _⟩ | ⟨h, _⟩ <;> simp [memL] at h
          · rcases h with ⟨cs, fz, h, _⟩ | ⟨h, _⟩ <;> simp [memL] at h
        · have hfx : ∀ j : Nat, (hj : j < 4) → ((List.finRange 4).map (Go.Proofs.flV l))[j]? = some (Go.Proofs.flV l ⟨j, hj⟩) := fun j hj => by
            rw [List.getElem?_map, List.getElem?_eq_getElem (by simpa using hj)]
            simp
          refine .tup rfl (fun i a v h1 h2 => ?_)
          match i, h1, h2 with
          | 0, h1, h2 =>
            cases h1
            cases h2
            refine .p (.sl (fun j => if hj : j < 4 then Go.Proofs.flV l ⟨j, hj⟩ else .bool false) rfl hnc (by omega) hcm' (fun x hx => ?_) (fun _ => ⟨⟨gb, 0, none⟩, cur, _, _, 4, rfl, rfl, hgb, if_pos rfl, by show 0 + 4 ≤ 4; omega, fun j hj => ?_⟩) (fun j a ha => ?_))
            · obtain ⟨y, _, rfl⟩ := List.mem_map.1 hx
              rfl
            · have hj : j < 4 := hj
              simp only [dif_pos hj, Nat.zero_add]
              exact ⟨(hcur j hj).trans (hfx j hj), rfl⟩
            · have hj : j < 4 := (List.getElem?_eq_some_iff.1 ha).1
              have hfl : (fl4 l).flatten = (List.finRange 4).map fun x => PV.s (Go.Proofs.flV l x) := rfl
              rw [hfl, List.getElem?_map, List.getElem?_eq_getElem (by simpa using hj)] at ha
              simp at ha
              subst ha
              simp only [dif_pos hj]
              exact .s _
          | 1, h1, h2 =>
            cases h1
            cases h2
            exact .p (.s _)
end Go.Proofs.YtlijecknkpcgfaaDoor
