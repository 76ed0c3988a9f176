/- Layer 12: LineWords. Own work. -/
import Derived.Test.YtmkblhinpnodaaaDoorLn
namespace Go.Proofs.YtmkblhinpnodaaaDoor
open Go Go.Shade
variable {Γ : Globs}
theorem trimTo_gone (p : UInt8 → Bool) (l : List UInt8) : ∀ n i : Nat, trimTo p l n ≤ i → i < n → p (l.getD i 0) = true
  | 0, i, _, h => by omega
  | n + 1, i, h1, h2 => by
    rw [trimTo] at h1
    split at h1
    · next h =>
      by_cases he : i = n
      · rw [he]; exact h
      · exact trimTo_gone p l n i h1 (by omega)
    · omega
theorem trimTo_last (p : UInt8 → Bool) (l : List UInt8) : ∀ n k : Nat, trimTo p l n = k + 1 → p (l.getD k 0) = false
  | 0, k, h => by simp [trimTo] at h
  | n + 1, k, h => by
    rw [trimTo] at h
    split at h
    · exact trimTo_last p l n k h
    · next h1 =>
      have : n = k := by omega
      subst this
      simpa using h1
theorem fwd_stop (p : UInt8 → Bool) (b : List UInt8) : ∀ (m n : Nat), b.length - n ≤ m → fwdTo p b n < b.length → p (b.getD (fwdTo p b n) 0) = false
  | m, n, hm, h => by
    by_cases hn : n < b.length
    · cases hp : p (b.getD n 0)
      · have e : fwdTo p b n = n := by rw [fwd_step hn, hp]; rfl
        rw [e]; exact hp
      · have e : fwdTo p b n = fwdTo p b (n + 1) := by rw [fwd_step hn, hp]; rfl
        rw [e] at h ⊢
        match m, hm with
        | m + 1, hm => exact fwd_stop p b m (n + 1) (by omega) h
        | 0, hm => omega
    · rw [fwd_end hn] at h; omega
theorem fwd_all (p : UInt8 → Bool) (b : List UInt8) : ∀ (m n i : Nat), b.length - n ≤ m → n ≤ i → i < fwdTo p b n → p (b.getD i 0) = true
  | m, n, i, hm, h1, h2 => by
    by_cases hn : n < b.length
    · cases hp : p (b.getD n 0)
      · have e : fwdTo p b n = n := by rw [fwd_step hn, hp]; rfl
        omega
      · have e : fwdTo p b n = fwdTo p b (n + 1) := by rw [fwd_step hn, hp]; rfl
        by_cases hi : i = n
        · rw [hi]; exact hp
        · rw [e] at h2
          match m, hm with
          | m + 1, hm => exact fwd_all p b m (n + 1) i (by omega) (by omega) h2
          | 0, hm => omega
    · rw [fwd_end hn] at h2; omega
theorem back_facts (b : List UInt8) (n : Nat) : backF b n ≤ n ∧ (0 < n → backF b n < n) ∧ (0 < backF b n → blankB (b.getD (backF b n - 1) 0) = true ∧ blankB (b.getD (backF b n) 0) = false) := by
  have hk := trimTo_le blankB b n
  have hk1 := trimTo_last blankB b n
  unfold backF
  generalize trimTo blankB b n = k at hk hk1 ⊢
  have hq := trimTo_le (fun c => !blankB c) b k
  have hq1 := trimTo_last (fun c => !blankB c) b k
  have hq2 := trimTo_gone (fun c => !blankB c) b k
  generalize trimTo (fun c => !blankB c) b k = q at hq hq1 hq2 ⊢
  have hlt : 0 < k → q < k := fun h0 => by
    rcases Nat.lt_or_ge q k with h | h
    · exact h
    · have e : q = k := by omega
      obtain ⟨j, rfl⟩ : ∃ j, k = j + 1 := ⟨k - 1, by omega⟩
      have h1 := hk1 j rfl
      have h2 := hq1 j e
      rw [h1] at h2
      cases h2
  refine ⟨by omega, fun h => ?_, fun h => ?_⟩
  · by_cases h0 : 0 < k
    · have := hlt h0; omega
    · omega
  · obtain ⟨j, rfl⟩ : ∃ j, q = j + 1 := ⟨q - 1, by omega⟩
    have h1 := hq1 j rfl
    have h2 := hq2 (j + 1) (Nat.le_refl _) (hlt (by omega))
    exact ⟨by simpa using h1, by simpa using h2⟩
theorem on_facts (b : List UInt8) (n : Nat) (hn : n ≤ b.length) : n ≤ onF b n ∧ onF b n ≤ b.length ∧ (n < b.length → n < onF b n) ∧ (onF b n < b.length → 0 < onF b n ∧ blankB (b.getD (onF b n) 0) = false ∧ blankB (b.getD (onF b n - 1) 0) = true) := by
  have h1 := fwd_le (p := fun c => !blankB c) hn
  have s1 := fwd_stop (fun c => !blankB c) b _ n (Nat.le_refl _)
  unfold onF
  have h1n : n < b.length → blankB (b.getD n 0) = false → n < fwdTo (fun c => !blankB c) b n := fun h hp => by
    have e : fwdTo (fun c => !blankB c) b n = fwdTo (fun c => !blankB c) b (n + 1) := by rw [fwd_step h, hp]; rfl
    have := fwd_le (p := fun c => !blankB c) (b := b) (n := n + 1) (by omega)
    omega
  have h1e : n < b.length → blankB (b.getD n 0) = true → fwdTo (fun c => !blankB c) b n = n := fun h hp => by rw [fwd_step h, hp]; rfl
  generalize fwdTo (fun c => !blankB c) b n = m at h1 s1 h1n h1e ⊢
  have h2 := fwd_le (p := blankB) h1.2
  have s2 := fwd_stop blankB b _ m (Nat.le_refl _)
  have a2 := fwd_all blankB b _ m (i := fwdTo blankB b m - 1) (Nat.le_refl _)
  have hm : m < b.length → m < fwdTo blankB b m := fun h => by
    have hp : blankB (b.getD m 0) = true := by simpa using s1 h
    have e : fwdTo blankB b m = fwdTo blankB b (m + 1) := by rw [fwd_step h, hp]; rfl
    have := fwd_le (p := blankB) (b := b) (n := m + 1) (by omega)
    omega
  refine ⟨by omega, h2.2, fun h => ?_, fun h => ?_⟩
  · by_cases hmn : n < m
    · omega
    · have : m = n := by omega
      have := hm (by omega)
      omega
  · have h3 := hm (by omega)
    exact ⟨by omega, s2 h, a2 (by omega) (by omega)⟩
end Go.Proofs.YtmkblhinpnodaaaDoor
