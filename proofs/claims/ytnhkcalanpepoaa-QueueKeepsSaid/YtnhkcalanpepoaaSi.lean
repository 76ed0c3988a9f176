/- The quiet operations, all together. Own work. -/
import Derived.Test.YtnhkcalanpepoaaSh
namespace Go.Shade
open Go

section
variable {P : Program} {N : Nat} {Γ : Globs} {g : Gh} {w : World} {a : Act} {env : Nat → AV} {m : Mem} {o : Oper} {r : AV} {c : COp}

theorem pure_sound (hS : RelS Γ N g w a env m) (hc : cop P N o = some c) (hv : cpure Γ env c = some r) : ∃ v, Does P a w o v ∧ VR g w.heap r v := by
  unfold cop at hc
  split at hc
  all_goals rename_i ho
  case h_1 =>
    simp only [bind, Option.bind_eq_some_iff, pure, Option.some.injEq] at hc
    obtain ⟨x, hx, rfl⟩ := hc
    exact does_move hS (.inl ho) hx hv
  case h_2 =>
    simp only [bind, Option.bind_eq_some_iff, pure, Option.some.injEq] at hc
    obtain ⟨x, hx, rfl⟩ := hc
    exact does_move hS (.inr ho) hx hv
  case h_3 =>
    simp only [bind, Option.bind_eq_some_iff, pure, Option.some.injEq] at hc
    obtain ⟨x, hx, y, hy, z, hz, rfl⟩ := hc
    exact does_pick hS ho hx hy hz hv
  case h_4 =>
    simp only [bind, Option.bind_eq_some_iff] at hc
    obtain ⟨x, hx, y, hy, hc⟩ := hc
    split at hc
    · split at hc
      · cases hc; exact does_bin hS ho hx hy hv
      · cases hc; exact does_bin hS ho hx hy hv
      · rename_i hu; cases hc; exact does_beq hS ho (.inl rfl) hu hx hy hv
      · simp only [Option.bind_eq_some_iff, pure, Option.some.injEq] at hc
        obtain ⟨ks, hk, rfl⟩ := hc
        exact does_eqs hS ho (.inl rfl) hk hx hy hv
      · simp only [Option.bind_eq_some_iff, pure, Option.some.injEq] at hc
        obtain ⟨ks, hk, rfl⟩ := hc
        exact does_eqs hS ho (.inl rfl) hk hx hy hv
      · cases hc
    · split at hc
      · cases hc; exact does_bin hS ho hx hy hv
      · cases hc; exact does_bin hS ho hx hy hv
      · rename_i hu; cases hc; exact does_beq hS ho (.inr rfl) hu hx hy hv
      · simp only [Option.bind_eq_some_iff, pure, Option.some.injEq] at hc
        obtain ⟨ks, hk, rfl⟩ := hc
        exact does_eqs hS ho (.inr rfl) hk hx hy hv
      · simp only [Option.bind_eq_some_iff, pure, Option.some.injEq] at hc
        obtain ⟨ks, hk, rfl⟩ := hc
        exact does_eqs hS ho (.inr rfl) hk hx hy hv
      · cases hc
    · cases hc; exact does_bin hS ho hx hy hv
  case h_5 =>
    simp only [bind, Option.bind_eq_some_iff, pure, Option.some.injEq] at hc
    obtain ⟨x, hx, rfl⟩ := hc
    exact does_un hS ho hx hv
  case h_6 =>
    simp only [bind, Option.bind_eq_some_iff] at hc
    obtain ⟨x, hx, hc⟩ := hc
    split at hc
    · rename_i j k hs ht; cases hc; exact does_toInt hS ho hs ht hx hv
    · rename_i e hs ht
      split at hc
      · rename_i _ he
        cases hc
        exact does_toStr hS ho hs he ht hx hv
      · cases hc
    · rename_i hs ht; cases hc; exact does_strId hS ho hs ht hx hv
    · cases hc
  case h_7 =>
    simp only [bind, Option.bind_eq_some_iff] at hc
    obtain ⟨zero, hz, hc⟩ := hc
    split at hc
    · rename_i fs hu
      simp only [Option.bind_eq_some_iff] at hc
      obtain ⟨ps, hps, hc⟩ := hc
      split at hc
      · rename_i hall
        cases hc
        exact does_build hS ho hz (.inl ⟨fs, hu, hall, hps⟩) hv
      · cases hc
    · rename_i n e hu
      simp only [Option.bind_eq_some_iff, pure, Option.some.injEq] at hc
      obtain ⟨sz, hsz, ps, hps, rfl⟩ := hc
      exact does_build hS ho hz (.inr ⟨n, e, sz, hu, hsz, hps⟩) hv
    · cases hc
  case h_8 =>
    simp only [bind, Option.bind_eq_some_iff] at hc
    obtain ⟨x, hx, hc⟩ := hc
    split at hc
    · rename_i fs hu
      simp only [Option.bind_eq_some_iff, pure, Option.some.injEq] at hc
      obtain ⟨f, hf, n, hn, rfl⟩ := hc
      exact does_field hS ho hu hf hn hx hv
    · cases hc
  case h_9 =>
    simp only [bind, Option.bind_eq_some_iff] at hc
    obtain ⟨x, hx, y, hy, hc⟩ := hc
    split at hc
    · rename_i len e hu
      simp only [Option.bind_eq_some_iff, pure, Option.some.injEq] at hc
      obtain ⟨n, hn, rfl⟩ := hc
      exact does_index hS ho hu hn hx hy hv
    · rename_i hu
      cases hc
      exact does_sindex hS ho hu hx hy hv
    · cases hc
  case h_10 =>
    simp only [bind, Option.bind_eq_some_iff, pure, Option.some.injEq] at hc
    obtain ⟨x, hx, rfl⟩ := hc
    exact does_extract hS ho hx hv
  case h_11 =>
    simp only [bind, Option.bind_eq_some_iff] at hc
    obtain ⟨x, hx, lo, hlo, hi, hhi, hc⟩ := hc
    split at hc
    · rename_i e hu
      simp only [Option.bind_eq_some_iff, pure, Option.some.injEq] at hc
      obtain ⟨n, hn, rfl⟩ := hc
      exact does_slice hS ho hu hn hx hlo hhi hv
    · simp only [Option.bind_eq_some_iff, pure, Option.some.injEq] at hc
      obtain ⟨n, hn, rfl⟩ := hc
      simp [cpure] at hv
    · cases hc
  case h_12 =>
    simp only [bind, Option.bind_eq_some_iff] at hc
    obtain ⟨x, hx, hc⟩ := hc
    split at hc
    · rename_i fs hu
      simp only [Option.bind_eq_some_iff] at hc
      obtain ⟨f, hf, n, hn, hc⟩ := hc
      split at hc
      · cases hc
      · rename_i h0
        cases hc
        exact does_faddr hS ho hu hf hn h0 hx hv
    · cases hc
  case h_13 =>
    simp only [bind, Option.bind_eq_some_iff] at hc
    obtain ⟨x, hx, y, hy, hc⟩ := hc
    split at hc
    · rename_i e hu
      simp only [Option.bind_eq_some_iff] at hc
      obtain ⟨n, hn, hc⟩ := hc
      split at hc
      · cases hc
      · rename_i h0
        cases hc
        exact does_iaddrS hS ho hu hn h0 hx hy hv
    · rename_i n e hu
      simp only [Option.bind_eq_some_iff, pure, Option.some.injEq] at hc
      obtain ⟨sz, hsz, rfl⟩ := hc
      exact does_iaddrA hS ho hu hsz hx hy hv
    · cases hc
  case h_14 =>
    simp only [bind, Option.bind_eq_some_iff, pure, Option.some.injEq] at hc
    obtain ⟨x, hx, y, hy, rfl⟩ := hc
    exact does_mkfn hS ho hx hy hv
  case h_15 =>
    simp only [bind, Option.bind_eq_some_iff] at hc
    obtain ⟨x, hx, hc⟩ := hc
    split at hc
    · cases hc
    · cases hc
    · rename_i h1 h2
      cases hc
      cases hu : P.underlying _ with
      | none => exact absurd hu h2
      | some d => exact does_mkif hS ho hu (fun ms h => h1 ms (h ▸ hu)) hx hv
  case h_16 =>
    simp only [bind, Option.bind_eq_some_iff, pure, Option.some.injEq] at hc
    obtain ⟨x, hx, rfl⟩ := hc
    exact does_nilchk hS ho hx hv
  case h_17 =>
    simp only [bind, Option.bind_eq_some_iff] at hc
    obtain ⟨x, hx, hc⟩ := hc
    split at hc
    · rename_i n e hu
      cases hc
      exact does_arrptr hS ho hu hx hv
    · cases hc
  case h_18 =>
    simp only [bind, Option.bind_eq_some_iff, pure, Option.some.injEq] at hc
    obtain ⟨n, hn, x, hx, rfl⟩ := hc
    exact does_cload hS ho hn hx hv
  case h_19 =>
    simp only [bind, Option.bind_eq_some_iff, pure, Option.some.injEq] at hc
    obtain ⟨_, _, _, _, _, _, rfl⟩ := hc
    simp [cpure] at hv
  case h_20 =>
    simp only [bind, Option.bind_eq_some_iff, pure, Option.some.injEq] at hc
    obtain ⟨_, _, rfl⟩ := hc
    simp [cpure] at hv
  case h_21 =>
    simp only [bind, Option.bind_eq_some_iff, pure, Option.some.injEq] at hc
    obtain ⟨_, _, rfl⟩ := hc
    simp [cpure] at hv
  case h_22 =>
    split at hc
    · simp only [bind, Option.bind_eq_some_iff] at hc
      obtain ⟨_, _, _, _, hc⟩ := hc
      split at hc
      · cases hc
      · simp only [Option.bind_eq_some_iff, pure, Option.some.injEq] at hc
        obtain ⟨_, _, rfl⟩ := hc
        simp [cpure] at hv
    · cases hc
  case h_23 =>
    split at hc
    · rename_i x t ha ht
      simp only [bind, Option.bind_eq_some_iff] at hc
      obtain ⟨x', hx, hc⟩ := hc
      split at hc
      · rename_i e hu; cases hc; exact does_len hS ho ha ht hu hx hv
      · rename_i hu; cases hc; exact does_slen hS ho ha ht hu hx hv
      · cases hc
    · rename_i x y _ ha
      simp only [bind, Option.bind_eq_some_iff, pure, Option.some.injEq] at hc
      obtain ⟨x', hx, y', hy, rfl⟩ := hc
      exact does_minmax (mx := false) hS ho ha hx hy hv
    · rename_i x y _ ha
      simp only [bind, Option.bind_eq_some_iff, pure, Option.some.injEq] at hc
      obtain ⟨x', hx, y', hy, rfl⟩ := hc
      exact does_minmax (mx := true) hS ho ha hx hy hv
    · simp only [bind, Option.bind_eq_some_iff] at hc
      obtain ⟨_, _, _, _, hc⟩ := hc
      split at hc
      · simp only [Option.bind_eq_some_iff] at hc
        obtain ⟨_, _, hc⟩ := hc
        split at hc
        · simp only [Option.bind_eq_some_iff, pure, Option.some.injEq] at hc
          obtain ⟨_, _, rfl⟩ := hc
          simp [cpure] at hv
        · simp only [Option.bind_eq_some_iff, pure, Option.some.injEq] at hc
          obtain ⟨_, _, rfl⟩ := hc
          simp [cpure] at hv
        · cases hc
      · cases hc
    · cases hc
  case h_24 =>
    simp only [bind, Option.bind_eq_some_iff, pure, Option.some.injEq] at hc
    obtain ⟨_, _, _, _, rfl⟩ := hc
    simp [cpure] at hv
  case h_25 =>
    simp only [bind, Option.bind_eq_some_iff, pure, Option.some.injEq] at hc
    obtain ⟨_, _, rfl⟩ := hc
    simp [cpure] at hv
  case h_26 => cases hc
end
end Go.Shade
