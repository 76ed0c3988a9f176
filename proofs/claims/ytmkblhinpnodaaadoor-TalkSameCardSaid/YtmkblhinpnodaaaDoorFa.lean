/- Layer 14: keys that lead to a state, in plain Lean. Own work. -/
import Derived.Test.YtmkblhinpnodaaaDoorEf
import Derived.Test.YtmkblhinpnodaaaDoorLu
namespace Go.Proofs.YtmkblhinpnodaaaDoor
open Go Go.Shade
def plainK (t : Tbl) (k : UInt8) : Bool := decide (meaning t k = 0 ∨ meaning t k = 17 ∨ meaning t k = 18)
/-- A function's key, so often. -/
def keysOf (t : Tbl) (f times : Nat) : List UInt8 := match keyOf t f with
  | some k => List.replicate times k
  | none => []
/-- Octets, as they are told. -/
def tellV (t : Tbl) : List UInt8 → List UInt8
  | [] => []
  | c :: l => (if plainK t c = true then [] else keysOf t 14 1) ++ c :: tellV t l
def homeV (t : Tbl) (n : Nat) : List UInt8 := if (keyOf t 23).isSome = true then keysOf t 23 1 else if (keyOf t 19).isSome = true then keysOf t 19 n else keysOf t 21 n
/-- Keys that lead to a state. -/
def renewV (t : Tbl) (s : Ed) : List UInt8 := tellV t (s.b.drop s.n) ++ ((if s.n < s.b.length then homeV t (s.b.length - s.n) else []) ++ (tellV t (s.b.take s.n) ++ ((if s.o = true then keysOf t 26 1 else []) ++ (if s.l = true then keysOf t 14 1 else []))))
/-- What holds of a state to which keys lead. -/
structure Rch (t : Tbl) (room : Int) (s : Ed) : Prop where
  ok : s.ok
  room : s.b = [] ∨ (s.b.length : Int) ≤ min room 4096
  lit : ∀ c ∈ s.b, plainK t c = true ∨ (keyOf t 14).isSome = true
  at_ : s.n = s.b.length ∨ (keyOf t 19).isSome = true ∨ (keyOf t 21).isSome = true ∨ (keyOf t 23).isSome = true
  over : s.o = true → (keyOf t 26).isSome = true
  l : s.l = true → (keyOf t 14).isSome = true
theorem rch_zero (t : Tbl) (room : Int) : Rch t room .zero := ⟨zero_ok, .inl rfl, fun c h => (by simp [Ed.zero] at h), .inl rfl, fun h => (by cases h), fun h => (by cases h)⟩
theorem isSome_of {t : Tbl} {f : Nat} {k : UInt8} (h : meaning t k = f) (h1 : 1 ≤ f) : (keyOf t f).isSome = true := by rw [keyOf_of h h1]; rfl
section
variable {t : Tbl} {room : Int} {s : Ed} {k : UInt8} (h : Rch t room s)
include h
theorem rch_typed (hk : plainK t k = true ∨ (keyOf t 14).isSome = true) : Rch t room (typedV { s with l := false } room k).1 := by
  obtain ⟨o1, o2, _⟩ := typeW_ok (room := room) (o := s.o) (k := k) h.ok.1 h.ok.2
  have hn := h.ok.2
  unfold typedV
  simp only
  refine ⟨⟨o1, o2⟩, ?_, ?_, ?_, h.over, fun e => by cases e⟩
  · unfold typeW typeV
    simp only
    by_cases h1 : s.o = true ∧ s.n < s.b.length
    · rw [if_pos h1]
      simp only
      rcases h.room with he | he
      · rw [he] at h1; simp at h1
      · right
        have : (s.b.take s.n ++ [k] ++ s.b.drop (s.n + 1)).length = s.b.length := by rw [List.length_append, List.length_append, List.length_take, List.length_drop, List.length_cons, List.length_nil]; omega
        omega
    · rw [if_neg h1]
      by_cases h2 : min room 4096 ≤ s.b.length
      · rw [if_pos h2]; exact h.room
      · rw [if_neg h2]
        right
        simp only
        have : (s.b.take s.n ++ [k] ++ s.b.drop s.n).length = s.b.length + 1 := by rw [List.length_append, List.length_append, List.length_take, List.length_drop, List.length_cons, List.length_nil]; omega
        omega
  · intro c hc
    unfold typeW typeV at hc
    simp only at hc
    have hsub : ∀ i j, c ∈ s.b.take i ++ [k] ++ s.b.drop j → plainK t c = true ∨ (keyOf t 14).isSome = true := fun i j hm => by
      rcases List.mem_append.1 hm with hm | hm
      · rcases List.mem_append.1 hm with hm | hm
        · exact h.lit c (List.mem_of_mem_take hm)
        · rw [List.mem_singleton] at hm; rw [hm]; exact hk
      · exact h.lit c (List.mem_of_mem_drop hm)
    by_cases h1 : s.o = true ∧ s.n < s.b.length
    · rw [if_pos h1] at hc; exact hsub _ _ hc
    · rw [if_neg h1] at hc
      by_cases h2 : min room 4096 ≤ s.b.length
      · rw [if_pos h2] at hc; exact h.lit c hc
      · rw [if_neg h2] at hc; exact hsub _ _ hc
  · rcases h.at_ with ha | ha
    · left
      unfold typeW typeV
      rw [if_neg (by omega)]
      by_cases h2 : min room 4096 ≤ s.b.length
      · rw [if_pos h2]; exact ha
      · rw [if_neg h2]
        simp only
        rw [List.length_append, List.length_append, List.length_take, List.length_drop, List.length_cons, List.length_nil]; omega
    · exact .inr ha
theorem rch_cut {i j : Nat} (hij : i ≤ j) (hj : j ≤ s.b.length) {m : Nat} (hm : m = i) (ha : s.n = s.b.length → j = s.b.length) : Rch t room { s with b := s.b.take i ++ s.b.drop j, n := m } := by
  subst hm
  obtain ⟨c1, c2⟩ := cut_len hij hj
  refine ⟨⟨Nat.le_trans c1 h.ok.1, c2⟩, ?_, ?_, ?_, h.over, h.l⟩
  · rcases h.room with he | he
    · left
      simp only [he, List.take_nil, List.drop_nil, List.append_nil]
    · right
      simp only
      omega
  · intro c hc
    rcases List.mem_append.1 hc with hc | hc
    · exact h.lit c (List.mem_of_mem_take hc)
    · exact h.lit c (List.mem_of_mem_drop hc)
  · rcases h.at_ with hb | hb
    · left
      have := ha hb
      simp only
      rw [List.length_append, List.length_take, List.length_drop]
      omega
    · exact .inr hb
theorem rch_to {m : Nat} (hm : m ≤ s.b.length) (ha : m = s.b.length ∨ (keyOf t 19).isSome = true ∨ (keyOf t 21).isSome = true ∨ (keyOf t 23).isSome = true) : Rch t room { s with n := m } := ⟨⟨h.ok.1, hm⟩, h.room, h.lit, ha, h.over, h.l⟩
theorem rch_do {f : Nat} (hf : meaning t k = f) (_hf1 : 10 ≤ f) : Rch t room { s with b := (doW s.b s.n f).1, n := (doW s.b s.n f).2.1 } := by
  have hn := h.ok.2
  have hbk := backF_le s.b s.n
  have hon := onF_le hn
  unfold doW doV
  by_cases g0 : (f : Int) = 10
  · rw [if_pos g0]; exact rch_cut h (by omega) hn rfl (fun e => e)
  rw [if_neg g0]
  by_cases g1 : (f : Int) = 27
  · rw [if_pos g1]; exact rch_cut h (by omega) (by omega) rfl (fun e => by omega)
  rw [if_neg g1]
  by_cases g2 : (f : Int) = 12
  · rw [if_pos g2]; exact rch_cut h hbk hn rfl (fun e => e)
  rw [if_neg g2]
  by_cases g3 : (f : Int) = 28
  · rw [if_pos g3]; exact rch_cut h hon.1 hon.2 rfl (fun e => by omega)
  rw [if_neg g3]
  by_cases g4 : (f : Int) = 29
  · rw [if_pos g4]; exact rch_cut h (by omega) hn rfl (fun e => e)
  rw [if_neg g4]
  by_cases g5 : (f : Int) = 30
  · rw [if_pos g5]; exact rch_cut h hn (Nat.le_refl _) rfl (fun e => rfl)
  rw [if_neg g5]
  by_cases g6 : (f : Int) = 11
  · rw [if_pos g6]
    exact ⟨⟨by simp, by simp⟩, .inl rfl, fun c hc => (by simp at hc), .inl rfl, h.over, h.l⟩
  rw [if_neg g6]
  by_cases g7 : (f : Int) = 19
  · rw [if_pos g7]; simp only; exact rch_to h (by omega) (.inr (.inl (isSome_of (k := k) (hf.trans (by omega)) (by omega))))
  rw [if_neg g7]
  by_cases g8 : (f : Int) = 20
  · rw [if_pos g8]
    simp only
    refine rch_to h (by omega) ?_
    rcases h.at_ with ha | ha
    · left; omega
    · exact .inr ha
  rw [if_neg g8]
  by_cases g9 : (f : Int) = 21
  · rw [if_pos g9]; simp only; exact rch_to h (by omega) (.inr (.inr (.inl (isSome_of (k := k) (hf.trans (by omega)) (by omega)))))
  rw [if_neg g9]
  by_cases g10 : (f : Int) = 22
  · rw [if_pos g10]
    simp only
    refine rch_to h hon.2 ?_
    rcases h.at_ with ha | ha
    · left; omega
    · exact .inr ha
  rw [if_neg g10]
  by_cases g11 : (f : Int) = 23
  · rw [if_pos g11]; simp only; exact rch_to h (by omega) (.inr (.inr (.inr (isSome_of (k := k) (hf.trans (by omega)) (by omega)))))
  rw [if_neg g11]
  by_cases g12 : (f : Int) = 24
  · rw [if_pos g12]; simp only; exact rch_to h (Nat.le_refl _) (.inl rfl)
  rw [if_neg g12]
  exact h
theorem rch_key : Rch t room (keyV t room s k).1 := by
  unfold keyV
  by_cases hl : s.l = true
  · rw [if_pos hl]
    exact rch_typed h (.inr (h.l hl))
  rw [if_neg hl]
  have hl : s.l = false := by simpa using hl
  have hs : s = { s with l := false } := by cases s; simp only at hl; rw [hl]
  obtain ⟨f, hf⟩ : ∃ f, meaning t k = f := ⟨_, rfl⟩
  rw [hf]
  unfold meanV
  by_cases h0 : f = 0 ∨ f = 17 ∨ f = 18
  · rw [if_pos h0, hs]
    exact rch_typed h (.inl (by unfold plainK; rw [hf]; exact decide_eq_true h0))
  rw [if_neg h0]
  by_cases h31 : f = 31
  · rw [if_pos h31]; exact rch_zero t room
  rw [if_neg h31]
  by_cases h9 : f ≤ 9
  · rw [if_pos h9]
    unfold sigV
    split
    · exact ⟨h.ok, h.room, h.lit, h.at_, h.over, fun e => by cases e⟩
    split
    · exact rch_zero t room
    · exact rch_zero t room
  rw [if_neg h9]
  by_cases h14 : f = 14
  · rw [if_pos h14]
    exact ⟨h.ok, h.room, h.lit, h.at_, h.over, fun _ => isSome_of (k := k) (hf.trans (by omega)) (by omega)⟩
  rw [if_neg h14]
  by_cases h25 : f = 25 ∨ f = 26
  · rw [if_pos h25]
    exact ⟨h.ok, h.room, h.lit, h.at_, fun e => isSome_of (k := k) (by simp only [decide_eq_true_eq] at e; omega) (by omega), h.l⟩
  rw [if_neg h25]
  exact rch_do h hf (by omega)
end
theorem rch_play {t : Tbl} {room : Int} : ∀ (ks : List UInt8) {s : Ed}, Rch t room s → Rch t room (playV t room s ks).1
  | [], _, h => h
  | k :: ks, _, h => by
    rw [playV]
    exact rch_play ks (rch_key h)
/-! ### Playing what is told -/
theorem key_typed {t : Tbl} {room : Int} {b : List UInt8} {n : Nat} {c : UInt8} {l : Bool} (hr : (b.length : Int) < min room 4096) (hc : l = true ∨ plainK t c = true) : keyV t room ⟨b, n, false, l⟩ c = (⟨b.take n ++ [c] ++ b.drop n, n + 1, false, false⟩, [], false) := by
  have ht : typeW b n room false c = (b.take n ++ [c] ++ b.drop n, n + 1, true) := by
    unfold typeW typeV
    rw [if_neg (by simp), if_neg (by omega)]
  have hv : typedV ⟨b, n, false, false⟩ room c = (⟨b.take n ++ [c] ++ b.drop n, n + 1, false, false⟩, [], false) := by
    unfold typedV
    simp only [ht, Bool.not_true]
  unfold keyV
  cases l
  · rw [if_neg (by simp)]
    have hc : plainK t c = true := by simpa using hc
    unfold meanV
    rw [if_pos (by simpa [plainK] using hc)]
    exact hv
  · rw [if_pos rfl]
    exact hv
theorem key_lit {t : Tbl} {room : Int} {b : List UInt8} {n : Nat} {o : Bool} {k : UInt8} (hk : keyOf t 14 = some k) : keyV t room ⟨b, n, o, false⟩ k = (⟨b, n, o, true⟩, [], false) := by
  obtain ⟨h1, _⟩ := keyOf_some hk
  unfold keyV meanV
  rw [if_neg (by simp), h1]
  rfl
theorem play_one (t : Tbl) (room : Int) (s : Ed) (k : UInt8) (ks : List UInt8) {s' : Ed} (h : keyV t room s k = (s', [], false)) : playV t room s (k :: ks) = playV t room s' ks := by
  rw [playV, h]
  simp
theorem tell_play {t : Tbl} {room : Int} : ∀ (l b : List UInt8) (n : Nat), n ≤ b.length → ((b.length + l.length : Nat) : Int) ≤ min room 4096 → (∀ c ∈ l, plainK t c = true ∨ (keyOf t 14).isSome = true) → playV t room ⟨b, n, false, false⟩ (tellV t l) = (⟨b.take n ++ l ++ b.drop n, n + l.length, false, false⟩, [], 0)
  | [], b, n, _, _, _ => by
    rw [tellV, playV]
    simp
  | c :: l, b, n, hn, hr, hc => by
    rw [List.length_cons] at hr
    have ih := tell_play (t := t) (room := room) l (b.take n ++ [c] ++ b.drop n) (n + 1) (by rw [List.length_append, List.length_append, List.length_take, List.length_drop, List.length_cons, List.length_nil]; omega)
      (by rw [List.length_append, List.length_append, List.length_take, List.length_drop, List.length_cons, List.length_nil]; omega) (fun d hd => hc d (by simp [hd]))
    have h1 : (b.take n ++ [c]).length = n + 1 := by rw [List.length_append, List.length_take, List.length_cons, List.length_nil]; omega
    have ht : (b.take n ++ [c] ++ b.drop n).take (n + 1) = b.take n ++ [c] := by rw [← h1, List.take_left]
    have hd : (b.take n ++ [c] ++ b.drop n).drop (n + 1) = b.drop n := by rw [← h1, List.drop_left]
    rw [ht, hd] at ih
    have hfin : (⟨b.take n ++ [c] ++ l ++ b.drop n, n + 1 + l.length, false, false⟩ : Ed) = ⟨b.take n ++ (c :: l) ++ b.drop n, n + (c :: l).length, false, false⟩ := by
      rw [List.length_cons, show n + 1 + l.length = n + (l.length + 1) by omega]
      simp
    rw [hfin] at ih
    rw [tellV]
    by_cases hp : plainK t c = true
    · rw [if_pos hp, List.nil_append, play_one t room _ c _ (key_typed (by omega) (.inr hp)), ih]
    · rw [if_neg hp]
      have hk := (hc c (by simp)).resolve_left hp
      unfold keysOf
      cases hko : keyOf t 14 with
      | none => rw [hko] at hk; cases hk
      | some k =>
        simp only [List.replicate_one, List.singleton_append]
        rw [play_one t room _ k _ (key_lit hko), play_one t room _ c _ (key_typed (by omega) (.inl rfl)), ih]
theorem key_do {t : Tbl} {room : Int} {b : List UInt8} {n m f : Nat} {k : UInt8} (hk : keyOf t f = some k) (hf : f = 19 ∨ f = 21 ∨ f = 23) (hd : doV b n f = some (b, m)) : keyV t room ⟨b, n, false, false⟩ k = (⟨b, m, false, false⟩, [], false) := by
  obtain ⟨h1, _⟩ := keyOf_some hk
  have hw : doW b n f = (b, m, true) := by unfold doW; rw [hd]
  unfold keyV meanV
  rw [if_neg (by simp), h1, if_neg (by omega), if_neg (by omega), if_neg (by omega), if_neg (by omega), if_neg (by omega)]
  simp only [hw]
theorem left_play {t : Tbl} {room : Int} {b : List UInt8} {k : UInt8} (hk : keyOf t 19 = some k) : ∀ m n : Nat, playV t room ⟨b, n, false, false⟩ (List.replicate m k) = (⟨b, n - m, false, false⟩, [], 0)
  | 0, n => rfl
  | m + 1, n => by
    rw [List.replicate_succ, play_one t room _ k _ (key_do hk (.inl rfl) (m := n - 1) rfl), left_play hk m (n - 1), Nat.sub_sub, Nat.add_comm 1 m]
theorem word_play {t : Tbl} {room : Int} {b : List UInt8} {k : UInt8} (hk : keyOf t 21 = some k) : ∀ m n : Nat, n ≤ m → playV t room ⟨b, n, false, false⟩ (List.replicate m k) = (⟨b, 0, false, false⟩, [], 0)
  | 0, n, h => by
    have : n = 0 := by omega
    subst this
    rfl
  | m + 1, n, h => by
    obtain ⟨b1, b2, _⟩ := back_facts b n
    rw [List.replicate_succ, play_one t room _ k _ (key_do hk (.inr (.inl rfl)) (m := backF b n) rfl), word_play hk m (backF b n) (by
      by_cases h0 : 0 < n
      · have := b2 h0; omega
      · omega)]
theorem home_play {t : Tbl} {room : Int} {b : List UInt8} (h : (keyOf t 19).isSome = true ∨ (keyOf t 21).isSome = true ∨ (keyOf t 23).isSome = true) : playV t room ⟨b, b.length, false, false⟩ (homeV t b.length) = (⟨b, 0, false, false⟩, [], 0) := by
  unfold homeV
  by_cases h23 : (keyOf t 23).isSome = true
  · rw [if_pos h23]
    obtain ⟨k, hk⟩ := Option.isSome_iff_exists.1 h23
    unfold keysOf
    rw [hk]
    simp only [List.replicate_one]
    rw [play_one t room _ k _ (key_do hk (.inr (.inr rfl)) (m := 0) rfl)]
    rfl
  · rw [if_neg h23]
    by_cases h19 : (keyOf t 19).isSome = true
    · rw [if_pos h19]
      obtain ⟨k, hk⟩ := Option.isSome_iff_exists.1 h19
      unfold keysOf
      rw [hk]
      simp only
      rw [left_play hk, Nat.sub_self]
    · rw [if_neg h19]
      have h21 := (h.resolve_left h19).resolve_right h23
      obtain ⟨k, hk⟩ := Option.isSome_iff_exists.1 h21
      unfold keysOf
      rw [hk]
      simp only
      rw [word_play hk _ _ (Nat.le_refl _)]
theorem key_over {t : Tbl} {room : Int} {b : List UInt8} {n : Nat} {k : UInt8} (hk : keyOf t 26 = some k) : keyV t room ⟨b, n, false, false⟩ k = (⟨b, n, true, false⟩, [], false) := by
  obtain ⟨h1, _⟩ := keyOf_some hk
  unfold keyV meanV
  rw [if_neg (by simp), h1]
  rfl
/-- Keys that renew a state lead to it. -/
theorem renew_play {t : Tbl} {room : Int} {s : Ed} (h : Rch t room s) : playV t room .zero (renewV t s) = (s, [], 0) := by
  have hn := h.ok.2
  have hr : (s.b.length : Int) ≤ min room 4096 ∨ s.b = [] := h.room.symm
  have hrl : ∀ i j : Nat, i + j ≤ s.b.length → s.b ≠ [] → ((i + j : Nat) : Int) ≤ min room 4096 := fun i j hij hne => by
    rcases hr with hr | hr
    · omega
    · exact absurd hr hne
  by_cases hne : s.b = []
  · -- no octet
    have hn0 : s.n = 0 := by rw [hne] at hn; simpa using hn
    unfold renewV
    rw [hne, hn0, List.drop_nil, List.take_nil, tellV, List.nil_append, if_neg (by simp), List.nil_append, List.nil_append]
    obtain ⟨b, n, o, l⟩ := s
    simp only at hne hn0 h
    subst hne hn0
    have ho := h.over
    have hl := h.l
    simp only at ho hl
    unfold keysOf Ed.zero
    cases o <;> cases l
    · rfl
    · obtain ⟨k, hk⟩ := Option.isSome_iff_exists.1 (hl rfl)
      rw [hk]
      exact play_one t room _ k [] (key_lit hk)
    · obtain ⟨k, hk⟩ := Option.isSome_iff_exists.1 (ho rfl)
      rw [hk]
      exact play_one t room _ k [] (key_over hk)
    · obtain ⟨k, hk⟩ := Option.isSome_iff_exists.1 (hl rfl)
      obtain ⟨q, hq⟩ := Option.isSome_iff_exists.1 (ho rfl)
      rw [hk, hq]
      exact (play_one t room _ q [k] (key_over hq)).trans (play_one t room _ k [] (key_lit hk))
  · have e1 := tell_play (t := t) (room := room) (s.b.drop s.n) [] 0 (Nat.le_refl _) (by
      have := hrl 0 (s.b.length - s.n) (by omega) hne
      rw [List.length_nil, List.length_drop]; exact this) (fun c hc => h.lit c (List.mem_of_mem_drop hc))
    rw [List.take_nil, List.drop_nil, List.nil_append, List.append_nil, Nat.zero_add, List.length_drop] at e1
    have e2 : playV t room ⟨s.b.drop s.n, s.b.length - s.n, false, false⟩ (if s.n < s.b.length then homeV t (s.b.length - s.n) else []) = (⟨s.b.drop s.n, 0, false, false⟩, [], 0) := by
      by_cases hlt : s.n < s.b.length
      · rw [if_pos hlt]
        have := home_play (t := t) (room := room) (b := s.b.drop s.n) (h.at_.resolve_left (by omega))
        rwa [List.length_drop] at this
      · rw [if_neg hlt, show s.b.length - s.n = 0 by omega]
        rfl
    have e3 := tell_play (t := t) (room := room) (s.b.take s.n) (s.b.drop s.n) 0 (Nat.zero_le _) (by
      have := hrl (s.b.length - s.n) s.n (by omega) hne
      rw [List.length_take, List.length_drop, Nat.min_eq_left hn]; exact this) (fun c hc => h.lit c (List.mem_of_mem_take hc))
    rw [List.take_zero, List.nil_append, List.drop_zero, List.take_append_drop, Nat.zero_add, List.length_take, Nat.min_eq_left hn] at e3
    have e4 : playV t room ⟨s.b, s.n, false, false⟩ (if s.o = true then keysOf t 26 1 else []) = (⟨s.b, s.n, s.o, false⟩, [], 0) := by
      by_cases ho : s.o = true
      · rw [if_pos ho]
        obtain ⟨k, hk⟩ := Option.isSome_iff_exists.1 (h.over ho)
        unfold keysOf
        rw [hk, ho]
        exact play_one t room _ k [] (key_over hk)
      · rw [if_neg ho]
        have ho : s.o = false := by simpa using ho
        rw [ho]
        rfl
    have e5 : playV t room ⟨s.b, s.n, s.o, false⟩ (if s.l = true then keysOf t 14 1 else []) = (s, [], 0) := by
      by_cases hl : s.l = true
      · rw [if_pos hl]
        obtain ⟨k, hk⟩ := Option.isSome_iff_exists.1 (h.l hl)
        unfold keysOf
        rw [hk]
        refine (play_one t room _ k [] (key_lit hk)).trans ?_
        rw [playV]
        cases s
        simp only at hl
        rw [hl]
      · rw [if_neg hl, playV]
        have hl : s.l = false := by simpa using hl
        cases s
        simp only at hl
        rw [hl]
    unfold renewV
    rw [show (Ed.zero) = ⟨[], 0, false, false⟩ from rfl, play_append, e1]
    simp only
    rw [play_append, e2]
    simp only
    rw [play_append, e3]
    simp only
    rw [play_append, e4]
    simp only
    rw [e5]
    rfl
theorem tell_len (t : Tbl) : ∀ l : List UInt8, l.length ≤ (tellV t l).length ∧ (tellV t l).length ≤ 2 * l.length
  | [] => ⟨Nat.le_refl _, Nat.le_refl _⟩
  | c :: l => by
    obtain ⟨h1, h2⟩ := tell_len t l
    have h3 : (if plainK t c = true then [] else keysOf t 14 1).length ≤ 1 := by
      split
      · exact Nat.zero_le _
      · unfold keysOf; split <;> simp
    rw [tellV, List.length_append, List.length_cons, List.length_cons]
    omega
theorem keys_len (t : Tbl) (f n : Nat) : (keysOf t f n).length ≤ n := by
  unfold keysOf
  split <;> simp
theorem renew_len (t : Tbl) (s : Ed) (hn : s.n ≤ s.b.length) : s.b.length ≤ (renewV t s).length ∧ (renewV t s).length ≤ 3 * s.b.length + 2 := by
  obtain ⟨h1, h2⟩ := tell_len t (s.b.drop s.n)
  obtain ⟨h3, h4⟩ := tell_len t (s.b.take s.n)
  rw [List.length_drop] at h1 h2
  rw [List.length_take, Nat.min_eq_left hn] at h3 h4
  have h5 : (if s.n < s.b.length then homeV t (s.b.length - s.n) else []).length ≤ s.b.length - s.n := by
    split
    · unfold homeV
      split
      · exact Nat.le_trans (keys_len t _ _) (by omega)
      split
      · exact keys_len t _ _
      · exact keys_len t _ _
    · exact Nat.zero_le _
  have h6 : (if s.o = true then keysOf t 26 1 else []).length ≤ 1 := by
    split
    · exact keys_len t _ _
    · exact Nat.zero_le _
  have h7 : (if s.l = true then keysOf t 14 1 else []).length ≤ 1 := by
    split
    · exact keys_len t _ _
    · exact Nat.zero_le _
  unfold renewV
  rw [List.length_append, List.length_append, List.length_append, List.length_append]
  omega
/-- Two states to which keys lead have the same keys just if they are the same. -/
theorem renew_inj {t : Tbl} {room : Int} {s u : Ed} (hs : Rch t room s) (hu : Rch t room u) : renewV t s = renewV t u ↔ s = u := by
  constructor
  · intro h
    have h1 := renew_play hs
    rw [h, renew_play hu] at h1
    exact (congrArg Prod.fst h1).symm
  · intro h; rw [h]
end Go.Proofs.YtmkblhinpnodaaaDoor
