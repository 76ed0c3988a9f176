/- Layer 16: what both have at rest: a round of the statement's loop. Own work. -/
import Derived.Test.YtccdnkekmpndiaaMq
namespace Go.Proofs.Ytccdnkekmpndiaa
open Go Go.Shade
variable {Γ : Globs}
set_option maxRecDepth 8000 in
set_option maxHeartbeats 16000000 in
theorem rTakeA (may : Bool) (l : List MAct) (hb : l.length ≤ 281474976710656) (i : Nat) (a : Asks) (r : Rules) (s : Sub) (to fr : List Sub) (had : List Int) (asked said : Nat) (hI : Inv may a r (s :: to) fr had asked said) (hA : asked ≤ min i (min l.length 60)) (hB : 2 * ((s :: to) : List Sub).length + (fr : List Sub).length + (i - min i (min l.length 60)) ≤ 2 * min i (min l.length 60)) (d1 : i < l.length) (d2 : i < 60) (cm tc : Bool) (am : Int) (ams aon : Bool) (amk : Mask) (hg : (l.map cP).getD i [] = cP ⟨true, true, ⟨am, ams, aon, amk⟩⟩) :
    ∀ Q fs, codeS Try.prog Γ 255 (Rof []) (QM (Γ := Γ) may l i Q fs) l7_47 [] (stM may l ⟨i, a, r, (s :: to), fr, had, asked, said⟩).1 (stM may l ⟨i, a, r, (s :: to), fr, had, asked, said⟩).2 := by
  intro Q fs
  have c1 := hI.c1
  have c2 := hI.c2
  have hla : ((s :: to) : List Sub).length ≤ 200 := by omega
  have hlf : (fr : List Sub).length ≤ 200 := by omega
  have hlh : had.length ≤ 200 := by omega
  have hls : said ≤ 200 := by omega
  have hi200 : i < l.length + 200 := by omega
  simp only [QM, stM]
  obtain ⟨ht1, ht2, ht3, hI2⟩ := inv_take hI
  have htk := gTake (Γ := Γ) r (nx r s) s 0 [an r s] ht1 (in_64m hI.mr) hI.mr ht2 (by rw [ht3]; simp)
  generalize nx r s = q at htk hI2
  generalize an r s = x at htk hI2
  obtain ⟨kd, md, v, m, ll⟩ := s
  simp only at ht3
  subst ht3
  obtain ⟨kx, mx, vx, km, lx⟩ := x
  simp only [List.length_cons] at hB hla c1 c2
  repeat' (first | (with_reducible exact trivial) | simp (maxSteps := 2000000) (disch := omega) only [Int.toNat_natCast, List.length_map, List.length_cons, List.length_nil, List.map_nil, List.map_cons, cP, List.map_append, mqP_map, List.append_nil, sN, List.drop_succ_cons, List.drop_zero, List.getD_cons_zero, hg, go_sem, seval] | ((with_reducible refine isS ?_); first | refine sh_call (htk) [] (by (repeat' (first | exact le_mq0 rfl | exact le_mq0r rfl | refine le_mqr ?_ | refine le_mq ?_ | exact rfl | exact trivial | exact le_nbys | refine ⟨?_, ?_⟩ | fail)); first | done | fail) trivial rfl (by (repeat' (first | exact trivial | exact .inr rfl | exact .inl rfl | refine ⟨?_, ?_⟩ | fail)); first | done | fail) ?_ | fail) | ((with_reducible refine isT ?_); first | refine sh_callT (htk) [] (by (repeat' (first | exact le_mq0 rfl | exact le_mq0r rfl | refine le_mqr ?_ | refine le_mq ?_ | exact rfl | exact trivial | exact le_nbys | refine ⟨?_, ?_⟩ | fail)); first | done | fail) trivial rfl (by (repeat' (first | exact trivial | exact .inr rfl | exact .inl rfl | refine ⟨?_, ?_⟩ | fail)); first | done | fail) ?_ | fail) | ((with_reducible refine isI ?_ ?_); (kernel_rfl)) | fail)
  exact ⟨⟨i + 1, a, q, to, fr ++ [⟨kx, mx, vx, km, lx⟩], had ++ [q.mode], asked, said + 1⟩, by simp only; omega, ⟨hI2, by simp only; omega, by simp only [List.length_append, List.length_cons, List.length_nil] at hB ⊢; omega⟩, (sh_weakA (by first | (simp only [go_sem, seval]; exact rfl) | exact rfl | (simp only [go_sem, seval]; done)) (by (repeat' (first | exact le_mq0 rfl | exact le_mq0r rfl | refine le_mqr ?_ | refine le_mq ?_ | exact trivial | exact rfl | refine le_int ?_ | refine le_bool ?_ | refine le_str ?_ | refine le_sl ?_ | refine le_own ?_ | refine le_osl ?_ | refine le_nsl ?_ | refine ⟨_, rfl, ?_⟩ | refine ⟨?_, ?_⟩ | (first | omega | exact List.take_of_length_le (by simp) | simp [sN, iP]; done) | fail)); first | done | fail) (by (repeat' (first | exact le_mq0 rfl | exact le_mq0r rfl | refine le_mqr ?_ | refine le_mq ?_ | exact trivial | exact rfl | refine le_int ?_ | refine le_bool ?_ | refine le_str ?_ | refine le_sl ?_ | refine le_own ?_ | refine le_osl ?_ | refine le_nsl ?_ | refine ⟨_, rfl, ?_⟩ | refine ⟨?_, ?_⟩ | (first | omega | exact List.take_of_length_le (by simp) | simp [sN, iP]; done) | fail)); first | done | fail) rfl (by first | exact rfl | (simp only [go_sem, seval]; done) | (simp only [go_sem, seval]; exact rfl)) (by first | exact rfl | (simp only [go_sem, seval]; done) | (simp only [go_sem, seval]; exact rfl)) rfl (by first | exact rfl | (simp only [go_sem, seval]; done) | (simp only [go_sem, seval]; exact rfl)))⟩
set_option maxRecDepth 8000 in
set_option maxHeartbeats 16000000 in
theorem rTakeB (may : Bool) (l : List MAct) (hb : l.length ≤ 281474976710656) (i : Nat) (a : Asks) (r : Rules) (s : Sub) (to fr : List Sub) (had : List Int) (asked said : Nat) (hI : Inv may a r (s :: to) fr had asked said) (hA : asked ≤ min i (min l.length 60)) (hB : 2 * ((s :: to) : List Sub).length + (fr : List Sub).length + (i - min i (min l.length 60)) ≤ 2 * min i (min l.length 60)) (hR : l.length ≤ i ∨ (i < l.length ∧ 60 ≤ i)) :
    ∀ Q fs, codeS Try.prog Γ 255 (Rof []) (QM (Γ := Γ) may l i Q fs) l7_47 [] (stM may l ⟨i, a, r, (s :: to), fr, had, asked, said⟩).1 (stM may l ⟨i, a, r, (s :: to), fr, had, asked, said⟩).2 := by
  intro Q fs
  have c1 := hI.c1
  have c2 := hI.c2
  have hla : ((s :: to) : List Sub).length ≤ 200 := by omega
  have hlf : (fr : List Sub).length ≤ 200 := by omega
  have hlh : had.length ≤ 200 := by omega
  have hls : said ≤ 200 := by omega
  have hi200 : i < l.length + 200 := by omega
  simp only [QM, stM]
  obtain ⟨ht1, ht2, ht3, hI2⟩ := inv_take hI
  have htk := gTake (Γ := Γ) r (nx r s) s 0 [an r s] ht1 (in_64m hI.mr) hI.mr ht2 (by rw [ht3]; simp)
  generalize nx r s = q at htk hI2
  generalize an r s = x at htk hI2
  obtain ⟨kd, md, v, m, ll⟩ := s
  simp only at ht3
  subst ht3
  obtain ⟨kx, mx, vx, km, lx⟩ := x
  simp only [List.length_cons] at hB hla c1 c2
  rcases hR with d1 | ⟨d1, d2⟩
  · repeat' (first | (with_reducible exact trivial) | simp (maxSteps := 2000000) (disch := omega) only [List.length_map, List.length_cons, List.length_nil, List.map_nil, List.map_cons, List.map_append, mqP_map, List.append_nil, sN, List.drop_succ_cons, List.drop_zero, List.getD_cons_zero, go_sem, seval] | ((with_reducible refine isS ?_); first | refine sh_call (htk) [] (by (repeat' (first | exact le_mq0 rfl | exact le_mq0r rfl | refine le_mqr ?_ | refine le_mq ?_ | exact rfl | exact trivial | exact le_nbys | refine ⟨?_, ?_⟩ | fail)); first | done | fail) trivial rfl (by (repeat' (first | exact trivial | exact .inr rfl | exact .inl rfl | refine ⟨?_, ?_⟩ | fail)); first | done | fail) ?_ | fail) | ((with_reducible refine isT ?_); first | refine sh_callT (htk) [] (by (repeat' (first | exact le_mq0 rfl | exact le_mq0r rfl | refine le_mqr ?_ | refine le_mq ?_ | exact rfl | exact trivial | exact le_nbys | refine ⟨?_, ?_⟩ | fail)); first | done | fail) trivial rfl (by (repeat' (first | exact trivial | exact .inr rfl | exact .inl rfl | refine ⟨?_, ?_⟩ | fail)); first | done | fail) ?_ | fail) | ((with_reducible refine isI ?_ ?_); (kernel_rfl)) | fail)
    exact ⟨⟨i + 1, a, q, to, fr ++ [⟨kx, mx, vx, km, lx⟩], had ++ [q.mode], asked, said + 1⟩, by simp only; omega, ⟨hI2, by simp only; omega, by simp only [List.length_append, List.length_cons, List.length_nil] at hB ⊢; omega⟩, (sh_weakA (by first | (simp only [go_sem, seval]; exact rfl) | exact rfl | (simp only [go_sem, seval]; done)) (by (repeat' (first | exact le_mq0 rfl | exact le_mq0r rfl | refine le_mqr ?_ | refine le_mq ?_ | exact trivial | exact rfl | refine le_int ?_ | refine le_bool ?_ | refine le_str ?_ | refine le_sl ?_ | refine le_own ?_ | refine le_osl ?_ | refine le_nsl ?_ | refine ⟨_, rfl, ?_⟩ | refine ⟨?_, ?_⟩ | (first | omega | exact List.take_of_length_le (by simp) | simp [sN, iP]; done) | fail)); first | done | fail) (by (repeat' (first | exact le_mq0 rfl | exact le_mq0r rfl | refine le_mqr ?_ | refine le_mq ?_ | exact trivial | exact rfl | refine le_int ?_ | refine le_bool ?_ | refine le_str ?_ | refine le_sl ?_ | refine le_own ?_ | refine le_osl ?_ | refine le_nsl ?_ | refine ⟨_, rfl, ?_⟩ | refine ⟨?_, ?_⟩ | (first | omega | exact List.take_of_length_le (by simp) | simp [sN, iP]; done) | fail)); first | done | fail) rfl (by first | exact rfl | (simp only [go_sem, seval]; done) | (simp only [go_sem, seval]; exact rfl)) (by first | exact rfl | (simp only [go_sem, seval]; done) | (simp only [go_sem, seval]; exact rfl)) rfl (by first | exact rfl | (simp only [go_sem, seval]; done) | (simp only [go_sem, seval]; exact rfl)))⟩
  · repeat' (first | (with_reducible exact trivial) | simp (maxSteps := 2000000) (disch := omega) only [List.length_map, List.length_cons, List.length_nil, List.map_nil, List.map_cons, List.map_append, mqP_map, List.append_nil, sN, List.drop_succ_cons, List.drop_zero, List.getD_cons_zero, go_sem, seval] | ((with_reducible refine isS ?_); first | refine sh_call (htk) [] (by (repeat' (first | exact le_mq0 rfl | exact le_mq0r rfl | refine le_mqr ?_ | refine le_mq ?_ | exact rfl | exact trivial | exact le_nbys | refine ⟨?_, ?_⟩ | fail)); first | done | fail) trivial rfl (by (repeat' (first | exact trivial | exact .inr rfl | exact .inl rfl | refine ⟨?_, ?_⟩ | fail)); first | done | fail) ?_ | fail) | ((with_reducible refine isT ?_); first | refine sh_callT (htk) [] (by (repeat' (first | exact le_mq0 rfl | exact le_mq0r rfl | refine le_mqr ?_ | refine le_mq ?_ | exact rfl | exact trivial | exact le_nbys | refine ⟨?_, ?_⟩ | fail)); first | done | fail) trivial rfl (by (repeat' (first | exact trivial | exact .inr rfl | exact .inl rfl | refine ⟨?_, ?_⟩ | fail)); first | done | fail) ?_ | fail) | ((with_reducible refine isI ?_ ?_); (kernel_rfl)) | fail)
    exact ⟨⟨i + 1, a, q, to, fr ++ [⟨kx, mx, vx, km, lx⟩], had ++ [q.mode], asked, said + 1⟩, by simp only; omega, ⟨hI2, by simp only; omega, by simp only [List.length_append, List.length_cons, List.length_nil] at hB ⊢; omega⟩, (sh_weakA (by first | (simp only [go_sem, seval]; exact rfl) | exact rfl | (simp only [go_sem, seval]; done)) (by (repeat' (first | exact le_mq0 rfl | exact le_mq0r rfl | refine le_mqr ?_ | refine le_mq ?_ | exact trivial | exact rfl | refine le_int ?_ | refine le_bool ?_ | refine le_str ?_ | refine le_sl ?_ | refine le_own ?_ | refine le_osl ?_ | refine le_nsl ?_ | refine ⟨_, rfl, ?_⟩ | refine ⟨?_, ?_⟩ | (first | omega | exact List.take_of_length_le (by simp) | simp [sN, iP]; done) | fail)); first | done | fail) (by (repeat' (first | exact le_mq0 rfl | exact le_mq0r rfl | refine le_mqr ?_ | refine le_mq ?_ | exact trivial | exact rfl | refine le_int ?_ | refine le_bool ?_ | refine le_str ?_ | refine le_sl ?_ | refine le_own ?_ | refine le_osl ?_ | refine le_nsl ?_ | refine ⟨_, rfl, ?_⟩ | refine ⟨?_, ?_⟩ | (first | omega | exact List.take_of_length_le (by simp) | simp [sN, iP]; done) | fail)); first | done | fail) rfl (by first | exact rfl | (simp only [go_sem, seval]; done) | (simp only [go_sem, seval]; exact rfl)) (by first | exact rfl | (simp only [go_sem, seval]; done) | (simp only [go_sem, seval]; exact rfl)) rfl (by first | exact rfl | (simp only [go_sem, seval]; done) | (simp only [go_sem, seval]; exact rfl)))⟩
end Go.Proofs.Ytccdnkekmpndiaa
