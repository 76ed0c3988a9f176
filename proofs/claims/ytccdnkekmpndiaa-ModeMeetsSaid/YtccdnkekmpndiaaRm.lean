/- Layer 16: what arguments are. Own work. -/
import Derived.Test.YtccdnkekmpndiaaMj
import Derived.Test.YtccdnkekmpndiaaSbs
import Derived.Test.YtccdnkekmpndiaaRows
namespace Go.Proofs.Ytccdnkekmpndiaa
open Go Go.Shade Go.ChangeShapes Go.WideShapes Go.ChangeAt Go.RowKit

theorem ownK : ownKnob Try.prog.godebug = none := by kernel_rfl
theorem laidOut : laidOutB Try.prog = true := by kernel_rfl
theorem okL_u8s : ∀ (k : Nat) {ts : List Ty} {ps : List PV}, OkL (List.replicate k (.int .u8) ++ ts) ps → ∃ l : List UInt8, l.length = k ∧ ∃ qs, ps = l.map (fun b => .s (.int .u8 b.toNat)) ++ qs ∧ OkL ts qs
  | 0, ts, ps, h => ⟨[], rfl, ps, rfl, h⟩
  | k + 1, ts, ps, h => by
    rw [List.replicate_succ, List.cons_append] at h
    obtain ⟨p, qs, rfl, h1, h2⟩ := okL_cons h
    obtain ⟨b, rfl⟩ := okP_u8 h1
    obtain ⟨l, hl, qs', rfl, h3⟩ := okL_u8s k h2
    exact ⟨b :: l, by simp [hl], qs', rfl, h3⟩
theorem okL_mask {ts : List Ty} {ps : List PV} (h : OkL (List.replicate 32 (.int .u8) ++ ts) ps) : ∃ (m : Mask) (qs : List PV), ps = mqP m ++ qs ∧ OkL ts qs := by
  obtain ⟨l, hl, qs, h1, h2⟩ := okL_u8s 32 h
  exact ⟨⟨l, hl⟩, qs, h1, h2⟩
theorem argRules {a : AV} (h0 : argOK Try.prog 25 a) : ∃ r, in64 r.mode ∧ a = rA r := by
  obtain ⟨ps, rfl, h⟩ := arg_agg (ts := .int .i64 :: (List.replicate 32 (.int .u8) ++ [.bool, .bool])) (by kernel_rfl) (by kernel_rfl) h0
  obtain ⟨p1, q1, rfl, h1, h⟩ := okL_cons h
  obtain ⟨m, q2, rfl, hm⟩ := okL_mask h
  obtain ⟨p3, q3, rfl, h3, h⟩ := okL_cons hm
  obtain ⟨p4, q4, rfl, h4, h⟩ := okL_cons h
  have := okL_nil h
  subst this
  obtain ⟨n, rfl, k1, k2⟩ := okP_i64 h1
  obtain ⟨o, rfl⟩ := okP_bool h3
  obtain ⟨y, rfl⟩ := okP_bool h4
  refine ⟨⟨n, m, o, y⟩, ⟨k1, k2⟩, ?_⟩
  simp [rA, mqP_map]
theorem okT {ps : List PV} (h : OkL [.int .i64, .int .i64, .bool, .bool, .bool, .int .u8] ps) : ∃ t, ps = tP t := by
  obtain ⟨p1, q1, rfl, h1, h⟩ := okL_cons h
  obtain ⟨p2, q2, rfl, h2, h⟩ := okL_cons h
  obtain ⟨p3, q3, rfl, h3, h⟩ := okL_cons h
  obtain ⟨p4, q4, rfl, h4, h⟩ := okL_cons h
  obtain ⟨p5, q5, rfl, h5, h⟩ := okL_cons h
  obtain ⟨p6, q6, rfl, h6, h⟩ := okL_cons h
  have := okL_nil h
  subst this
  obtain ⟨f, rfl, _⟩ := okP_i64 h1
  obtain ⟨l, rfl, _⟩ := okP_i64 h2
  obtain ⟨a, rfl⟩ := okP_bool h3
  obtain ⟨i, rfl⟩ := okP_bool h4
  obtain ⟨o, rfl⟩ := okP_bool h5
  obtain ⟨v, rfl⟩ := okP_u8 h6
  exact ⟨⟨f, l, a, i, o, v⟩, rfl⟩
theorem argSub {a : AV} (h0 : argOK Try.prog 28 a) : ∃ s, in64 s.mode ∧ a = sA s := by
  obtain ⟨ps, rfl, h⟩ := arg_agg (ts := .int .i64 :: .int .i64 :: .int .i64 :: (List.replicate 32 (.int .u8) ++ [.sl [.int .i64, .int .i64, .bool, .bool, .bool, .int .u8]])) (by kernel_rfl) (by kernel_rfl) h0
  obtain ⟨p1, q1, rfl, h1, h⟩ := okL_cons h
  obtain ⟨p2, q2, rfl, h2, h⟩ := okL_cons h
  obtain ⟨p3, q3, rfl, h3, h⟩ := okL_cons h
  obtain ⟨m, q4, rfl, hm⟩ := okL_mask h
  obtain ⟨p5, q5, rfl, h5, h⟩ := okL_cons hm
  have := okL_nil h
  subst this
  obtain ⟨k, rfl, _⟩ := okP_i64 h1
  obtain ⟨n, rfl, n1, n2⟩ := okP_i64 h2
  obtain ⟨v, rfl, _⟩ := okP_i64 h3
  obtain ⟨xs, rfl, _, hx⟩ := okP_sl h5
  obtain ⟨l, rfl⟩ := rows_of (g := tP) (xs := xs) (fun x hxm => okT (hx x hxm))
  refine ⟨⟨k, n, v, m, l⟩, ⟨n1, n2⟩, ?_⟩
  simp [sA, mqP_map]
end Go.Proofs.Ytccdnkekmpndiaa
