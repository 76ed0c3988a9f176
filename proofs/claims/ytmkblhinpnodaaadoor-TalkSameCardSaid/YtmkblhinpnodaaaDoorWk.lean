/- Layer 15: lists of steps as arguments. Own work. -/
import Derived.Test.YtmkblhinpnodaaaDoorWm
import Derived.Test.YtmkblhinpnodaaaDoorWj
namespace Go.Proofs.YtmkblhinpnodaaaDoor
open Go Go.Shade Go.ChangeShapes Go.WideShapes Go.ChangeAt Go.RowKit
theorem stps : ∀ xs : List (List PV), (∀ x ∈ xs, OkL [.int .u8, .bool, .bool, .bool] x) → ∃ l : List Stp, xs = l.map stP
  | [], _ => ⟨[], rfl⟩
  | x :: xs, hx => by
    obtain ⟨l, hl⟩ := stps xs (fun y hy => hx y (List.mem_cons_of_mem _ hy))
    have h := hx x List.mem_cons_self
    obtain ⟨p2, q2, rfl, h2, h⟩ := okL_cons h
    obtain ⟨p3, q3, rfl, h3, h⟩ := okL_cons h
    obtain ⟨p4, q4, rfl, h4, h⟩ := okL_cons h
    obtain ⟨p5, q5, rfl, h5, h⟩ := okL_cons h
    have := okL_nil h
    subst this
    obtain ⟨b, rfl⟩ := okP_u8 h2
    obtain ⟨o, rfl⟩ := okP_bool h3
    obtain ⟨k, rfl⟩ := okP_bool h4
    obtain ⟨g, rfl⟩ := okP_bool h5
    exact ⟨⟨b, o, k, g⟩ :: l, by rw [List.map_cons, hl]; rfl⟩
theorem argL {a : AV} (h0 : argOK Tryd.prog 61 a) : ∃ l : List Stp, a = .sl 4 (l.map stP) := by
  obtain ⟨p, rfl, h⟩ := arg_one (ty := .sl [.int .u8, .bool, .bool, .bool]) (by kernel_rfl) (by kernel_rfl) h0
  obtain ⟨xs, rfl, _, hx⟩ := okP_sl h
  obtain ⟨l, rfl⟩ := stps xs hx
  exact ⟨l, rfl⟩
end Go.Proofs.YtmkblhinpnodaaaDoor
