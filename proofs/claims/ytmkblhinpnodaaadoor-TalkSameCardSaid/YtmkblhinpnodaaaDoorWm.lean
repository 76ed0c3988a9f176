/- Layer 15: steps. Own work. -/
import Derived.Test.YtmkblhinpnodaaaDoorWl
namespace Go.Proofs.YtmkblhinpnodaaaDoor
open Go Go.Shade
structure Stp where
  c : UInt8
  e : Bool
  f : Bool
  p : Bool
def stP (x : Stp) : List PV := [.s (.int .u8 x.c.toNat), .s (.bool x.e), .s (.bool x.f), .s (.bool x.p)]
theorem stp_at {l : List Stp} {i : Nat} (h : i < l.length) : (l.map stP).getD i [] = stP l[i] := by
  rw [List.getD_eq_getElem?_getD, List.getElem?_map, List.getElem?_eq_getElem h]; rfl
theorem far_ok {t : Tbl} {room : Int} {k : Tk} (h : Rch t room k.s) : (farV k).ok := by
  unfold farV
  split
  · exact zero_ok
  · exact h.ok
theorem type_len {t : Tbl} {room : Int} {k : Tk} (h : Rch t room k.s) (c : UInt8) (e f : Bool) : (typeK t room k c e f).2.1.length ≤ 12291 := by
  have h1 := renew_len_le h
  have h2 := renew_len_le (rch_key (k := c) h)
  unfold typeK
  split
  · split
    · simp only; omega
    · simp
  · simp only
    rw [List.length_append]
    split <;> simp <;> omega
theorem want_eq (k : Tk) : (if k.h = true then Ed.zero else k.s) = farV k := rfl
end Go.Proofs.YtmkblhinpnodaaaDoor
