/- Octets: the model's operations on them as UInt8's own. Own work. -/
import Derived.Test.YtnhkcalanpepoaaSau
namespace Go.Shade
open Go

/-- A whole number as an octet. -/
def u8 (n : Int) : UInt8 := UInt8.ofInt n
theorem u8_val (n : Int) : ((u8 n).toNat : Int) = n % 256 := by
  unfold u8
  simp [UInt8.ofInt]
  omega
theorem u8_to (x : UInt8) : u8 (x.toNat : Int) = x := by
  have h := u8_val (x.toNat : Int)
  have := x.toNat_lt
  exact UInt8.toNat_inj.1 (by omega)
theorem u8_in {n : Int} (h1 : 0 ≤ n) (h2 : n ≤ 255) : ((u8 n).toNat : Int) = n := by rw [u8_val]; omega
theorem wrapU8 (n : Int) : IntKind.wrap .u8 n = ((u8 n).toNat : Int) := by
  rw [u8_val]
  show (if (false && decide (n % 256 ≥ 128)) = true then n % 256 - 256 else n % 256) = n % 256
  simp
theorem wrap64_u (x : UInt8) : IntKind.wrap .i64 (x.toNat : Int) = (x.toNat : Int) := by
  have := x.toNat_lt
  exact wrap64 (by omega) (by omega)
theorem bv8 (n : Int) : BitVec.ofInt 8 n = (u8 n).toBitVec := by
  apply BitVec.eq_of_toNat_eq
  have h := u8_val n
  have e1 : (BitVec.ofInt 8 n).toNat = (n % 256).toNat := by simp [BitVec.toNat_ofInt]
  have e2 : (u8 n).toBitVec.toNat = (u8 n).toNat := rfl
  rw [e1, e2]
  omega
theorem wrap_nat (x : UInt8) : IntKind.wrap .u8 (x.toNat : Int) = (x.toNat : Int) := by rw [wrapU8, u8_to]
theorem bin_and8 (a b : Int) : binE .and (.p (.s (.int .u8 a))) (.p (.s (.int .u8 b))) = some (.int .u8 ((u8 a &&& u8 b).toNat)) := by
  simp only [binE, abin, ne_eq, not_true_eq_false, if_false, Option.map_some, Option.some.injEq, AV.p.injEq, PV.s.injEq, Value.int.injEq, true_and]
  show IntKind.wrap .u8 ((BitVec.ofInt 8 a &&& BitVec.ofInt 8 b).toNat : Int) = _
  rw [bv8, bv8]
  exact wrap_nat (u8 a &&& u8 b)
theorem bin_or8 (a b : Int) : binE .or (.p (.s (.int .u8 a))) (.p (.s (.int .u8 b))) = some (.int .u8 ((u8 a ||| u8 b).toNat)) := by
  simp only [binE, abin, ne_eq, not_true_eq_false, if_false, Option.map_some, Option.some.injEq, AV.p.injEq, PV.s.injEq, Value.int.injEq, true_and]
  show IntKind.wrap .u8 ((BitVec.ofInt 8 a ||| BitVec.ofInt 8 b).toNat : Int) = _
  rw [bv8, bv8]
  exact wrap_nat (u8 a ||| u8 b)
theorem bin_xor8 (a b : Int) : binE .xor (.p (.s (.int .u8 a))) (.p (.s (.int .u8 b))) = some (.int .u8 ((u8 a ^^^ u8 b).toNat)) := by
  simp only [binE, abin, ne_eq, not_true_eq_false, if_false, Option.map_some, Option.some.injEq, AV.p.injEq, PV.s.injEq, Value.int.injEq, true_and]
  show IntKind.wrap .u8 ((BitVec.ofInt 8 a ^^^ BitVec.ofInt 8 b).toNat : Int) = _
  rw [bv8, bv8]
  exact wrap_nat (u8 a ^^^ u8 b)
theorem bin_andNot8 (a b : Int) : binE .andNot (.p (.s (.int .u8 a))) (.p (.s (.int .u8 b))) = some (.int .u8 ((u8 a &&& ~~~(u8 b)).toNat)) := by
  simp only [binE, abin, ne_eq, not_true_eq_false, if_false, Option.map_some, Option.some.injEq, AV.p.injEq, PV.s.injEq, Value.int.injEq, true_and]
  show IntKind.wrap .u8 ((BitVec.ofInt 8 a &&& ~~~BitVec.ofInt 8 b).toNat : Int) = _
  rw [bv8, bv8]
  exact wrap_nat (u8 a &&& ~~~(u8 b))
theorem bin_rem (k : IntKind) (a b : Int) (h : b ≠ 0) : binE .rem (.p (.s (.int k a))) (.p (.s (.int k b))) = some (.int k (a.tmod b)) := by simp [binE, abin, h]
theorem bin_quo (k : IntKind) (a b : Int) (h : b ≠ 0) : binE .quo (.p (.s (.int k a))) (.p (.s (.int k b))) = some (.int k (k.wrap (a.tdiv b))) := by simp [binE, abin, h]
theorem tmod_pos {a b : Int} (h : 0 ≤ a) : a.tmod b = a % b := Int.tmod_eq_emod_of_nonneg h
theorem tdiv_pos {a b : Int} (h : 0 ≤ a) : a.tdiv b = a / b := Int.tdiv_eq_ediv_of_nonneg h

/-! Octets as rows -/
theorem by1_nil (x : UInt8) : [[PV.s (.int .u8 (x.toNat : Int))]] = bys [x] := rfl
theorem by1_cons (x : UInt8) (l : List UInt8) : [PV.s (.int .u8 (x.toNat : Int))] :: bys l = bys (x :: l) := rfl
theorem by2_nil {n : Int} (h1 : 0 ≤ n) (h2 : n ≤ 255) : [[PV.s (.int .u8 n)]] = bys [u8 n] := by rw [bys, List.map_cons, List.map_nil, by1, u8_in h1 h2]
theorem by2_cons {n : Int} (h1 : 0 ≤ n) (h2 : n ≤ 255) (l : List UInt8) : [PV.s (.int .u8 n)] :: bys l = bys (u8 n :: l) := by rw [bys, bys, List.map_cons, by1, u8_in h1 h2]
theorem bys_getD {B : List UInt8} {i : Nat} (h : i < B.length) : (bys B).getD i [] = [.s (.int .u8 (B.getD i 0).toNat)] := by
  rw [List.getD_eq_getElem?_getD, bys, List.getElem?_map, List.getD_eq_getElem?_getD, List.getElem?_eq_getElem h]
  rfl
theorem set_by1 (l : List UInt8) (i : Nat) (x : UInt8) : (bys l).set i [PV.s (.int .u8 (x.toNat : Int))] = bys (l.set i x) := by rw [bys, bys, List.map_set]; rfl
theorem set_by2 {n : Int} (h1 : 0 ≤ n) (h2 : n ≤ 255) (l : List UInt8) (i : Nat) : (bys l).set i [PV.s (.int .u8 n)] = bys (l.set i (u8 n)) := by rw [← set_by1, u8_in h1 h2]
theorem bys_get0 (x : UInt8) (l : List UInt8) : (bys (x :: l)).getD 0 [] = [PV.s (.int .u8 (x.toNat : Int))] := rfl
theorem bys_gets (x : UInt8) (l : List UInt8) (n : Nat) : (bys (x :: l)).getD (n + 1) [] = (bys l).getD n [] := rfl
theorem and0 (x : UInt8) : (((x.toNat : Nat) : Int) = 0) = (x = 0) := by
  refine propext ⟨fun h => UInt8.toNat_inj.1 (by simp; omega), fun h => by subst h; rfl⟩
theorem u8n_eq (a b : UInt8) : ((a.toNat : Int) = (b.toNat : Int)) = (a = b) := by
  refine propext ⟨fun h => UInt8.toNat_inj.1 (by omega), fun h => by rw [h]⟩
theorem le_nbys {s : Nat} : LeA (.p (.s (.slice none 0 0))) (.sl s (bys [])) := rfl
theorem u8_lt (x : UInt8) : (x.toNat : Int) < 256 := by have := x.toNat_lt; omega
end Go.Shade
