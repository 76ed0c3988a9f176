/- Functions of Go's library and small ones of the laws, on octets: what they come to. Own work. -/
import Derived.Test.YtaopaggmhleeoaaCode
import Derived.Test.YtaopaggmhleeoaaSmn
import Derived.Test.YtaopaggmhleeoaaSbi
namespace Go.Proofs.Ytaopaggmhleeoaa
open Go Go.Shade
variable {Γ : Globs}
theorem mixed : Try.prog.follows .mixedOrders = true := by kernel_rfl
theorem nilV_cons (x : UInt8) (xs : List UInt8) : nilV (.p (.sl 1 (bys (x :: xs)))) = some (some false) := by simp [nilV, bys, by1]
theorem bys_at {b : List UInt8} {i : Nat} (h : i < b.length) : (bys b).getD i [] = [.s (.int .u8 (b.getD i 0).toNat)] := bys_getD h
/-- How many are left, without those at the end that are such. -/
def trimTo (p : UInt8 → Bool) (l : List UInt8) : Nat → Nat
  | 0 => 0
  | n + 1 => if p (l.getD n 0) = true then trimTo p l n else n + 1
theorem trimTo_le (p : UInt8 → Bool) (l : List UInt8) : ∀ n, trimTo p l n ≤ n
  | 0 => Nat.le_refl _
  | n + 1 => by
    rw [trimTo]
    split
    · exact Nat.le_succ_of_le (trimTo_le p l n)
    · exact Nat.le_refl _
def trimR (p : UInt8 → Bool) (l : List UInt8) : List UInt8 := l.take (trimTo p l l.length)
theorem take_len {b : List UInt8} {n : Nat} (h : n ≤ b.length) : (b.take n).length = n := by rw [List.length_take]; omega
end Go.Proofs.Ytaopaggmhleeoaa
