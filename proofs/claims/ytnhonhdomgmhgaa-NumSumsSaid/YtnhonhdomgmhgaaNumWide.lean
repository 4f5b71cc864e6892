/- Proved: what the law's own arithmetic of 128 bits answers, number for number. -/
import Derived.Test.YtnhonhdomgmhgaaNumSums
namespace Go.Proofs.Ytnhonhdomgmhgaa.Num
open Go.RowKit

/-- The upper and the lower half of a number's 128 bits. -/
def hi (V : Int) : Nat := (V % 340282366920938463463374607431768211456 / 18446744073709551616).toNat
def lo (V : Int) : Nat := (V % 18446744073709551616).toNat
theorem hi_eq (V : Int) : (hi V : Int) = V % 340282366920938463463374607431768211456 / 18446744073709551616 := by unfold hi; omega
theorem lo_eq (V : Int) : (lo V : Int) = V % 18446744073709551616 := by unfold lo; omega
theorem hi_le (V : Int) : hi V ≤ 18446744073709551615 := by unfold hi; omega
theorem lo_le (V : Int) : lo V ≤ 18446744073709551615 := by unfold lo; omega
theorem lo_add (A B : Int) : (lo A + lo B + 0) % 18446744073709551616 = lo (A + B) := by
  have := lo_eq A; have := lo_eq B; have := lo_eq (A + B); omega
theorem hi_add (A B : Int) : (hi A + hi B + (lo A + lo B + 0) / 18446744073709551616) % 18446744073709551616 = hi (A + B) := by
  have h1 := lo_eq A; have h2 := lo_eq B
  have h4 := hi_eq A; have h5 := hi_eq B; have h6 := hi_eq (A + B)
  obtain ⟨a, ha⟩ : ∃ a, a = A % 340282366920938463463374607431768211456 := ⟨_, rfl⟩
  obtain ⟨b, hb⟩ : ∃ a, a = B % 340282366920938463463374607431768211456 := ⟨_, rfl⟩
  have h7 : A % 18446744073709551616 = a % 18446744073709551616 := by omega
  have h8 : B % 18446744073709551616 = b % 18446744073709551616 := by omega
  have h9 : (A + B) % 340282366920938463463374607431768211456 = (a + b) % 340282366920938463463374607431768211456 := by omega
  rw [h9] at h6
  rw [← ha] at h4
  rw [← hb] at h5
  rw [h7] at h1
  rw [h8] at h2
  have a0 : 0 ≤ a := by omega
  have a1 : a < 340282366920938463463374607431768211456 := by omega
  have b0 : 0 ≤ b := by omega
  have b1 : b < 340282366920938463463374607431768211456 := by omega
  clear ha hb h7 h8 h9
  omega
theorem hi_not (A : Int) : 18446744073709551615 - hi A = hi (-A - 1) := by
  have h1 := hi_eq A; have h2 := hi_eq (-A - 1); omega
theorem lo_not (A : Int) : 18446744073709551615 - lo A = lo (-A - 1) := by
  have h1 := lo_eq A; have h2 := lo_eq (-A - 1); omega

def WV (V : Int) : Value := .agg #[.int .u64 (hi V : Int), .int .u64 (lo V : Int)]

theorem of_v (a : Int) (w : World) (ha : In a) : Calls Try.prog 30 #[.int .i64 a] w (RetW (hi a) (lo a) w) := by
  unfold In at ha
  refine of_any a _ _ w (fun h => ?_) (fun h => ?_) ?_
  · have := hi_eq a; omega
  · have := hi_eq a; omega
  · rw [IntKind.wrap_u64, lo_eq]
theorem wadd_v (A B : Int) (w : World) : Calls Try.prog 29 #[WV A, WV B] w (RetW (hi (A + B)) (lo (A + B)) w) := by
  refine wadd_any _ _ _ _ _ ((lo A + lo B + 0) / 18446744073709551616) _ ((hi A + hi B + (lo A + lo B + 0) / 18446744073709551616) / 18446744073709551616) w (fun w => ?_) (fun w => ?_)
  · have := add64_run (lo A) (lo B) 0 (by omega) w
    rw [lo_add] at this
    exact this
  · have := add64_run (hi A) (hi B) ((lo A + lo B + 0) / 18446744073709551616) (by have := lo_le A; have := lo_le B; omega) w
    rw [hi_add] at this
    exact this
theorem neg_v (A : Int) (w : World) : Calls Try.prog 31 #[WV A] w (RetW (hi (-A)) (lo (-A)) w) := by
  refine neg_any _ _ (hi A) (lo A) w (hi_le A) (lo_le A) (fun w => ?_)
  rw [hi_not, lo_not]
  have h := wadd_v (-A - 1) 1 w
  rw [show -A - 1 + 1 = -A by omega] at h
  exact h
theorem near_v (V : Int) (w : World) (h0 : -170141183460469231731687303715884105728 ≤ V) (h1 : V < 170141183460469231731687303715884105728) : Calls Try.prog 28 #[WV V] w (RetN (sat V) w) := by
  have h := near_any (hi V) (lo V) w (by omega) (by have := hi_le V; omega) (by omega) (by have := lo_le V; omega)
  have e : nearS (hi V) (lo V) = sat V := by
    have h1 := hi_eq V
    have h2 := lo_eq V
    unfold nearS sat
    by_cases c1 : V > 9223372036854775807
    · rw [if_pos c1, if_neg (by omega), if_neg (by omega), if_neg (by omega)]
    · rw [if_neg c1]
      by_cases c2 : V < -9223372036854775808
      · rw [if_pos c2, if_neg (by omega), if_neg (by omega), if_pos (by omega)]
      · rw [if_neg c2]
        by_cases c3 : V < 0
        · rw [if_neg (by omega), if_pos (by omega)]; omega
        · rw [if_pos (by omega)]; omega
  rw [e] at h
  exact h

end Go.Proofs.Ytnhonhdomgmhgaa.Num
