/- Proved: what num.Mul, num.Frac and num.FracUp answer, for all 64-bit numbers: a product, and parts of numbers, or the nearer bound. -/
import Derived.Test.YtnhonhdomgmhgaaNumFns
namespace Go.Proofs.Ytnhonhdomgmhgaa.Num
open Go.RowKit

theorem mulHL (x y : Nat) : (x * y / 18446744073709551616 * 18446744073709551616 + x * y % 18446744073709551616 : Nat) = x * y := by
  generalize x * y = p
  omega
theorem mod_le (p : Nat) : p % 18446744073709551616 ≤ 18446744073709551615 := by omega

theorem mul64_any (x y : Nat) (hx : x ≤ 18446744073709551615) (hy : y ≤ 18446744073709551615) (w : World) :
    Calls Try.prog 23 #[.int .u64 x, .int .u64 y] w fun e w' => e = .returned (.tuple #[.int .u64 ((x * y / 18446744073709551616 : Nat) : Int), .int .u64 ((x * y % 18446744073709551616 : Nat) : Int)]) ∧ w = w' :=
  (Try.bits_Mul64 x y (by omega) (by omega) w).mono fun _ _ h => ⟨h.1, h.2.symm⟩

set_option maxHeartbeats 400000 in
theorem mul_any (a b : Int) (w : World) (ha : In a) (hb : In b) : Calls Try.prog 26 #[.int .i64 a, .int .i64 b] w (RetI (sat (a * b)) w) := by
  have ca := abs_any a w ha
  have cb := abs_any b w hb
  unfold In at ha hb
  have hna : a.natAbs ≤ 9223372036854775808 := by omega
  have hnb : b.natAbs ≤ 9223372036854775808 := by omega
  have cm := mul64_any a.natAbs b.natAbs (by omega) (by omega) w
  have hp := mulHL a.natAbs b.natAbs
  have hl := mod_le (a.natAbs * b.natAbs)
  have hab : a.natAbs * b.natAbs = (a * b).natAbs := (Int.natAbs_mul a b).symm
  have hs : ((decide (a < 0)) != (decide (b < 0))) = true → -(((a * b).natAbs : Nat) : Int) = a * b := by
    intro h
    by_cases h1 : a < 0 <;> by_cases h2 : b < 0 <;> simp [h1, h2] at h
    · have := Int.mul_nonpos_of_nonpos_of_nonneg (show a ≤ 0 by omega) (show 0 ≤ b by omega); omega
    · have := Int.mul_nonpos_of_nonneg_of_nonpos (show 0 ≤ a by omega) (show b ≤ 0 by omega); omega
  have hs' : ((decide (a < 0)) != (decide (b < 0))) = false → (((a * b).natAbs : Nat) : Int) = a * b := by
    intro h
    by_cases h1 : a < 0 <;> by_cases h2 : b < 0 <;> simp [h1, h2] at h
    · have := Int.mul_nonneg_of_nonpos_of_nonpos (show a ≤ 0 by omega) (show b ≤ 0 by omega); omega
    · have := Int.mul_nonneg (show 0 ≤ a by omega) (show 0 ≤ b by omega); omega
  generalize a.natAbs = x at *
  generalize b.natAbs = y at *
  obtain ⟨P, hP⟩ : ∃ P, P = x * y / 18446744073709551616 := ⟨_, rfl⟩
  obtain ⟨L, hL⟩ : ∃ L, L = x * y % 18446744073709551616 := ⟨_, rfl⟩
  rw [← hP, ← hL] at hp cm
  rw [← hL] at hl
  have fin : ((decide (a < 0)) != (decide (b < 0))) = true → sat (-((P * 18446744073709551616 + L : Nat) : Int)) = sat (a * b) := by
    intro h; rw [hp, hab, hs h]
  have fin' : ((decide (a < 0)) != (decide (b < 0))) = false → sat ((P * 18446744073709551616 + L : Nat) : Int) = sat (a * b) := by
    intro h; rw [hp, hab, hs' h]
  have cp := signed_pos P L w hl
  have cn := signed_neg P L w hl
  have F := Lib.hid fin
  have F' := Lib.hid fin'
  have Ca := Lib.hid ca
  have Cb := Lib.hid cb
  have Cm := Lib.hid cm
  have Cp := Lib.hid cp
  have Cn := Lib.hid cn
  clear ca cb cm cp cn fin fin' hp hP hL hs hs' hab hl hna hnb
  by_cases h1 : a < 0 <;> by_cases h2 : b < 0
  · have d1 : decide (a < 0) = true := by simp [h1]
    have d2 : decide (b < 0) = true := by simp [h2]
    have g := F'.out (by simp [h1, h2])
    have G := Lib.hid g
    clear g
    go_enter Try.func26, Try.ntmps26
    go_wp2_with fail
    refine (Ca.out).mono ?_
    rintro e w' ⟨rfl, rfl⟩
    go_wp2_with fail
    refine (Cb.out).mono ?_
    rintro e w' ⟨rfl, rfl⟩
    go_wp2_with fail
    refine (Cm.out).mono ?_
    rintro e w' ⟨rfl, rfl⟩
    go_wp2_with fail
    refine (Cp.out).mono ?_
    rintro e w' ⟨rfl, rfl⟩
    go_wp2
    go_ret
    exact RetI.mk G.out
  · have d1 : decide (a < 0) = true := by simp [h1]
    have d2 : decide (b < 0) = false := by simp [h2]
    have g := F.out (by simp [h1, h2])
    have G := Lib.hid g
    clear g
    go_enter Try.func26, Try.ntmps26
    go_wp2_with fail
    refine (Ca.out).mono ?_
    rintro e w' ⟨rfl, rfl⟩
    go_wp2_with fail
    refine (Cb.out).mono ?_
    rintro e w' ⟨rfl, rfl⟩
    go_wp2_with fail
    refine (Cm.out).mono ?_
    rintro e w' ⟨rfl, rfl⟩
    go_wp2_with fail
    refine (Cn.out).mono ?_
    rintro e w' ⟨rfl, rfl⟩
    go_wp2
    go_ret
    exact RetI.mk G.out
  · have d1 : decide (a < 0) = false := by simp [h1]
    have d2 : decide (b < 0) = true := by simp [h2]
    have g := F.out (by simp [h1, h2])
    have G := Lib.hid g
    clear g
    go_enter Try.func26, Try.ntmps26
    go_wp2_with fail
    refine (Ca.out).mono ?_
    rintro e w' ⟨rfl, rfl⟩
    go_wp2_with fail
    refine (Cb.out).mono ?_
    rintro e w' ⟨rfl, rfl⟩
    go_wp2_with fail
    refine (Cm.out).mono ?_
    rintro e w' ⟨rfl, rfl⟩
    go_wp2_with fail
    refine (Cn.out).mono ?_
    rintro e w' ⟨rfl, rfl⟩
    go_wp2
    go_ret
    exact RetI.mk G.out
  · have d1 : decide (a < 0) = false := by simp [h1]
    have d2 : decide (b < 0) = false := by simp [h2]
    have g := F'.out (by simp [h1, h2])
    have G := Lib.hid g
    clear g
    go_enter Try.func26, Try.ntmps26
    go_wp2_with fail
    refine (Ca.out).mono ?_
    rintro e w' ⟨rfl, rfl⟩
    go_wp2_with fail
    refine (Cb.out).mono ?_
    rintro e w' ⟨rfl, rfl⟩
    go_wp2_with fail
    refine (Cm.out).mono ?_
    rintro e w' ⟨rfl, rfl⟩
    go_wp2_with fail
    refine (Cp.out).mono ?_
    rintro e w' ⟨rfl, rfl⟩
    go_wp2
    go_ret
    exact RetI.mk G.out

end Go.Proofs.Ytnhonhdomgmhgaa.Num
