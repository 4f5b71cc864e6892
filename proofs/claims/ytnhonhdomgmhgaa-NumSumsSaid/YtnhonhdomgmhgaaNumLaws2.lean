/- Proved: the walks of the laws NumWholes and NumSplits of package num: each answers true, for all 64-bit numbers. -/
import Derived.Test.YtnhonhdomgmhgaaNumLaws
namespace Go.Proofs.Ytnhonhdomgmhgaa.Num
open Go.RowKit

theorem frac_good {n up down : Int} (h : ¬ (n < 0 ∨ up < 0 ∨ down ≤ 0)) : frac n up down = sat (n * up / down) := by unfold frac; rw [if_neg h]
theorem fracUp_good {n up down : Int} (h : ¬ (n < 0 ∨ up < 0 ∨ down ≤ 0)) : fracUp n up down = sat ((n * up + down - 1) / down) := by unfold fracUp; rw [if_neg h]
theorem ediv_mono {x y d : Int} (hd : 0 < d) (h : x ≤ y) : x / d ≤ y / d := Int.ediv_le_ediv hd h
theorem up_self (n d : Int) (hd : 0 < d) : (n * d + d - 1) / d = n := by
  rw [show n * d + d - 1 = (d - 1) + n * d by omega, Int.add_mul_ediv_right _ _ (by omega), Int.ediv_eq_zero_of_lt (by omega) (by omega)]; omega

structure WholesFacts (n up down q p q' : Int) : Prop where
  f1 : frac n down down = n
  f2 : fracUp n down down = n
  f3 : frac n 0 down = 0
  f4 : fracUp 0 up down = 0
  f5 : q ≤ p
  f6 : up ≤ down → q ≤ n ∧ p ≤ n
  f7 : down ≤ up → n ≤ q
  f8 : q ≤ q'

theorem wholes_facts {n up down : Int} (hn : In n) (h : ¬ (n < 0 ∨ up < 0 ∨ down ≤ 0)) : WholesFacts n up down (frac n up down) (fracUp n up down) (frac n (up + 1) down) := by
  have h0 : 0 < down := by omega
  refine ⟨?_, ?_, ?_, ?_, ?_, ?_, ?_, ?_⟩
  · rw [frac_good (by omega), Int.mul_ediv_cancel _ (by omega), sat_id hn]
  · rw [fracUp_good (by omega), up_self n down h0, sat_id hn]
  · rw [frac_good (by omega), Int.mul_zero, Int.zero_ediv]; decide
  · rw [fracUp_good (by omega), Int.zero_mul, Int.ediv_eq_zero_of_lt (by omega) (by omega)]; decide
  · rw [frac_good h, fracUp_good h]; exact sat_mono (ediv_mono h0 (by omega))
  · intro hle
    have hm : n * up ≤ n * down := Int.mul_le_mul_of_nonneg_left hle (by omega)
    have e1 : n * up / down ≤ n := by have := ediv_mono h0 hm; rwa [Int.mul_ediv_cancel _ (by omega)] at this
    have e2 : (n * up + down - 1) / down ≤ n := by have := ediv_mono h0 (show n * up + down - 1 ≤ n * down + down - 1 by omega); rwa [up_self n down h0] at this
    rw [frac_good h, fracUp_good h]
    exact ⟨by have := sat_mono e1; rwa [sat_id hn] at this, by have := sat_mono e2; rwa [sat_id hn] at this⟩
  · intro hle
    have hm : n * down ≤ n * up := Int.mul_le_mul_of_nonneg_left hle (by omega)
    have e1 : n ≤ n * up / down := by have := ediv_mono h0 hm; rwa [Int.mul_ediv_cancel _ (by omega)] at this
    rw [frac_good h]
    have := sat_mono e1; rwa [sat_id hn] at this
  · have hm : n * up ≤ n * (up + 1) := Int.mul_le_mul_of_nonneg_left (by omega) (by omega)
    rw [frac_good h, frac_good (by omega)]
    exact sat_mono (ediv_mono h0 hm)

set_option maxHeartbeats 4000000 in
theorem wholes_bad (n up down : Int) (w : World) (h : n < 0 ∨ up < 0 ∨ down ≤ 0) : Calls Try.prog 8 #[.int .i64 n, .int .i64 up, .int .i64 down] w (RetB w) := by
  by_cases h1 : n < 0
  · have d1 : decide (n < 0) = true := by simp [h1]
    clear h
    go_enter Try.func8, Try.ntmps8
    go_wp2_with (go_at_call 19; refine (head_any _).mono ?_; rintro e w' ⟨rfl, k1, rfl⟩)
    go_ret
    exact RetB.mk rfl ⟨_, rfl⟩
  · have d1 : decide (n < 0) = false := by simp; omega
    by_cases h2 : up < 0
    · have d2 : decide (up < 0) = true := by simp [h2]
      clear h
      go_enter Try.func8, Try.ntmps8
      go_wp2_with (go_at_call 19; refine (head_any _).mono ?_; rintro e w' ⟨rfl, k1, rfl⟩)
      go_ret
      exact RetB.mk rfl ⟨_, rfl⟩
    · have d2 : decide (up < 0) = false := by simp; omega
      have h3 : down ≤ 0 := by omega
      have d3 : decide (down ≤ 0) = true := by simp [h3]
      clear h
      go_enter Try.func8, Try.ntmps8
      go_wp2_with (go_at_call 19; refine (head_any _).mono ?_; rintro e w' ⟨rfl, k1, rfl⟩)
      go_ret
      exact RetB.mk rfl ⟨_, rfl⟩

set_option maxHeartbeats 8000000 in
set_option maxRecDepth 100000 in
theorem wholes_good (n up down : Int) (w : World) (hn : In n) (hu : In up) (hd : In down) (h : ¬ (n < 0 ∨ up < 0 ∨ down ≤ 0)) : Calls Try.prog 8 #[.int .i64 n, .int .i64 up, .int .i64 down] w (RetB w) := by
  obtain ⟨f1, f2, f3, f4, f5, f6, f7, f8⟩ := wholes_facts hn h
  have c1 := fun w => frac_any n down down w hn hd hd
  have c2 := fun w => fracUp_any n down down w hn hd hd
  have c3 := fun w => frac_any n 0 down w hn ⟨by omega, by omega⟩ hd
  have c4 := fun w => fracUp_any 0 up down w ⟨by omega, by omega⟩ hu hd
  have c5 := fun w => frac_any n up down w hn hu hd
  have c6 := fun w => fracUp_any n up down w hn hu hd
  have c7 : ¬ up = 9223372036854775807 → ∀ w, Calls Try.prog 20 #[.int .i64 n, .int .i64 (up + 1), .int .i64 down] w (RetD (frac n (up + 1) down) w) := fun hh w => frac_any n (up + 1) down w hn ⟨by omega, by unfold In at hu; omega⟩ hd
  rw [f1] at c1
  rw [f2] at c2
  rw [f3] at c3
  rw [f4] at c4
  generalize frac n up down = q at *
  generalize fracUp n up down = p at *
  generalize frac n (up + 1) down = q' at *
  clear f1 f2 f3 f4
  have C1 := Lib.hid c1
  have C2 := Lib.hid c2
  have C3 := Lib.hid c3
  have C4 := Lib.hid c4
  have C5 := Lib.hid c5
  have C6 := Lib.hid c6
  have C7 := Lib.hid c7
  have F6 := Lib.hid f6
  have F7 := Lib.hid f7
  unfold In at hn hu hd
  obtain ⟨u0, u1⟩ := hu
  clear c1 c2 c3 c4 c5 c6 c7 f6 f7 hn hd
  have d1 : decide (n < 0) = false := by simp; omega
  have d2 : decide (up < 0) = false := by simp; omega
  have d3 : decide (down ≤ 0) = false := by simp; omega
  have e1 : ¬ n < 0 := by omega
  have e2 : ¬ up < 0 := by omega
  have e3 : ¬ down ≤ 0 := by omega
  have n5 : decide (p < q) = false := by simp; omega
  have n5' : ¬ p < q := by omega
  clear h f5
  by_cases hm : up = 9223372036854775807
  all_goals by_cases hl : up ≤ down
  all_goals by_cases hg : down ≤ up
  all_goals first
    | (have a1 : decide (up ≤ down) = true := by simp [hl]; done)
    | (have a1 : decide (up ≤ down) = false := by simp; omega)
  all_goals first
    | (have a2 : decide (down ≤ up) = true := by simp [hg]; done)
    | (have a2 : decide (down ≤ up) = false := by simp; omega)
  all_goals
    (try (have m1 := F6.out hl; have q1 : decide (n < q) = false := by simp; omega))
    (try (have m1 := F6.out hl; have q2 : decide (n < p) = false := by simp; omega))
    (try (have m2 := F7.out hg; have q3 : decide (q < n) = false := by simp; omega))
    have q4 : decide (q ≤ q') = true := decide_eq_true f8
    clear F6 F7 f8
  all_goals first
    | (have m1 := bq hm; clear hm)
    | (have m1 := nq hm; have C8 := Lib.hid (C7.out hm); have u2 : up + 1 ≤ 9223372036854775807 := by omega
       clear hm)
  all_goals clear C7
  all_goals
    go_enter Try.func8, Try.ntmps8
    go_wp2_with (first
      | (go_at_call 19; refine (head_any _).mono ?_; rintro e w' ⟨rfl, k1, rfl⟩)
      | (go_at_call 20; ((with_reducible refine (C1.out _).mono ?_); rintro e w' ⟨rfl, k2, rfl⟩))
      | (go_at_call 20; ((with_reducible refine (C3.out _).mono ?_); rintro e w' ⟨rfl, k3, rfl⟩))
      | (go_at_call 20; ((with_reducible refine (C5.out _).mono ?_); rintro e w' ⟨rfl, k4, rfl⟩))
      | (go_at_call 20; ((with_reducible refine (C8.out _).mono ?_); rintro e w' ⟨rfl, k5, rfl⟩))
      | (go_at_call 21; ((with_reducible refine (C2.out _).mono ?_); rintro e w' ⟨rfl, k6, rfl⟩))
      | (go_at_call 21; ((with_reducible refine (C4.out _).mono ?_); rintro e w' ⟨rfl, k7, rfl⟩))
      | (go_at_call 21; ((with_reducible refine (C6.out _).mono ?_); rintro e w' ⟨rfl, k8, rfl⟩)))
    go_ret
    exact RetB.mk rfl ⟨_, rfl⟩

theorem i64_mask (n m : Int) (j : Nat) (h : (BitVec.ofInt 64 m).toNat = 2 ^ j - 1) : Go.bits .and .i64 n m = IntKind.i64.wrap (((n % ((2 ^ 64 : Nat) : Int)).toNat % 2 ^ j : Nat) : Int) := by
  have key : (BitVec.ofInt 64 n &&& BitVec.ofInt 64 m).toNat = (n % ((2 ^ 64 : Nat) : Int)).toNat % 2 ^ j := by
    rw [BitVec.toNat_and, BitVec.toNat_ofInt, h, Nat.and_two_pow_sub_one_eq_mod]
  show IntKind.i64.wrap ((BitVec.ofInt 64 n &&& BitVec.ofInt 64 m).toNat : Nat) = _
  rw [key]
theorem and_63 (n : Int) : Go.bits .and .i64 n 63 = n % 64 := by rw [i64_mask n 63 6 (by decide), IntKind.wrap_i64]; omega

theorem splits_facts {n p : Int} (hn : 0 ≤ n) (hn' : n ≤ 9223372036854775807) (hp : 0 ≤ p) (hp' : p ≤ 63) : ∃ a b c : Int, frac n p 100 = a ∧ frac n (100 - p) 100 = b ∧ fracUp n (100 - p) 100 = c ∧ a ≤ n ∧ b ≤ n ∧ 0 ≤ a ∧ (n - a = b ∨ n - a = b + 1) ∧ n - a = c ∧ 0 ≤ b := by
  have e : n * (100 - p) = n * 100 - n * p := by rw [Int.mul_sub]
  have t0 : 0 ≤ n * p := Int.mul_nonneg hn hp
  have t1 : n * p ≤ n * 63 := Int.mul_le_mul_of_nonneg_left hp' hn
  rw [frac_good (by omega), frac_good (by omega), fracUp_good (by omega), e]
  generalize n * p = t at *
  have a1 : (t / 100) ≤ n := by omega
  refine ⟨t / 100, (n * 100 - t) / 100, (n * 100 - t + 100 - 1) / 100, sat_id ⟨by omega, by omega⟩, sat_id ⟨by omega, by omega⟩, sat_id ⟨by omega, by omega⟩, a1, by omega, by omega, by omega, by omega, by omega⟩

set_option maxHeartbeats 8000000 in
set_option maxRecDepth 100000 in
theorem splits_core (n m p percent : Int) (w : World) (hn : In n) (hm : (n < 0 → m = -(n + 1)) ∧ (0 ≤ n → m = n)) (hp : Go.bits .and .i64 percent 63 = p) (p0 : 0 ≤ p) (p1 : p ≤ 63) : Calls Try.prog 9 #[.int .i64 n, .int .i64 percent] w (RetB w) := by
  unfold In at hn
  have m0 : 0 ≤ m := by omega
  have m1 : m ≤ 9223372036854775807 := by omega
  obtain ⟨a, b, c, f1, f2, f3, f4, f5, f6, f7, f8, f9⟩ := splits_facts (n := m) (p := p) m0 m1 p0 p1
  have c1 := fun w => frac_any m p 100 w ⟨by omega, by omega⟩ ⟨by omega, by omega⟩ ⟨by omega, by omega⟩
  have c2 := fun w => frac_any m (100 - p) 100 w ⟨by omega, by omega⟩ ⟨by omega, by omega⟩ ⟨by omega, by omega⟩
  have c3 := fun w => fracUp_any m (100 - p) 100 w ⟨by omega, by omega⟩ ⟨by omega, by omega⟩ ⟨by omega, by omega⟩
  rw [f1] at c1
  rw [f2] at c2
  rw [f3] at c3
  have C1 := Lib.hid c1
  have C2 := Lib.hid c2
  have C3 := Lib.hid c3
  have d1 : decide (a ≤ m) = true := decide_eq_true f4
  have d2 : decide (b ≤ m) = true := decide_eq_true f5
  have d4 : (m - a == c) = true := bq f8
  clear c1 c2 c3 f1 f2 f3
  have hs : m - a ≤ 9223372036854775807 := by omega
  have F7 := Lib.hid f7
  have F8 := Lib.hid f8
  have HM := Lib.hid hm
  clear f7 f8 hm
  obtain ⟨n0, n2⟩ := hn
  have H1 : Hid (∀ P : Prop, ((m - a == b) = true → P) → ((m - a == b) = false → (m - a == b + 1) = true → b + 1 ≤ 9223372036854775807 → P) → P) := by
    refine Lib.hid ?_
    intro P q1 q2
    by_cases h : m - a = b
    · exact q1 (bq h)
    · have h2 : m - a = b + 1 := by have := F7.out; omega
      exact q2 (nq h) (bq h2) (by omega)
  by_cases h : n < 0
  · have e : m = -(n + 1) := HM.out.1 h
    obtain ⟨n1, hn1⟩ : ∃ n1, n1 = n + 1 := ⟨_, rfl⟩
    have en : wrap64 (-n1) = m := by unfold wrap64; omega
    have en2 : -n1 = m := by omega
    have e1 : n + 1 = n1 := hn1.symm
    clear hn1 e HM
    refine H1.out _ ?_ ?_
    · intro r1
      clear H1 F7 F8
      go_enter Try.func9, Try.ntmps9
      go_wp2_with (first
        | (go_at_call 19; refine (head_any _).mono ?_; rintro e w' ⟨rfl, k1, rfl⟩)
        | (go_at_call 20; ((with_reducible refine (C1.out _).mono ?_); rintro e w' ⟨rfl, k2, rfl⟩))
        | (go_at_call 20; ((with_reducible refine (C2.out _).mono ?_); rintro e w' ⟨rfl, k3, rfl⟩))
        | (go_at_call 21; ((with_reducible refine (C3.out _).mono ?_); rintro e w' ⟨rfl, k6, rfl⟩)))
      go_ret
      exact RetB.mk rfl ⟨_, rfl⟩
    · intro r1 r2 r3
      clear H1 F7 F8
      go_enter Try.func9, Try.ntmps9
      go_wp2_with (first
        | (go_at_call 19; refine (head_any _).mono ?_; rintro e w' ⟨rfl, k1, rfl⟩)
        | (go_at_call 20; ((with_reducible refine (C1.out _).mono ?_); rintro e w' ⟨rfl, k2, rfl⟩))
        | (go_at_call 20; ((with_reducible refine (C2.out _).mono ?_); rintro e w' ⟨rfl, k3, rfl⟩))
        | (go_at_call 21; ((with_reducible refine (C3.out _).mono ?_); rintro e w' ⟨rfl, k6, rfl⟩)))
      go_ret
      exact RetB.mk rfl ⟨_, rfl⟩
  · have e : m = n := HM.out.2 (by omega)
    subst e
    clear HM
    refine H1.out _ ?_ ?_
    · intro r1
      clear H1 F7 F8
      go_enter Try.func9, Try.ntmps9
      go_wp2_with (first
        | (go_at_call 19; refine (head_any _).mono ?_; rintro e w' ⟨rfl, k1, rfl⟩)
        | (go_at_call 20; ((with_reducible refine (C1.out _).mono ?_); rintro e w' ⟨rfl, k2, rfl⟩))
        | (go_at_call 20; ((with_reducible refine (C2.out _).mono ?_); rintro e w' ⟨rfl, k3, rfl⟩))
        | (go_at_call 21; ((with_reducible refine (C3.out _).mono ?_); rintro e w' ⟨rfl, k6, rfl⟩)))
      go_ret
      exact RetB.mk rfl ⟨_, rfl⟩
    · intro r1 r2 r3
      clear H1 F7 F8
      go_enter Try.func9, Try.ntmps9
      go_wp2_with (first
        | (go_at_call 19; refine (head_any _).mono ?_; rintro e w' ⟨rfl, k1, rfl⟩)
        | (go_at_call 20; ((with_reducible refine (C1.out _).mono ?_); rintro e w' ⟨rfl, k2, rfl⟩))
        | (go_at_call 20; ((with_reducible refine (C2.out _).mono ?_); rintro e w' ⟨rfl, k3, rfl⟩))
        | (go_at_call 21; ((with_reducible refine (C3.out _).mono ?_); rintro e w' ⟨rfl, k6, rfl⟩)))
      go_ret
      exact RetB.mk rfl ⟨_, rfl⟩

theorem splits_walk (n percent : Int) (w : World) (hn : In n) : Calls Try.prog 9 #[.int .i64 n, .int .i64 percent] w (RetB w) := by
  by_cases h : n < 0
  · exact splits_core n (-(n + 1)) (percent % 64) percent w hn ⟨fun _ => rfl, fun h' => by omega⟩ (and_63 percent) (by omega) (by omega)
  · exact splits_core n n (percent % 64) percent w hn ⟨fun h' => absurd h' h, fun _ => rfl⟩ (and_63 percent) (by omega) (by omega)

theorem wholes_walk (n up down : Int) (w : World) (hn : In n) (hu : In up) (hd : In down) : Calls Try.prog 8 #[.int .i64 n, .int .i64 up, .int .i64 down] w (RetB w) := by
  by_cases h : n < 0 ∨ up < 0 ∨ down ≤ 0
  · exact wholes_bad n up down w h
  · exact wholes_good n up down w hn hu hd h

end Go.Proofs.Ytnhonhdomgmhgaa.Num
