/- Proved: the walk of the law NumParts of package num: it answers true, for all 64-bit numbers. -/
import Derived.Test.YtnhonhdomgmhgaaNumLaws2
import Derived.Shelf.Spec.BitsCarry
namespace Go.Proofs.Ytnhonhdomgmhgaa.Num
open Go.RowKit

theorem sub64_run (x y b : Nat) (hb : b ≤ 1) (w : World) : (callFunc 24 #[.int .u64 x, .int .u64 y, .int .u64 b]).run Try.prog w =
      .ok (.value (.tuple #[.int .u64 (((x + 18446744073709551616 - y - b) % 18446744073709551616 : Nat) : Int), .int .u64 ((if x < y + b then 1 else 0 : Nat) : Int)])) w := by
  rw [run_callFunc_extern Try.func24 (by kernel_rfl) (by kernel_rfl) (by kernel_rfl) (e := sub64Entry) (by kernel_rfl), run_sub64 x y b hb]
  rfl

set_option maxHeartbeats 4000000 in
set_option maxRecDepth 100000 in
theorem parts_bad (n up down : Int) (w : World) (hn : In n) (hu : In up) (hd : In down) (h : n < 0 ∨ up < 0 ∨ down ≤ 0) : Calls Try.prog 11 #[.int .i64 n, .int .i64 up, .int .i64 down] w (RetB w) := by
  have c1 := fun w => frac_any n up down w hn hu hd
  have c2 := fun w => fracUp_any n up down w hn hu hd
  have f1 : frac n up down = 0 := by unfold frac; rw [if_pos h]
  have f2 : fracUp n up down = 0 := by unfold fracUp; rw [if_pos h]
  rw [f1] at c1
  rw [f2] at c2
  have C1 := Lib.hid c1
  have C2 := Lib.hid c2
  clear c1 c2 f1 f2 hn hu hd
  by_cases h1 : n < 0
  · have d1 : decide (n < 0) = true := by simp [h1]
    clear h
    go_enter Try.func11, Try.ntmps11
    go_wp2_with (first
      | (go_at_call 19; refine (head_any _).mono ?_; rintro e w' ⟨rfl, k1, rfl⟩)
      | (go_at_call 20; refine (C1.out _).mono ?_; rintro e w' ⟨rfl, k2, rfl⟩)
      | (go_at_call 21; refine (C2.out _).mono ?_; rintro e w' ⟨rfl, k3, rfl⟩))
    go_ret
    exact RetB.mk rfl ⟨_, rfl⟩
  · have d1 : decide (n < 0) = false := by simp; omega
    by_cases h2 : up < 0
    · have d2 : decide (up < 0) = true := by simp [h2]
      clear h
      go_enter Try.func11, Try.ntmps11
      go_wp2_with (first
        | (go_at_call 19; refine (head_any _).mono ?_; rintro e w' ⟨rfl, k1, rfl⟩)
        | (go_at_call 20; refine (C1.out _).mono ?_; rintro e w' ⟨rfl, k2, rfl⟩)
        | (go_at_call 21; refine (C2.out _).mono ?_; rintro e w' ⟨rfl, k3, rfl⟩))
      go_ret
      exact RetB.mk rfl ⟨_, rfl⟩
    · have d2 : decide (up < 0) = false := by simp; omega
      have h3 : down ≤ 0 := by omega
      have d3 : decide (down ≤ 0) = true := by simp [h3]
      clear h
      go_enter Try.func11, Try.ntmps11
      go_wp2_with (first
        | (go_at_call 19; refine (head_any _).mono ?_; rintro e w' ⟨rfl, k1, rfl⟩)
        | (go_at_call 20; refine (C1.out _).mono ?_; rintro e w' ⟨rfl, k2, rfl⟩)
        | (go_at_call 21; refine (C2.out _).mono ?_; rintro e w' ⟨rfl, k3, rfl⟩))
      go_ret
      exact RetB.mk rfl ⟨_, rfl⟩

/-- The greatest number times down is no more than the product. -/
theorem parts_le {N U D : Nat} (h0 : 0 < D) (h : 9223372036854775807 ≤ N * U / D) : 9223372036854775807 * D ≤ N * U :=
  (Nat.le_div_iff_mul_le h0).1 h
/-- The order of two numbers of 128 bits, by their halves. -/
theorem halves_le {x y : Nat} (h : x ≤ y) : x / 18446744073709551616 < y / 18446744073709551616 ∨ x / 18446744073709551616 = y / 18446744073709551616 ∧ x % 18446744073709551616 ≤ y % 18446744073709551616 := by omega

set_option maxHeartbeats 4000000 in
set_option maxRecDepth 100000 in
theorem parts_max (N U D : Nat) (w : World) (hN : N ≤ 9223372036854775807) (hU : U ≤ 9223372036854775807) (hD : D ≤ 9223372036854775807) (h0 : 0 < D) (h : 9223372036854775807 ≤ N * U / D) :
    Calls Try.prog 11 #[.int .i64 N, .int .i64 U, .int .i64 D] w (RetB w) := by
  have c1 := fun w => frac_any N U D w ⟨by omega, by omega⟩ ⟨by omega, by omega⟩ ⟨by omega, by omega⟩
  have c2 := fun w => fracUp_any N U D w ⟨by omega, by omega⟩ ⟨by omega, by omega⟩ ⟨by omega, by omega⟩
  have f1 : frac N U D = 9223372036854775807 := by
    rw [frac_good (by omega), ← Int.natCast_mul, ← Int.natCast_ediv]; unfold sat; split <;> (try split) <;> omega
  have f2 : fracUp N U D = 9223372036854775807 := by
    have e : fracUp N U D = sat (((N * U / D : Nat) : Int) + (if N * U % D = 0 then 0 else 1)) := by rw [fracUp_good (by omega), ← ceil_of _ _ h0]; simp
    rw [e]; unfold sat; split <;> split <;> (try split) <;> omega
  rw [f1] at c1
  rw [f2] at c2
  have hle := halves_le (parts_le h0 h)
  have c3 := fun w => mul64_any N U (by omega) (by omega) w
  have c4 := fun w => mul64_any 9223372036854775807 D (by omega) (by omega) w
  generalize N * U / 18446744073709551616 = a at *
  generalize N * U % 18446744073709551616 = b at *
  generalize 9223372036854775807 * D / 18446744073709551616 = c at *
  generalize 9223372036854775807 * D % 18446744073709551616 = d at *
  have c4' : ∀ w, Calls Try.prog 23 #[.int .u64 9223372036854775807, .int .u64 D] w fun e w' => e = .returned (.tuple #[.int .u64 (c : Int), .int .u64 (d : Int)]) ∧ w = w' := c4
  have C1 := Lib.hid c1
  have C2 := Lib.hid c2
  have C3 := Lib.hid c3
  have C4 := Lib.hid c4'
  clear c1 c2 c3 c4 c4' f1 f2 h
  have e1 : IntKind.u64.wrap (N : Int) = N := IntWalk.u64_in _ (by omega)
  have e2 : IntKind.u64.wrap (U : Int) = U := IntWalk.u64_in _ (by omega)
  have e3 : IntKind.u64.wrap (D : Int) = D := IntWalk.u64_in _ (by omega)
  have d1 : decide ((N : Int) < 0) = false := by simp
  have d2 : decide ((U : Int) < 0) = false := by simp
  have d3 : decide ((D : Int) ≤ 0) = false := by simp; omega
  have d4 : ¬ (D : Int) ≤ 0 := by omega
  have d5 : ¬ D = 0 := by omega
  have H := Lib.hid hle
  clear hle h0
  by_cases hc : c < a
  · have g1 : decide ((c : Int) < a) = true := by simp [hc]
    have g2 : decide (c < a) = true := by simp [hc]
    clear H
    go_enter Try.func11, Try.ntmps11
    go_wp2_with (first
      | (go_at_call 19; refine (head_any _).mono ?_; rintro e w' ⟨rfl, k1, rfl⟩)
      | (go_at_call 20; refine (C1.out _).mono ?_; rintro e w' ⟨rfl, k2, rfl⟩)
      | (go_at_call 21; refine (C2.out _).mono ?_; rintro e w' ⟨rfl, k3, rfl⟩)
      | (go_at_call 23; ((with_reducible refine (C3.out _).mono ?_); rintro e w' ⟨rfl, rfl⟩))
      | (go_at_call 23; ((with_reducible refine (C4.out _).mono ?_); rintro e w' ⟨rfl, rfl⟩)))
    go_ret
    exact RetB.mk rfl ⟨_, rfl⟩
  · have hcd : c = a ∧ d ≤ b := by rcases H.out with h | h; exact absurd h hc; exact h
    obtain ⟨rfl, hdb⟩ := hcd
    have g1 : decide ((c : Int) < c) = false := by simp
    have g2 : decide (c < c) = false := by simp
    have g3 : decide ((d : Int) ≤ b) = true := by simp [hdb]
    have g4 : decide (d ≤ b) = true := by simp [hdb]
    clear H
    go_enter Try.func11, Try.ntmps11
    go_wp2_with (first
      | (go_at_call 19; refine (head_any _).mono ?_; rintro e w' ⟨rfl, k1, rfl⟩)
      | (go_at_call 20; refine (C1.out _).mono ?_; rintro e w' ⟨rfl, k2, rfl⟩)
      | (go_at_call 21; refine (C2.out _).mono ?_; rintro e w' ⟨rfl, k3, rfl⟩)
      | (go_at_call 23; ((with_reducible refine (C3.out _).mono ?_); rintro e w' ⟨rfl, rfl⟩))
      | (go_at_call 23; ((with_reducible refine (C4.out _).mono ?_); rintro e w' ⟨rfl, rfl⟩)))
    go_ret
    exact RetB.mk rfl ⟨_, rfl⟩

theorem nat_in {Q : Nat} (h : Q < 9223372036854775807) : In (Q : Int) := ⟨by omega, by omega⟩
theorem nat_in1 {Q : Nat} (h : Q < 9223372036854775807) : In ((Q : Int) + 1) := ⟨by omega, by omega⟩
/-- A difference by halves: what is left is small. -/
theorem halves_sub {x y r : Nat} (h : x = y + r) (hr : r ≤ 9223372036854775807) :
    (x % 18446744073709551616 + 18446744073709551616 - y % 18446744073709551616 - 0) % 18446744073709551616 = r ∧
    (x / 18446744073709551616 + 18446744073709551616 - y / 18446744073709551616 - (if x % 18446744073709551616 < y % 18446744073709551616 + 0 then 1 else 0)) % 18446744073709551616 = 0 ∧
    ¬ x / 18446744073709551616 < y / 18446744073709551616 + (if x % 18446744073709551616 < y % 18446744073709551616 + 0 then 1 else 0) := by
  refine ⟨by omega, ?_, ?_⟩
  · split <;> omega
  · split <;> omega

set_option maxHeartbeats 8000000 in
set_option maxRecDepth 100000 in
theorem parts_small (N U D : Nat) (w : World) (hN : N ≤ 9223372036854775807) (hU : U ≤ 9223372036854775807) (hD : D ≤ 9223372036854775807) (h0 : 0 < D) (h : N * U / D < 9223372036854775807) :
    Calls Try.prog 11 #[.int .i64 N, .int .i64 U, .int .i64 D] w (RetB w) := by
  have c1 := fun w => frac_any N U D w ⟨by omega, by omega⟩ ⟨by omega, by omega⟩ ⟨by omega, by omega⟩
  have c2 := fun w => fracUp_any N U D w ⟨by omega, by omega⟩ ⟨by omega, by omega⟩ ⟨by omega, by omega⟩
  have f1 : frac N U D = ((N * U / D : Nat) : Int) := by
    rw [frac_good (by omega), ← Int.natCast_mul, ← Int.natCast_ediv, sat_id (nat_in h)]
  have f2 : fracUp N U D = ((N * U / D : Nat) : Int) + (if N * U % D = 0 then 0 else 1) := by
    have e : fracUp N U D = sat (((N * U / D : Nat) : Int) + (if N * U % D = 0 then 0 else 1)) := by rw [fracUp_good (by omega), ← ceil_of _ _ h0]; simp
    rw [e, sat_id]
    split
    · rw [Int.add_zero]; exact nat_in h
    · exact nat_in1 h
  rw [f1] at c1
  rw [f2] at c2
  have hm := Nat.div_add_mod (N * U) D
  have hr := Nat.mod_lt (N * U) h0
  have c3 := fun w => mul64_any N U (by omega) (by omega) w
  have c4 := fun w => mul64_any (N * U / D) D (by omega) (by omega) w
  obtain ⟨s1, s2, s3⟩ := halves_sub (x := N * U) (y := N * U / D * D) (r := N * U % D) (by rw [Nat.mul_comm] at hm; omega) (by omega)
  have r1 := fun w => sub64_run (N * U % 18446744073709551616) (N * U / D * D % 18446744073709551616) 0 (by omega) w
  have r2 := fun w => sub64_run (N * U / 18446744073709551616) (N * U / D * D / 18446744073709551616) (if N * U % 18446744073709551616 < N * U / D * D % 18446744073709551616 + 0 then 1 else 0) (by split <;> omega) w
  rw [s1] at r1
  rw [s2, if_neg s3] at r2
  generalize (if N * U % 18446744073709551616 < N * U / D * D % 18446744073709551616 + 0 then 1 else 0) = cy at *
  generalize N * U / D * D % 18446744073709551616 = x1 at *
  generalize N * U / D * D / 18446744073709551616 = x2 at *
  generalize N * U % 18446744073709551616 = x3 at *
  generalize N * U / 18446744073709551616 = x4 at *
  generalize N * U / D = Q at *
  generalize N * U % D = R at *
  clear f1 f2 hm s1 s2 s3
  have r1' : ∀ w, (callFunc 24 #[.int .u64 x3, .int .u64 x1, .int .u64 0]).run Try.prog w = .ok (.value (.tuple #[.int .u64 (R : Int), .int .u64 (cy : Int)])) w := r1
  have r2' : ∀ w, (callFunc 24 #[.int .u64 x4, .int .u64 x2, .int .u64 (cy : Int)]).run Try.prog w = .ok (.value (.tuple #[.int .u64 0, .int .u64 0])) w := r2
  clear r1 r2
  have C1 := Lib.hid c1
  have C3 := Lib.hid c3
  have C4 := Lib.hid c4
  clear c1 c3 c4
  have e1 : IntKind.u64.wrap (N : Int) = N := IntWalk.u64_in _ (by omega)
  have e2 : IntKind.u64.wrap (U : Int) = U := IntWalk.u64_in _ (by omega)
  have e3 : IntKind.u64.wrap (D : Int) = D := IntWalk.u64_in _ (by omega)
  have e4 : IntKind.u64.wrap (Q : Int) = Q := IntWalk.u64_in _ (by omega)
  have d1 : decide ((N : Int) < 0) = false := by simp
  have d2 : decide ((U : Int) < 0) = false := by simp
  have d3 : decide ((D : Int) ≤ 0) = false := by simp; omega
  have d4 : ¬ (D : Int) ≤ 0 := by omega
  have d5 : ¬ D = 0 := by omega
  have q1 : ((Q : Int) == 9223372036854775807) = false := nq (by omega)
  have q2 : decide ((D : Int) ≤ R) = false := by simp; omega
  have q3 : decide (D ≤ R) = false := by simp; omega
  have q4 : (Q : Int) + 1 ≤ 9223372036854775807 := by omega
  have q5 : (0 : Int) ≤ Q := by omega
  clear h
  generalize (Q : Int) = q at *
  by_cases hR : R = 0
  · subst hR
    rw [if_pos rfl] at c2
    have c2' : ∀ w, Calls Try.prog 21 #[.int .i64 N, .int .i64 U, .int .i64 D] w (RetD q w) := fun w => by have := c2 w; rwa [Int.add_zero] at this
    have C2 := Lib.hid c2'
    clear c2 c2' hr h0
    go_enter Try.func11, Try.ntmps11
    go_wp2_with (first
      | (go_at_call 19; refine (head_any _).mono ?_; rintro e w' ⟨rfl, k1, rfl⟩)
      | (go_at_call 20; refine (C1.out _).mono ?_; rintro e w' ⟨rfl, k2, rfl⟩)
      | (go_at_call 21; refine (C2.out _).mono ?_; rintro e w' ⟨rfl, k3, rfl⟩)
      | (go_at_call 23; ((with_reducible refine (C3.out _).mono ?_); rintro e w' ⟨rfl, rfl⟩))
      | (go_at_call 23; ((with_reducible refine (C4.out _).mono ?_); rintro e w' ⟨rfl, rfl⟩)))
    go_ret
    exact RetB.mk (by simp) ⟨_, rfl⟩
  · rw [if_neg hR] at c2
    have z1 : ((R : Int) == 0) = false := nq (by omega)
    have z2 : decide ((0 : Int) < R) = true := by simp; omega
    have z3 : (0 : Int) < R := by omega
    have C2 := Lib.hid c2
    clear c2 hr h0
    go_enter Try.func11, Try.ntmps11
    go_wp2_with (first
      | (go_at_call 19; refine (head_any _).mono ?_; rintro e w' ⟨rfl, k1, rfl⟩)
      | (go_at_call 20; refine (C1.out _).mono ?_; rintro e w' ⟨rfl, k2, rfl⟩)
      | (go_at_call 21; refine (C2.out _).mono ?_; rintro e w' ⟨rfl, k3, rfl⟩)
      | (go_at_call 23; ((with_reducible refine (C3.out _).mono ?_); rintro e w' ⟨rfl, rfl⟩))
      | (go_at_call 23; ((with_reducible refine (C4.out _).mono ?_); rintro e w' ⟨rfl, rfl⟩)))
    go_ret
    exact RetB.mk (by simp) ⟨_, rfl⟩

theorem parts_walk (n up down : Int) (w : World) (hn : In n) (hu : In up) (hd : In down) : Calls Try.prog 11 #[.int .i64 n, .int .i64 up, .int .i64 down] w (RetB w) := by
  by_cases h : n < 0 ∨ up < 0 ∨ down ≤ 0
  · exact parts_bad n up down w hn hu hd h
  · unfold In at hn hu hd
    obtain ⟨N, rfl⟩ : ∃ N : Nat, n = N := ⟨n.toNat, by omega⟩
    obtain ⟨U, rfl⟩ : ∃ N : Nat, up = N := ⟨up.toNat, by omega⟩
    obtain ⟨D, rfl⟩ : ∃ N : Nat, down = N := ⟨down.toNat, by omega⟩
    by_cases hg : 9223372036854775807 ≤ N * U / D
    · exact parts_max N U D w (by omega) (by omega) (by omega) (by omega) hg
    · exact parts_small N U D w (by omega) (by omega) (by omega) (by omega) (by omega)

end Go.Proofs.Ytnhonhdomgmhgaa.Num
