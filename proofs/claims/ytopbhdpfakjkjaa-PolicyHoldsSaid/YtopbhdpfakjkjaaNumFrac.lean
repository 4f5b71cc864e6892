/- Proved: what num.Frac and num.FracUp answer, for all 64-bit numbers: n times up by down, without or with what is left, or the greatest number. -/
import Derived.Test.YtopbhdpfakjkjaaNumMul
namespace Go.Proofs.Ytopbhdpfakjkjaa.Num
open Go.RowKit

/-- So many parts of a number. -/
def frac (n up down : Int) : Int := if n < 0 ∨ up < 0 ∨ down ≤ 0 then 0 else sat (n * up / down)
/-- The same, one more if something is left. -/
def fracUp (n up down : Int) : Int := if n < 0 ∨ up < 0 ∨ down ≤ 0 then 0 else sat ((n * up + down - 1) / down)

/-- An answer; the world was drawn. -/
def RetD (r : Int) (w : World) (e : Ending) (w' : World) : Prop := e = .returned (.int .i64 r) ∧ ∃ k, w' = w.drewN k
theorem RetD.mk {r r' : Int} {w w' : World} (h : r' = r) (hw : ∃ k, w' = w.drewN k) : RetD r w (.returned (.int .i64 r')) w' := by subst h; exact ⟨rfl, hw⟩
def RetP (q r : Int) (w : World) (e : Ending) (w' : World) : Prop := e = .returned (.tuple #[.int .i64 q, .int .u64 r]) ∧ ∃ k, w' = w.drewN k

set_option maxHeartbeats 400000 in
theorem part_bad (n up down : Int) (w : World) (h : n < 0 ∨ up < 0 ∨ down ≤ 0) : Calls Try.prog 42 #[.int .i64 n, .int .i64 up, .int .i64 down] w (RetP 0 0 w) := by
  by_cases h1 : n < 0
  · have d1 : decide (n < 0) = true := by simp [h1]
    go_enter Try.func42, Try.ntmps42
    go_wp2
    go_ret2
    exact ⟨rfl, 0, rfl⟩
  · have d1 : decide (n < 0) = false := by simp [h1]
    by_cases h2 : up < 0
    · have d2 : decide (up < 0) = true := by simp [h2]
      clear h
      go_enter Try.func42, Try.ntmps42
      go_wp2
      go_ret2
      exact ⟨rfl, 0, rfl⟩
    · have d2 : decide (up < 0) = false := by simp [h2]
      have h3 : down ≤ 0 := by omega
      have d3 : decide (down ≤ 0) = true := by simp [h3]
      clear h
      go_enter Try.func42, Try.ntmps42
      go_wp2
      go_ret2
      exact ⟨rfl, 0, rfl⟩

theorem hi_small {N U D : Nat} (_hD : 0 < D) (h : N * U / 18446744073709551616 < D) : N * U / D ≤ 18446744073709551615 := by
  have h1 := (Nat.div_lt_iff_lt_mul (show 0 < 18446744073709551616 by decide)).1 h
  have h2 : N * U < 18446744073709551616 * D := by rw [Nat.mul_comm _ D]; exact h1
  have := (Nat.div_lt_iff_lt_mul (show 0 < D by omega)).2 h2
  omega
theorem hi_great {N U D : Nat} (hD : 0 < D) (h : D ≤ N * U / 18446744073709551616) : 18446744073709551616 ≤ N * U / D := by
  have h1 := (Nat.le_div_iff_mul_le (show 0 < 18446744073709551616 by decide)).1 h
  exact (Nat.le_div_iff_mul_le hD).2 (by rw [Nat.mul_comm]; exact h1)

set_option maxHeartbeats 400000 in
theorem part_great (N U D : Nat) (hN : N ≤ 9223372036854775807) (hU : U ≤ 9223372036854775807) (hD : D ≤ 9223372036854775807) (h0 : 0 < D) (w : World) (h : D ≤ N * U / 18446744073709551616) :
    Calls Try.prog 42 #[.int .i64 N, .int .i64 U, .int .i64 D] w (RetP 9223372036854775807 0 w) := by
  have cm := mul64_any N U (by omega) (by omega) w
  generalize N * U / 18446744073709551616 = P at *
  generalize N * U % 18446744073709551616 = L at *
  have Cm := Lib.hid cm
  clear cm
  have e1 : IntKind.u64.wrap (N : Int) = N := IntWalk.u64_in _ (by omega)
  have e2 : IntKind.u64.wrap (U : Int) = U := IntWalk.u64_in _ (by omega)
  have e3 : IntKind.u64.wrap (D : Int) = D := IntWalk.u64_in _ (by omega)
  have d1 : decide ((N : Int) < 0) = false := by simp
  have d2 : decide ((U : Int) < 0) = false := by simp
  have d3 : decide ((D : Int) ≤ 0) = false := by simp; omega
  have d3' : ¬ ((D : Int) ≤ 0) := by omega
  have d4 : ¬ D = 0 := by omega
  have h' : (D : Int) ≤ (P : Int) := by omega
  go_enter Try.func42, Try.ntmps42
  go_wp2_with (go_at_call 53; refine (Cm.out).mono ?_; rintro e w' ⟨rfl, rfl⟩)
  go_ret2
  exact ⟨rfl, 0, rfl⟩

set_option maxHeartbeats 400000 in
theorem part_small (N U D : Nat) (hN : N ≤ 9223372036854775807) (hU : U ≤ 9223372036854775807) (hD : D ≤ 9223372036854775807) (h0 : 0 < D) (w : World) (h : N * U / 18446744073709551616 < D) :
    Calls Try.prog 42 #[.int .i64 N, .int .i64 U, .int .i64 D] w (RetP (sat ((N * U / D : Nat) : Int)) ((N * U % D : Nat) : Int) w) := by
  have cm := mul64_any N U (by omega) (by omega) w
  have hp := mulHL N U
  have hl := mod_le (N * U)
  have hq := hi_small h0 h
  obtain ⟨P, hP⟩ : ∃ P, P = N * U / 18446744073709551616 := ⟨_, rfl⟩
  obtain ⟨L, hL⟩ : ∃ L, L = N * U % 18446744073709551616 := ⟨_, rfl⟩
  rw [← hP, ← hL] at hp cm
  rw [← hL] at hl
  rw [← hP] at h
  have cd := div64 P L D h hl (by omega) w
  rw [hp] at cd
  have cs := fun w => signed_pos 0 (N * U / D) w hq
  rw [Nat.zero_mul, Nat.zero_add] at cs
  obtain ⟨Q, hQ⟩ : ∃ Q, Q = N * U / D := ⟨_, rfl⟩
  obtain ⟨R, hR⟩ : ∃ R, R = N * U % D := ⟨_, rfl⟩
  rw [← hQ, ← hR] at cd ⊢
  rw [← hQ] at cs
  have Cm := Lib.hid cm
  have Cd := Lib.hid cd
  have Cs := Lib.hid cs
  clear cm cd cs hp hP hL hl hQ hR hq
  have e1 : IntKind.u64.wrap (N : Int) = N := IntWalk.u64_in _ (by omega)
  have e2 : IntKind.u64.wrap (U : Int) = U := IntWalk.u64_in _ (by omega)
  have e3 : IntKind.u64.wrap (D : Int) = D := IntWalk.u64_in _ (by omega)
  have d1 : decide ((N : Int) < 0) = false := by simp
  have d2 : decide ((U : Int) < 0) = false := by simp
  have d3 : decide ((D : Int) ≤ 0) = false := by simp; omega
  have d3' : ¬ ((D : Int) ≤ 0) := by omega
  have d4 : ¬ D = 0 := by omega
  have h' : ¬ (D : Int) ≤ (P : Int) := by omega
  go_enter Try.func42, Try.ntmps42
  go_wp2_with fail
  refine (Cm.out).mono ?_
  rintro e w' ⟨rfl, rfl⟩
  go_wp2_with fail
  refine (Cd.out).mono ?_
  rintro e w' ⟨rfl, k, rfl⟩
  go_wp2_with fail
  refine (Cs.out _).mono ?_
  rintro e w' ⟨rfl, rfl⟩
  go_wp2
  go_ret2
  exact ⟨rfl, k, rfl⟩

set_option maxHeartbeats 400000 in
theorem frac_any (n up down : Int) (w : World) (hn : In n) (hu : In up) (hd : In down) : Calls Try.prog 33 #[.int .i64 n, .int .i64 up, .int .i64 down] w (RetD (frac n up down) w) := by
  have key : ∃ r, Calls Try.prog 42 #[.int .i64 n, .int .i64 up, .int .i64 down] w (RetP (frac n up down) r w) := by
    unfold In at hn hu hd
    by_cases h : n < 0 ∨ up < 0 ∨ down ≤ 0
    · exact ⟨0, by unfold frac; rw [if_pos h]; exact part_bad n up down w h⟩
    · obtain ⟨N, rfl⟩ : ∃ N : Nat, n = N := ⟨n.toNat, by omega⟩
      obtain ⟨U, rfl⟩ : ∃ N : Nat, up = N := ⟨up.toNat, by omega⟩
      obtain ⟨D, rfl⟩ : ∃ N : Nat, down = N := ⟨down.toNat, by omega⟩
      have e : frac N U D = sat ((N * U / D : Nat) : Int) := by unfold frac; rw [if_neg h]; simp
      rw [e]
      by_cases hc : N * U / 18446744073709551616 < D
      · exact ⟨_, part_small N U D (by omega) (by omega) (by omega) (by omega) w hc⟩
      · have hg := hi_great (show 0 < D by omega) (show D ≤ N * U / 18446744073709551616 by omega)
        refine ⟨0, ?_⟩
        rw [show sat ((N * U / D : Nat) : Int) = 9223372036854775807 by unfold sat; rw [if_pos (by omega)]]
        exact part_great N U D (by omega) (by omega) (by omega) (by omega) w (by omega)
  obtain ⟨r, c⟩ := key
  generalize frac n up down = q at *
  have C := Lib.hid c
  clear c hn hu hd
  go_enter Try.func33, Try.ntmps33
  go_wp2_with fail
  refine (C.out).mono ?_
  rintro e w' ⟨rfl, k, rfl⟩
  go_wp2
  go_ret
  exact RetD.mk rfl ⟨k, rfl⟩

theorem ceil_of (a D : Nat) (h0 : 0 < D) : ((a : Int) + D - 1) / D = ((a / D : Nat) : Int) + (if a % D = 0 then 0 else 1) := by
  have hm := Nat.div_add_mod a D
  have hl := Nat.mod_lt a h0
  generalize a / D = q at *
  generalize a % D = r at *
  have e : (a : Int) = (D : Int) * (q : Int) + r := by rw [← hm]; simp
  rw [e]
  split
  · next h =>
    subst h
    rw [show (D : Int) * q + ((0 : Nat) : Int) + D - 1 = (D - 1 : Int) + D * q by omega, Int.add_mul_ediv_left _ _ (by omega), Int.ediv_eq_zero_of_lt (by omega) (by omega)]
    omega
  · next h =>
    rw [show (D : Int) * q + (r : Int) + D - 1 = (r - 1 : Int) + D * (q + 1) by rw [Int.mul_add]; omega, Int.add_mul_ediv_left _ _ (by omega), Int.ediv_eq_zero_of_lt (by omega) (by omega)]
    omega

set_option maxHeartbeats 400000 in
theorem fracUp_of (n up down q r : Int) (w : World) (c : Calls Try.prog 42 #[.int .i64 n, .int .i64 up, .int .i64 down] w (RetP q r w)) (hq : In q) (hr : 0 ≤ r) : Calls Try.prog 34 #[.int .i64 n, .int .i64 up, .int .i64 down] w (RetD (if 0 < r then sat (q + 1) else q) w) := by
  have C := Lib.hid c
  have ca := fun w => add_any q 1 w hq ⟨by omega, by omega⟩
  have Ca := Lib.hid ca
  clear c ca hq
  by_cases h : 0 < r
  · rw [if_pos h]
    go_enter Try.func34, Try.ntmps34
    go_wp2_with fail
    refine (C.out).mono ?_
    rintro e w' ⟨rfl, k, rfl⟩
    go_wp2_with fail
    refine (Ca.out _).mono ?_
    rintro e w' ⟨rfl, rfl⟩
    go_wp2
    go_ret
    exact RetD.mk rfl ⟨k, rfl⟩
  · rw [if_neg h]
    go_enter Try.func34, Try.ntmps34
    go_wp2_with fail
    refine (C.out).mono ?_
    rintro e w' ⟨rfl, k, rfl⟩
    go_wp2
    go_ret
    exact RetD.mk rfl ⟨k, rfl⟩

theorem fracUp_any (n up down : Int) (w : World) (hn : In n) (hu : In up) (hd : In down) : Calls Try.prog 34 #[.int .i64 n, .int .i64 up, .int .i64 down] w (RetD (fracUp n up down) w) := by
  unfold In at hn hu hd
  by_cases h : n < 0 ∨ up < 0 ∨ down ≤ 0
  · have c := fracUp_of n up down 0 0 w (part_bad n up down w h) ⟨by omega, by omega⟩ (by omega)
    rw [if_neg (by omega)] at c
    unfold fracUp; rw [if_pos h]; exact c
  · obtain ⟨N, rfl⟩ : ∃ N : Nat, n = N := ⟨n.toNat, by omega⟩
    obtain ⟨U, rfl⟩ : ∃ N : Nat, up = N := ⟨up.toNat, by omega⟩
    obtain ⟨D, rfl⟩ : ∃ N : Nat, down = N := ⟨down.toNat, by omega⟩
    have h0 : 0 < D := by omega
    have e : fracUp N U D = sat (((N * U / D : Nat) : Int) + (if N * U % D = 0 then 0 else 1)) := by unfold fracUp; rw [if_neg h, ← ceil_of _ _ h0]; simp
    rw [e]
    by_cases hc : N * U / 18446744073709551616 < D
    · have c := fracUp_of N U D _ _ w (part_small N U D (by omega) (by omega) (by omega) h0 w hc) (sat_in _) (by omega)
      have hs : (if (0 : Int) < ((N * U % D : Nat) : Int) then sat (sat ((N * U / D : Nat) : Int) + 1) else sat ((N * U / D : Nat) : Int)) = sat (((N * U / D : Nat) : Int) + (if N * U % D = 0 then 0 else 1)) := by
        generalize N * U / D = Q
        generalize N * U % D = R
        by_cases hR : R = 0
        · subst hR; simp
        · rw [if_pos (by omega), if_neg hR]
          unfold sat
          repeat' split
          all_goals omega
      rw [hs] at c
      exact c
    · have hg := hi_great h0 (show D ≤ N * U / 18446744073709551616 by omega)
      have c := fracUp_of N U D _ _ w (part_great N U D (by omega) (by omega) (by omega) h0 w (by omega)) ⟨by omega, by omega⟩ (by omega)
      rw [if_neg (by omega)] at c
      rw [show sat (((N * U / D : Nat) : Int) + (if N * U % D = 0 then 0 else 1)) = 9223372036854775807 by unfold sat; split <;> (try split) <;> omega]
      exact c

end Go.Proofs.Ytopbhdpfakjkjaa.Num
