/- Proved: math/bits.Div64 answers the quotient and the remainder of hi * 2^64 + lo by y. The conditions: hi < y, and all three are 64-bit numbers. -/
import Derived.Test.YtopbhdpfakjkjaaNumDiv
namespace Go.Proofs.Ytopbhdpfakjkjaa.Num
open Go.RowKit Go.Lib

theorem bitLen_bd : ∀ (f y : Nat), f ≤ 64 → y < 2 ^ f → y ≠ 0 → 2 ^ Lib.bitLen y ≤ 2 * y ∧ y < 2 ^ Lib.bitLen y ∧ Lib.bitLen y ≤ f ∧ 1 ≤ Lib.bitLen y
  | 0, y, _, h, h0 => by simp at h; omega
  | f + 1, y, hf, h, h0 => by
    have h64 : y < 2 ^ 64 := Nat.lt_of_lt_of_le h (Nat.pow_le_pow_right (by decide) hf)
    rw [bitLen_half y h0 h64]
    by_cases h1 : y / 2 = 0
    · have : y = 1 := by omega
      subst this
      have : Lib.bitLen (1 / 2) = 0 := by decide +kernel
      rw [this]; simp
    · have hh : y / 2 < 2 ^ f := by rw [Nat.pow_succ] at h; omega
      obtain ⟨a, b, c, d⟩ := bitLen_bd f (y / 2) (by omega) hh h1
      rw [Nat.add_comm 1, Nat.pow_succ]
      omega

theorem u64_nat (n : Nat) (h : n ≤ 18446744073709551615) : IntKind.u64.wrap (n : Int) = (n : Int) := IntWalk.u64_in _ (by omega)
theorem u64_mod (n : Nat) : IntKind.u64.wrap (n : Int) = ((n % 18446744073709551616 : Nat) : Int) := by rw [IntKind.wrap_u64]; omega
theorem u64_and32 (n : Nat) (h : n ≤ 18446744073709551615) : bits .and .u64 (n : Int) 4294967295 = ((n % 4294967296 : Nat) : Int) := by
  rw [show (4294967295 : Int) = ((4294967295 : Nat) : Int) from rfl, bits_and_u64_nat n 4294967295 (by omega) (by decide), show (4294967295 : Nat) = 2 ^ 32 - 1 from rfl, Nat.and_two_pow_sub_one_eq_mod]
theorem u64_wraps (n : Int) (h0 : 0 ≤ n) (h1 : n < 2 ^ 64) : IntKind.u64.wrap n = n := IntWalk.u64_in _ (by omega)

/-- What is left behind a digit, as the code reckons it: round and round. -/
theorem left_wrap (u u1 q Y : Nat) (hq : q * Y ≤ u * 4294967296 + u1) (hr : u * 4294967296 + u1 - q * Y ≤ 18446744073709551615) :
    IntKind.u64.wrap ((((((u * 4294967296) % 18446744073709551616 + u1) % 18446744073709551616 : Nat)) : Int) - ((q * Y % 18446744073709551616 : Nat) : Int)) = ((u * 4294967296 + u1 - q * Y : Nat) : Int) := by
  rw [IntKind.wrap_u64]
  generalize q * Y = p at *
  omega

theorem sub_div_mul (a Y : Nat) : a - a / Y * Y = a % Y := by
  have h := Nat.div_add_mod a Y
  rw [Nat.mul_comm] at h
  generalize a / Y * Y = p at *
  omega

theorem div64_1 (hi lo y : Nat) (h0 : 0 < hi) (hl : hi < y) (hlo : lo ≤ 18446744073709551615) (hyy : y ≤ 18446744073709551615) (w : World) :
    Calls Try.prog 54 #[.int .u64 hi, .int .u64 lo, .int .u64 y] w fun e w' => e = .returned (.tuple #[.int .u64 (((hi * 18446744073709551616 + lo) / y : Nat) : Int), .int .u64 (((hi * 18446744073709551616 + lo) % y : Nat) : Int)]) ∧ w' = w := by
  obtain ⟨b1, b2, b3, b4⟩ := bitLen_bd 64 y (by omega) (by omega) (by omega)
  obtain ⟨s, hs⟩ : ∃ s, s = 64 - Lib.bitLen y := ⟨_, rfl⟩
  obtain ⟨P, hP⟩ : ∃ P, P = 2 ^ s := ⟨_, rfl⟩
  have hPT : P * 2 ^ (64 - s) = 18446744073709551616 := by rw [hP, ← Nat.pow_add, show s + (64 - s) = 64 by omega]
  have hPn : 2 ^ Lib.bitLen y * P = 18446744073709551616 := by rw [hP, ← Nat.pow_add, show Lib.bitLen y + s = 64 by omega]
  have hP0 : 0 < P := by rw [hP]; exact Nat.two_pow_pos s
  have hY1 : 18446744073709551616 ≤ 2 * (y * P) := by rw [← hPn, ← Nat.mul_assoc]; exact Nat.mul_le_mul_right _ b1
  have hY2 : y * P < 18446744073709551616 := by rw [← hPn]; exact Nat.mul_lt_mul_of_pos_right b2 hP0
  obtain ⟨Y, hY⟩ : ∃ Y, Y = y * P := ⟨_, rfl⟩
  rw [← hY] at hY1 hY2
  have hhP : hi * P + P ≤ Y := by rw [hY]; have := Nat.mul_le_mul_right P (show hi + 1 ≤ y by omega); rw [Nat.add_mul, Nat.one_mul] at this; exact this
  -- lo, shifted
  obtain ⟨T, hT⟩ : ∃ T, T = 2 ^ (64 - s) := ⟨_, rfl⟩
  have hT0 : 0 < T := by rw [hT]; exact Nat.two_pow_pos _
  rw [← hT] at hPT
  have hlT : lo / T < P := by rw [Nat.div_lt_iff_lt_mul hT0, hPT]; omega
  have hlT2 : lo * P / 18446744073709551616 = lo / T := by rw [← hPT, Nat.mul_comm P T]; exact Nat.mul_div_mul_right _ _ hP0
  obtain ⟨u, hu⟩ : ∃ u, u = hi * P + lo / T := ⟨_, rfl⟩
  obtain ⟨L, hL⟩ : ∃ L, L = lo * P % 18446744073709551616 := ⟨_, rfl⟩
  have hLb : L < 18446744073709551616 := by rw [hL]; exact Nat.mod_lt _ (by decide)
  have huY : u < Y := by omega
  have hN : (hi * 18446744073709551616 + lo) * P = u * 18446744073709551616 + L := by
    have := Nat.div_add_mod (lo * P) 18446744073709551616
    rw [hlT2, ← hL] at this
    rw [hu, Nat.add_mul, ← this, Nat.add_mul]
    have : hi * 18446744073709551616 * P = hi * P * 18446744073709551616 := by grind
    omega
  obtain ⟨y1, hy1⟩ : ∃ y1, y1 = Y / 4294967296 := ⟨_, rfl⟩
  obtain ⟨y0, hy0⟩ : ∃ y0, y0 = Y % 4294967296 := ⟨_, rfl⟩
  obtain ⟨u1, hu1⟩ : ∃ u1, u1 = L / 4294967296 := ⟨_, rfl⟩
  obtain ⟨u0, hu0⟩ : ∃ u0, u0 = L % 4294967296 := ⟨_, rfl⟩
  have hyy0 : y1 * 4294967296 + y0 = Y := by omega
  have f1 : DF u u1 y1 y0 ((u * 4294967296 + u1) / Y) := ⟨by omega, by omega, by omega, by omega, by omega, by rw [hyy0]⟩
  have hRb : (u * 4294967296 + u1) % Y < Y := Nat.mod_lt _ (by omega)
  have f2 : DF ((u * 4294967296 + u1) % Y) u0 y1 y0 (((u * 4294967296 + u1) % Y * 4294967296 + u0) / Y) := ⟨by omega, by omega, by omega, by omega, by omega, by rw [hyy0]⟩
  have hq1 := f1.start.ha
  have hq2 := f2.start.ha
  have ht := two_digits u u1 u0 Y (by omega)
  have hsc := scaled (hi * 18446744073709551616 + lo) y P hP0
  rw [hN, ← hY, show L = u1 * 4294967296 + u0 by omega, ← ht.1, ← ht.2] at hsc
  have hQ1 : (u * 4294967296 + u1) / Y < 4294967296 := digit_small (u := u) (u1 := u1) (y1 := y1) (y0 := y0) (by omega) (by omega) (by rw [hyy0]; exact Nat.div_mul_le_self _ _)
  have hQ0 : ((u * 4294967296 + u1) % Y * 4294967296 + u0) / Y < 4294967296 := digit_small (u := (u * 4294967296 + u1) % Y) (y1 := y1) (y0 := y0) (u1 := u0) (by omega) (by omega) (by rw [hyy0]; exact Nat.div_mul_le_self _ _)
  have hR1 : u * 4294967296 + u1 - (u * 4294967296 + u1) / Y * Y = (u * 4294967296 + u1) % Y := sub_div_mul _ _
  have hle1 : (u * 4294967296 + u1) / Y * Y ≤ u * 4294967296 + u1 := Nat.div_mul_le_self _ _
  obtain ⟨R, hR⟩ : ∃ R, R = (u * 4294967296 + u1) % Y := ⟨_, rfl⟩
  obtain ⟨Q1, hQ1e⟩ : ∃ Q1, Q1 = (u * 4294967296 + u1) / Y := ⟨_, rfl⟩
  rw [← hR] at f2 hR1 hRb hq2 hQ0 hsc
  rw [← hQ1e] at f1 hR1 hle1 hQ1 hsc
  have hR2 : R * 4294967296 + u0 - (R * 4294967296 + u0) / Y * Y = (R * 4294967296 + u0) % Y := sub_div_mul _ _
  have hle2 : (R * 4294967296 + u0) / Y * Y ≤ R * 4294967296 + u0 := Nat.div_mul_le_self _ _
  have hSb : (R * 4294967296 + u0) % Y < Y := Nat.mod_lt _ (by omega)
  obtain ⟨Q0, hQ0e⟩ : ∃ Q0, Q0 = (R * 4294967296 + u0) / Y := ⟨_, rfl⟩
  rw [← hQ0e] at f2 hR2 hle2 hQ0 hsc
  have hm1 : u / y1 * y1 ≤ u := Nat.div_mul_le_self _ _
  have hm2 : R / y1 * y1 ≤ R := Nat.div_mul_le_self _ _
  have hd1 := Nat.div_add_mod u y1
  have hd2 := Nat.div_add_mod R y1
  rw [Nat.mul_comm] at hd1 hd2
  have c := div64_core hi lo y s (64 - s) Y y1 y0 u L u1 u0 (u / y1) (u / y1 * y1) (u % y1) R Q1 (R / y1) (R / y1 * y1) (R % y1) Q0 (Q1 * 4294967296 + Q0) ((R * 4294967296 + u0) % Y / 2 ^ s)
    ((u * 4294967296) % 18446744073709551616) (((u * 4294967296) % 18446744073709551616 + u1) % 18446744073709551616) (Q1 * Y % 18446744073709551616) (Q1 * 4294967296)
    ((R * 4294967296) % 18446744073709551616) (((R * 4294967296) % 18446744073709551616 + u0) % 18446744073709551616) (Q0 * Y % 18446744073709551616)
    h0 hl hyy (by omega) (by omega) rfl
    (by rw [show ((y : Int) * 2 ^ s) = ((y * P : Nat) : Int) by rw [hP]; simp, ← hY]; exact u64_nat _ (by omega)) (by omega) (by rw [hy0]; exact u64_and32 _ (by omega))
    (by
      have e1 : ((hi : Int) * 2 ^ s) = ((hi * P : Nat) : Int) := by rw [hP]; simp
      have e2 : (lo : Int) / 2 ^ (64 - s) = ((lo / T : Nat) : Int) := by rw [hT]; simp
      rw [e1, e2, u64_nat _ (by omega)]
      rw [bits_join .u64 64 (by decide) u64_wraps s ((hi * P : Nat) : Int) ((lo / T : Nat) : Int) (by omega) (by rw [hP]; simp) (by omega) (by omega) (by rw [show ((2 : Int) ^ s) = ((2 ^ s : Nat) : Int) by simp, ← hP]; omega) (by omega)]
      omega)
    (by rw [show ((lo : Int) * 2 ^ s) = ((lo * P : Nat) : Int) by rw [hP]; simp, hL]; exact u64_mod _) (by omega) (by rw [hu0]; exact u64_and32 _ (by omega))
    f1 (by rw [← Int.natCast_ediv]; exact u64_nat _ (by omega)) (by rw [← Int.natCast_mul]; exact u64_nat _ (by omega)) (by rw [show (u : Int) - ((u / y1 * y1 : Nat) : Int) = ((u % y1 : Nat) : Int) by omega]; exact u64_nat _ (by omega)) rfl rfl
    (by rw [show (u : Int) * 4294967296 = ((u * 4294967296 : Nat) : Int) by simp]; exact u64_mod _) (by rw [← Int.natCast_add]; exact u64_mod _) (by rw [← Int.natCast_mul]; exact u64_mod _) (by rw [left_wrap u u1 Q1 Y hle1 (by omega), hR1])
    f2 (by rw [← Int.natCast_ediv]; exact u64_nat _ (by omega)) (by rw [← Int.natCast_mul]; exact u64_nat _ (by omega)) (by rw [show (R : Int) - ((R / y1 * y1 : Nat) : Int) = ((R % y1 : Nat) : Int) by omega]; exact u64_nat _ (by omega)) rfl rfl
    (by rw [show (Q1 : Int) * 4294967296 = ((Q1 * 4294967296 : Nat) : Int) by simp]; exact u64_nat _ (by omega)) (by rw [← Int.natCast_add]; exact u64_nat _ (by omega))
    (by rw [show (R : Int) * 4294967296 = ((R * 4294967296 : Nat) : Int) by simp]; exact u64_mod _) (by rw [← Int.natCast_add]; exact u64_mod _) (by rw [← Int.natCast_mul]; exact u64_mod _) (by rw [left_wrap R u0 Q0 Y hle2 (by omega), hR2]; simp)
    w
  refine c.mono fun e w' h => ?_
  obtain ⟨h1, h2⟩ := h
  refine ⟨?_, h2⟩
  rw [h1, ← hsc.1, ← hsc.2, hP]

/-- All of it. -/
theorem div64 (hi lo y : Nat) (hl : hi < y) (hlo : lo ≤ 18446744073709551615) (hyy : y ≤ 18446744073709551615) (w : World) :
    Calls Try.prog 54 #[.int .u64 hi, .int .u64 lo, .int .u64 y] w fun e w' => e = .returned (.tuple #[.int .u64 (((hi * 18446744073709551616 + lo) / y : Nat) : Int), .int .u64 (((hi * 18446744073709551616 + lo) % y : Nat) : Int)]) ∧ ∃ n, w' = w.drewN n := by
  by_cases h0 : hi = 0
  · subst h0
    simpa using div64_0 lo y hl hlo hyy w
  · exact (div64_1 hi lo y (by omega) hl hlo hyy w).mono fun e w' h => ⟨h.1, 0, h.2⟩

end Go.Proofs.Ytopbhdpfakjkjaa.Num
