/- Proved: Knuth's division of 128 bits by 64 bits, digit by digit, in plain numbers: what each of the two loops of bits.Div64 keeps, and that the two digits are the quotient. No program is named here. -/
namespace Go.Proofs.Ytopbhdpfakjkjaa.Num

/-- One digit: u = q * y1 + r is known, and the true digit is q or less. -/
structure Digit (u u1 y1 y0 q r : Nat) : Prop where
  eq : u = q * y1 + r
  lt : u * 4294967296 + u1 < (q + 1) * (y1 * 4294967296 + y0)

theorem digit_start {u u1 y1 y0 : Nat} (hy : 0 < y1) (h1 : u1 < 4294967296) : Digit u u1 y1 y0 (u / y1) (u % y1) := by
  have h := Nat.div_add_mod u y1
  have hr := Nat.mod_lt u hy
  refine ⟨by rw [Nat.mul_comm]; exact h.symm, ?_⟩
  generalize u / y1 = q at *
  generalize u % y1 = r at *
  have e : u = q * y1 + r := by rw [Nat.mul_comm]; exact h.symm
  have e1 : (q + 1) * (y1 * 4294967296 + y0) = q * y1 * 4294967296 + y1 * 4294967296 + (q + 1) * y0 := by grind
  rw [e1, e]
  clear h e e1
  generalize q * y1 = p
  generalize (q + 1) * y0 = t
  omega

theorem digit_test {u u1 y1 y0 q r : Nat} (d : Digit u u1 y1 y0 q r) : q * (y1 * 4294967296 + y0) ≤ u * 4294967296 + u1 ↔ q * y0 ≤ 4294967296 * r + u1 := by
  have e := d.eq
  have e1 : q * (y1 * 4294967296 + y0) = q * y1 * 4294967296 + q * y0 := by grind
  have e2 : u * 4294967296 = q * y1 * 4294967296 + r * 4294967296 := by rw [e]; grind
  omega

theorem digit_next {u u1 y1 y0 q r : Nat} (d : Digit u u1 y1 y0 q r) (hq : 1 ≤ q) (h : u * 4294967296 + u1 < q * (y1 * 4294967296 + y0)) : Digit u u1 y1 y0 (q - 1) (r + y1) := by
  obtain ⟨q, rfl⟩ : ∃ k, q = k + 1 := ⟨q - 1, by omega⟩
  refine ⟨?_, by simpa using h⟩
  have e := d.eq
  rw [e, Nat.add_sub_cancel]
  grind

/-- What a digit's remainder is. -/
theorem digit_done {u u1 y1 y0 q r : Nat} (d : Digit u u1 y1 y0 q r) (h : q * (y1 * 4294967296 + y0) ≤ u * 4294967296 + u1) : q = (u * 4294967296 + u1) / (y1 * 4294967296 + y0) := by
  refine ((Nat.div_eq_of_lt_le ?_ ?_)).symm
  · exact h
  · exact d.lt

/-- A digit is below 2^32 where u is below y. -/
theorem digit_small {u u1 y1 y0 q : Nat} (hu : u < y1 * 4294967296 + y0) (h1 : u1 < 4294967296) (h : q * (y1 * 4294967296 + y0) ≤ u * 4294967296 + u1) : q < 4294967296 := by
  rcases Nat.lt_or_ge q 4294967296 with h' | h'
  · exact h'
  · have := Nat.mul_le_mul_right (y1 * 4294967296 + y0) h'
    omega

theorem first_small {u y1 y0 : Nat} (hu : u < y1 * 4294967296 + y0) (hy : 2147483648 ≤ y1) (h0 : y0 < 4294967296) : u / y1 ≤ 4294967297 := by
  have : u < 4294967298 * y1 := by omega
  have := (Nat.div_lt_iff_lt_mul (show 0 < y1 by omega)).2 this
  omega

/-- The two digits of a quotient. -/
theorem two_digits (u u1 u0 y : Nat) (hy : 0 < y) :
    ((u * 4294967296 + u1) / y) * 4294967296 + ((u * 4294967296 + u1) % y * 4294967296 + u0) / y = (u * 18446744073709551616 + (u1 * 4294967296 + u0)) / y ∧
    ((u * 4294967296 + u1) % y * 4294967296 + u0) % y = (u * 18446744073709551616 + (u1 * 4294967296 + u0)) % y := by
  have e : u * 18446744073709551616 + (u1 * 4294967296 + u0) = y * (((u * 4294967296 + u1) / y) * 4294967296) + ((u * 4294967296 + u1) % y * 4294967296 + u0) := by
    have h := Nat.div_add_mod (u * 4294967296 + u1) y
    generalize (u * 4294967296 + u1) / y = q at *
    generalize (u * 4294967296 + u1) % y = r at *
    have e1 : u * 18446744073709551616 + (u1 * 4294967296 + u0) = (u * 4294967296 + u1) * 4294967296 + u0 := by omega
    rw [e1, ← h]
    grind
  rw [e, Nat.mul_add_div hy, Nat.mul_add_mod]
  exact ⟨rfl, rfl⟩

/-- A quotient and a remainder of both sides times so much. -/
theorem scaled (n y p : Nat) (hp : 0 < p) : (n * p) / (y * p) = n / y ∧ (n * p) % (y * p) / p = n % y := by
  refine ⟨Nat.mul_div_mul_right _ _ hp, ?_⟩
  rw [Nat.mul_mod_mul_right, Nat.mul_div_cancel _ hp]

end Go.Proofs.Ytopbhdpfakjkjaa.Num
