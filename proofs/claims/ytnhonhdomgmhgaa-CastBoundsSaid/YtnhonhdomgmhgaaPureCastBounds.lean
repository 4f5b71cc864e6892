/- Proved: what cast.Next tells lies between 0 and 2^40, elder numbers make no difference, and of numbers that are all alike it is that number, cut; for every input. -/
import Derived.Test.YtnhonhdomgmhgaaPCastBoundsx2
import Derived.Test.YtnhonhdomgmhgaaWSized
namespace Go.Proofs.Ytnhonhdomgmhgaa.PrintWords
/-- The name by which the printed row calls this law of the words. -/
abbrev sized_ints := @Go.Proofs.YtnhonhdomgmhgaaW.PrintWords.sized_ints
end Go.Proofs.Ytnhonhdomgmhgaa.PrintWords
namespace Go.Proofs.Ytnhonhdomgmhgaa.Pure
open Go.RowKit Go.Proofs.Ytnhonhdomgmhgaa.PCastBounds Go.Proofs.YtnhonhdomgmhgaaW.PrintWords Go.Proofs.YtnhonhdomgmhgaaW.PrintLast

/-- A number within its bounds. -/
def cl (x : Int) : Int := mx 0 (mn x 1099511627776)
theorem cl_lo (x : Int) : 0 ≤ cl x := by unfold cl mx mn; split <;> split <;> omega
theorem cl_hi (x : Int) : cl x ≤ 1099511627776 := by unfold cl mx mn; split <;> split <;> omega
theorem cl_in {x : Int} (h0 : 0 ≤ x) (h1 : x ≤ 1099511627776) : cl x = x := by unfold cl mx mn; split <;> split <;> omega
theorem w64 {x : Int} (h0 : -9223372036854775808 ≤ x) (h1 : x ≤ 9223372036854775807) : wrap64 x = x := by unfold wrap64; omega

def X : Nat → Int | 0 => 0 | i + 1 => X i + i
def XX : Nat → Int | 0 => 0 | i + 1 => XX i + (i : Int) * i
def Y (l : List Int) : Nat → Int | 0 => 0 | i + 1 => Y l i + cl (rd l i)
def XY (l : List Int) : Nat → Int | 0 => 0 | i + 1 => XY l i + (i : Int) * cl (rd l i)

theorem X_bd : ∀ i, i ≤ 8 → 0 ≤ X i ∧ X i ≤ 8 * i
  | 0, _ => by simp [X]
  | i + 1, h => by have := X_bd i (by omega); simp only [X]; omega
theorem XX_bd : ∀ i, i ≤ 8 → 0 ≤ XX i ∧ XX i ≤ 64 * i
  | 0, _ => by simp [XX]
  | i + 1, h => by
    have := XX_bd i (by omega)
    have h1 : 0 ≤ (i : Int) * i := Int.mul_nonneg (by omega) (by omega)
    have h2 : (i : Int) * i ≤ 8 * 8 := Int.mul_le_mul (by omega) (by omega) (by omega) (by omega)
    simp only [XX]; omega
theorem Y_bd (l : List Int) : ∀ i, i ≤ 8 → 0 ≤ Y l i ∧ Y l i ≤ 1099511627776 * i
  | 0, _ => by simp [Y]
  | i + 1, h => by have := Y_bd l i (by omega); have := cl_lo (rd l i); have := cl_hi (rd l i); simp only [Y]; omega
theorem icl_bd (i : Nat) (hi : i ≤ 8) (x : Int) : 0 ≤ (i : Int) * cl x ∧ (i : Int) * cl x ≤ 8796093022208 := by
  have h1 := cl_lo x
  have h2 := cl_hi x
  refine ⟨Int.mul_nonneg (by omega) h1, ?_⟩
  have : (i : Int) * cl x ≤ 8 * 1099511627776 := Int.mul_le_mul (by omega) h2 h1 (by omega)
  omega
theorem XY_bd (l : List Int) : ∀ i, i ≤ 8 → 0 ≤ XY l i ∧ XY l i ≤ 8796093022208 * i
  | 0, _ => by simp [XY]
  | i + 1, h => by have := XY_bd l i (by omega); have := icl_bd i (by omega) (rd l i); simp only [XY]; omega

/-- What comes next of n numbers, by their sum and their sum by places. -/
def G (n : Nat) (y xy : Int) : Int :=
  if n = 0 then 0 else if n = 1 then y else if 6 * xy - (2 * n - 2) * y < 0 then 0 else mn ((6 * xy - (2 * n - 2) * y) / (n * (n - 1))) 1099511627776
def nx (l : List Int) : Int := G l.length (Y l l.length) (XY l l.length)

theorem clamp_f (x : Int) : num_Clamp.f x 0 1099511627776 = some (cl x) := rfl

theorem tail_n (l : List Int) (k n : Nat) (hn : n ≤ 8) (h2 : 2 ≤ n) (y xy : Int) (y0 : 0 ≤ y) (y1 : y ≤ 8796093022208) (z0 : 0 ≤ xy) (z1 : xy ≤ 70368744177664) :
    cast_Next.l0 (k + 1) n (X n) y (XX n) xy l n n = some (G n y xy) := by
  simp only [cast_Next.l0]
  rw [if_neg (by omega), if_neg (by omega), if_neg (by omega)]
  have hc : n = 2 ∨ n = 3 ∨ n = 4 ∨ n = 5 ∨ n = 6 ∨ n = 7 ∨ n = 8 := by omega
  have key : ∀ (D E N : Int), N = n → wrap64 (wrap64 ((n : Int) * XX n) - wrap64 (X n * X n)) = D → wrap64 (wrap64 ((n : Int) * n) - X n) = E → 0 < D → 0 < E →
      D ≤ 336 → E ≤ 36 → X n ≤ 28 → 0 ≤ X n →
      (y * D + (N * xy - X n * y) * E < 0 ↔ 6 * xy - (2 * N - 2) * y < 0) →
      (0 ≤ y * D + (N * xy - X n * y) * E → (y * D + (N * xy - X n * y) * E) / (N * D) = (6 * xy - (2 * N - 2) * y) / (N * (N - 1))) →
      (if wrap64 (wrap64 (y * wrap64 (wrap64 ((n : Int) * XX n) - wrap64 (X n * X n))) + wrap64 (wrap64 (wrap64 ((n : Int) * xy) - wrap64 (X n * y)) * wrap64 (wrap64 ((n : Int) * n) - X n))) < 0 then some 0
        else if wrap64 ((n : Int) * wrap64 (wrap64 ((n : Int) * XX n) - wrap64 (X n * X n))) = 0 then none
        else (num_Clamp.f (wrap64 (Int.tdiv (wrap64 (wrap64 (y * wrap64 (wrap64 ((n : Int) * XX n) - wrap64 (X n * X n))) + wrap64 (wrap64 (wrap64 ((n : Int) * xy) - wrap64 (X n * y)) * wrap64 (wrap64 ((n : Int) * n) - X n)))) (wrap64 ((n : Int) * wrap64 (wrap64 ((n : Int) * XX n) - wrap64 (X n * X n)))))) 0 1099511627776).bind fun t108 => some t108) = some (G n y xy) := by
    intro D E N hN hD hE d0 e0 d1 e1 x1 x0 hs hq
    rw [hD, hE]
    subst hN
    have a1 : 0 ≤ (n : Int) * xy ∧ (n : Int) * xy ≤ 8 * 70368744177664 := ⟨Int.mul_nonneg (by omega) z0, Int.mul_le_mul (by omega) z1 z0 (by omega)⟩
    have a2 : 0 ≤ X n * y ∧ X n * y ≤ 28 * 8796093022208 := ⟨Int.mul_nonneg x0 y0, Int.mul_le_mul x1 y1 y0 (by omega)⟩
    have a3 : 0 ≤ y * D ∧ y * D ≤ 8796093022208 * 336 := ⟨Int.mul_nonneg y0 (by omega), Int.mul_le_mul y1 d1 (by omega) (by omega)⟩
    have a5 : 0 ≤ (n : Int) * D ∧ (n : Int) * D ≤ 8 * 336 := ⟨Int.mul_nonneg (by omega) (by omega), Int.mul_le_mul (by omega) d1 (by omega) (by omega)⟩
    have a6 : 0 < (n : Int) * D := Int.mul_pos (by omega) d0
    generalize hp : (n : Int) * xy = p at *
    generalize hr : X n * y = r at *
    have a4 : -(246290604621824 * 36) ≤ (p - r) * E ∧ (p - r) * E ≤ 562949953421312 * 36 := by
      constructor
      · have h1 : (r - p) * E ≤ 246290604621824 * 36 := by
          by_cases h : 0 ≤ r - p
          · exact Int.mul_le_mul (by omega) e1 (by omega) (by omega)
          · have : (r - p) * E ≤ 0 := Int.mul_nonpos_of_nonpos_of_nonneg (by omega) (by omega)
            omega
        have h2 : (p - r) * E = -((r - p) * E) := by rw [← Int.neg_mul]; congr 1; omega
        omega
      · by_cases h : 0 ≤ p - r
        · exact Int.mul_le_mul (by omega) e1 (by omega) (by omega)
        · have : (p - r) * E ≤ 0 := Int.mul_nonpos_of_nonpos_of_nonneg (by omega) (by omega)
          omega
    rw [w64 (x := p) (by omega) (by omega), w64 (x := r) (by omega) (by omega), w64 (x := p - r) (by omega) (by omega)]
    generalize hs1 : (p - r) * E = s1 at *
    generalize hs2 : y * D = s2 at *
    generalize hs3 : (n : Int) * D = s3 at *
    rw [w64 (x := s2) (by omega) (by omega), w64 (x := s1) (by omega) (by omega), w64 (x := s2 + s1) (by omega) (by omega), w64 (x := s3) (by omega) (by omega)]
    unfold G
    rw [if_neg (show ¬ n = 0 by omega), if_neg (show ¬ n = 1 by omega)]
    by_cases h : s2 + s1 < 0
    · rw [if_pos h, if_pos (hs.1 h)]
    · rw [if_neg h, if_neg (fun g => h (hs.2 g)), if_neg (show ¬ s3 = 0 by omega)]
      rw [Int.tdiv_eq_ediv_of_nonneg (by omega)]
      have hb : 0 ≤ (s2 + s1) / s3 := Int.ediv_nonneg (by omega) (by omega)
      have hb2 : (s2 + s1) / s3 ≤ s2 + s1 := Int.ediv_le_self _ (by omega)
      rw [w64 (by omega) (by omega), clamp_f]
      rw [← hq (by omega)]
      simp only [Option.bind_some, cl]
      congr 1
      unfold mx
      have : 0 ≤ mn ((s2 + s1) / s3) 1099511627776 := by unfold mn; split <;> omega
      split <;> omega
  rcases hc with rfl | rfl | rfl | rfl | rfl | rfl | rfl
  · exact key 1 3 2 rfl (by unfold wrap64; decide) (by unfold wrap64; decide) (by omega) (by omega) (by omega) (by omega) (by decide) (by decide) (by simp only [show X 2 = 1 from rfl]; omega) (by simp only [show X 2 = 1 from rfl]; omega)
  · exact key 6 6 3 rfl (by unfold wrap64; decide) (by unfold wrap64; decide) (by omega) (by omega) (by omega) (by omega) (by decide) (by decide) (by simp only [show X 3 = 3 from rfl]; omega) (by simp only [show X 3 = 3 from rfl]; omega)
  · exact key 20 10 4 rfl (by unfold wrap64; decide) (by unfold wrap64; decide) (by omega) (by omega) (by omega) (by omega) (by decide) (by decide) (by simp only [show X 4 = 6 from rfl]; omega) (by simp only [show X 4 = 6 from rfl]; omega)
  · exact key 50 15 5 rfl (by unfold wrap64; decide) (by unfold wrap64; decide) (by omega) (by omega) (by omega) (by omega) (by decide) (by decide) (by simp only [show X 5 = 10 from rfl]; omega) (by simp only [show X 5 = 10 from rfl]; omega)
  · exact key 105 21 6 rfl (by unfold wrap64; decide) (by unfold wrap64; decide) (by omega) (by omega) (by omega) (by omega) (by decide) (by decide) (by simp only [show X 6 = 15 from rfl]; omega) (by simp only [show X 6 = 15 from rfl]; omega)
  · exact key 196 28 7 rfl (by unfold wrap64; decide) (by unfold wrap64; decide) (by omega) (by omega) (by omega) (by omega) (by decide) (by decide) (by simp only [show X 7 = 21 from rfl]; omega) (by simp only [show X 7 = 21 from rfl]; omega)
  · exact key 336 36 8 rfl (by unfold wrap64; decide) (by unfold wrap64; decide) (by omega) (by omega) (by omega) (by omega) (by decide) (by decide) (by simp only [show X 8 = 28 from rfl]; omega) (by simp only [show X 8 = 28 from rfl]; omega)

theorem loop_n (l : List Int) (hl : l.length ≤ 8) : ∀ (d i k : Nat), i + d = l.length → d < k →
    cast_Next.l0 k l.length (X i) (Y l i) (XX i) (XY l i) l l.length i = some (nx l) := by
  intro d
  induction d with
  | zero =>
    intro i k hi hk
    obtain ⟨k, rfl⟩ : ∃ m, k = m + 1 := ⟨k - 1, by omega⟩
    obtain rfl : i = l.length := by omega
    by_cases h2 : 2 ≤ l.length
    · have := Y_bd l l.length hl
      have := XY_bd l l.length hl
      exact tail_n l k l.length hl h2 _ _ (by omega) (by omega) (by omega) (by omega)
    · simp only [cast_Next.l0]
      rw [if_neg (by omega)]
      by_cases h0 : l.length = 0
      · rw [if_pos (by omega)]; unfold nx G; rw [if_pos h0]
      · rw [if_neg (by omega), if_pos (by omega)]; unfold nx G; rw [if_neg h0, if_pos (show l.length = 1 by omega)]
  | succ d ih =>
    intro i k hi hk
    obtain ⟨k, rfl⟩ : ∃ m, k = m + 1 := ⟨k - 1, by omega⟩
    have b1 := X_bd i (by omega)
    have b2 := XX_bd i (by omega)
    have b3 := Y_bd l i (by omega)
    have b4 := XY_bd l i (by omega)
    have b5 := icl_bd i (by omega) (rd l i)
    have b6 := cl_lo (rd l i)
    have b7 := cl_hi (rd l i)
    have b8 : 0 ≤ (i : Int) * i := Int.mul_nonneg (by omega) (by omega)
    have b9 : (i : Int) * i ≤ 8 * 8 := Int.mul_le_mul (by omega) (by omega) (by omega) (by omega)
    simp only [cast_Next.l0]
    rw [if_pos (by omega), if_pos (by omega), if_pos (by omega), clamp_f]
    simp only [Option.bind_some]
    rw [w64 (x := X i + i) (by omega) (by omega), w64 (x := Y l i + cl (rd l i)) (by omega) (by omega), w64 (x := (i : Int) * i) (by omega) (by omega), w64 (x := XX i + (i : Int) * i) (by omega) (by omega),
      w64 (x := (i : Int) * cl (rd l i)) (by omega) (by omega), w64 (x := XY l i + (i : Int) * cl (rd l i)) (by omega) (by omega), w64 (x := (i : Int) + 1) (by omega) (by omega)]
    exact ih (i + 1) k (by omega) (by omega)

/-- The last eight. -/
def last8 (l : List Int) : List Int := l.drop (l.length - 8)
theorem last8_len (l : List Int) : (last8 l).length ≤ 8 := by unfold last8; rw [List.length_drop]; omega
theorem last8_small {l : List Int} (h : l.length ≤ 8) : last8 l = l := by unfold last8; rw [show l.length - 8 = 0 by omega]; rfl

theorem next_f (l : List Int) (hl : l.length ≤ 1000) (k : Nat) (hk : 12 ≤ k) : cast_Next.f k l = some (nx (last8 l)) := by
  obtain ⟨k, rfl⟩ : ∃ m, k = m + 1 := ⟨k - 1, by omega⟩
  have hj : ∀ m : List Int, m.length ≤ 8 → cast_Next.j0 (k + 1) m = some (nx m) := by
    intro m hm
    simp only [cast_Next.j0]
    exact loop_n m hm m.length 0 k (by omega) (by omega)
  unfold cast_Next.f
  by_cases h : (l.length : Int) > 8
  · rw [if_pos h, w64 (by omega) (by omega), if_pos (by omega), if_pos (by omega)]
    rw [show (((l.length : Int) - 8)).toNat = l.length - 8 by omega]
    exact hj _ (last8_len l)
  · rw [if_neg h, hj l (by omega), last8_small (by omega)]

theorem head_f (k : Nat) (hk : 12 ≤ k) : greenhouselaw06_head.f k = some true := by
  unfold greenhouselaw06_head.f
  rw [next_f _ (by decide) k hk, next_f _ (by decide) k hk, next_f _ (by decide) k hk]
  decide

theorem i64_mask (n m : Int) (j : Nat) (h : (BitVec.ofInt 64 m).toNat = 2 ^ j - 1) : Go.bits .and .i64 n m = IntKind.i64.wrap (((n % ((2 ^ 64 : Nat) : Int)).toNat % 2 ^ j : Nat) : Int) := by
  have key : (BitVec.ofInt 64 n &&& BitVec.ofInt 64 m).toNat = (n % ((2 ^ 64 : Nat) : Int)).toNat % 2 ^ j := by
    rw [BitVec.toNat_and, BitVec.toNat_ofInt, h, Nat.and_two_pow_sub_one_eq_mod]
  show IntKind.i64.wrap ((BitVec.ofInt 64 n &&& BitVec.ofInt 64 m).toNat : Nat) = _
  rw [key]
theorem and_7 (n : Int) : Go.bits .and .i64 n 7 = n % 8 := by rw [i64_mask n 7 3 (by decide), IntKind.wrap_i64]; omega
theorem and_u32 (n : Int) : Go.bits .and .i64 n 4294967295 = n % 4294967296 := by rw [i64_mask n 4294967295 32 (by decide), IntKind.wrap_i64]; omega
theorem and_u24 (n : Int) : Go.bits .and .i64 n 16777215 = n % 16777216 := by rw [i64_mask n 16777215 24 (by decide), IntKind.wrap_i64]; omega
theorem and_u16 (n : Int) : Go.bits .and .i64 n 65535 = n % 65536 := by rw [i64_mask n 65535 16 (by decide), IntKind.wrap_i64]; omega

theorem cut_f (x : Int) : greenhouselaw06_cut.f x = some (cl x) := by
  unfold greenhouselaw06_cut.f cl mx mn
  repeat' split
  all_goals first | rfl | (congr 1; omega) | omega

theorem nx_bd (l : List Int) (hl : l.length ≤ 8) : 0 ≤ nx l ∧ nx l ≤ 1099511627776 := by
  have h1 := Y_bd l l.length hl
  unfold nx G
  split
  · omega
  · split
    · next h => rw [h] at h1; rw [h]; omega
    · split
      · omega
      · next h =>
        have a2 : 0 < (l.length : Int) * ((l.length : Int) - 1) := Int.mul_pos (by omega) (by omega)
        have := Int.ediv_nonneg (show 0 ≤ 6 * XY l l.length - (2 * l.length - 2) * Y l l.length by omega) (Int.le_of_lt a2)
        unfold mn; split <;> omega

theorem last8_append (a l : List Int) (h : 8 ≤ l.length) : last8 (a ++ l) = last8 l := by
  unfold last8
  rw [List.length_append, show a.length + l.length - 8 = a.length + (l.length - 8) by omega, List.drop_append, List.drop_of_length_le (by omega)]
  simp

def reps (x : Int) (n : Nat) : List Int := List.replicate n x
theorem rd_reps (x : Int) (n i : Nat) (h : i < n) : rd (reps x n) i = x := by
  unfold rd reps
  rw [Int.toNat_natCast, List.getD_eq_getElem?_getD, List.getElem?_replicate, if_pos h]; rfl
theorem Y_reps (x : Int) (n : Nat) : ∀ i, i ≤ n → Y (reps x n) i = i * cl x
  | 0, _ => by simp [Y]
  | i + 1, h => by simp only [Y]; rw [Y_reps x n i (by omega), rd_reps x n i (by omega)]; grind
theorem XY_reps (x : Int) (n : Nat) : ∀ i, i ≤ n → XY (reps x n) i = X i * cl x
  | 0, _ => by simp [XY, X]
  | i + 1, h => by simp only [XY, X]; rw [XY_reps x n i (by omega), rd_reps x n i (by omega)]; grind
theorem nx_reps (x : Int) (n : Nat) (h1 : 1 ≤ n) (h8 : n ≤ 8) : nx (reps x n) = cl x := by
  unfold nx
  have hl : (reps x n).length = n := by simp [reps]
  rw [hl, Y_reps x n n (by omega), XY_reps x n n (by omega)]
  have := cl_lo x
  have := cl_hi x
  generalize cl x = c at *
  have hc : n = 1 ∨ n = 2 ∨ n = 3 ∨ n = 4 ∨ n = 5 ∨ n = 6 ∨ n = 7 ∨ n = 8 := by omega
  rcases hc with rfl | rfl | rfl | rfl | rfl | rfl | rfl | rfl <;> simp [G, X] <;> unfold mn <;> (try split) <;> omega

theorem same_loop (x n : Int) (h : 0 ≤ Go.bits .and .i64 n 7 ∧ Go.bits .and .i64 n 7 ≤ 7) : ∀ (d i k : Nat), (i : Int) + d = 1 + Go.bits .and .i64 n 7 → d + 20 < k →
    greenhouselaw06_CastBounds.l0 k x n (reps x i) i = some true := by
  intro d
  induction d with
  | zero =>
    intro i k hi hk
    obtain ⟨k, rfl⟩ : ∃ m, k = m + 1 := ⟨k - 1, by omega⟩
    simp only [greenhouselaw06_CastBounds.l0]
    rw [w64 (by omega) (by omega), if_neg (by omega)]
    have hl : (reps x i).length = i := by simp [reps]
    rw [next_f _ (by omega) k (by omega), last8_small (by omega), nx_reps x i (by omega) (by omega), cut_f]
    simp
  | succ d ih =>
    intro i k hi hk
    obtain ⟨k, rfl⟩ : ∃ m, k = m + 1 := ⟨k - 1, by omega⟩
    have hl : (reps x i).length = i := by simp [reps]
    simp only [greenhouselaw06_CastBounds.l0]
    rw [w64 (by omega) (by omega), if_pos (by omega), if_pos (by omega), w64 (by omega) (by omega)]
    have e : reps x i ++ [x] = reps x (i + 1) := by unfold reps; rw [List.replicate_succ']
    rw [e]
    exact ih (i + 1) k (by omega) (by omega)

theorem and7 (n : Int) : 0 ≤ Go.bits .and .i64 n 7 ∧ Go.bits .and .i64 n 7 ≤ 7 := by rw [and_7]; omega

theorem CastBounds : greenhouselaw06_CastBounds.Pure := by
  intro l e x n _ _ _ _ _ _ _ _
  refine ⟨60, ?_⟩
  unfold greenhouselaw06_CastBounds.f
  rw [head_f 60 (by omega)]
  simp only [Option.bind_some, if_true]
  have hj : ∀ k, 40 ≤ k → greenhouselaw06_CastBounds.j2 k x n false = some true := by
    intro k hk
    obtain ⟨k, rfl⟩ : ∃ m, k = m + 1 := ⟨k - 1, by omega⟩
    simp only [greenhouselaw06_CastBounds.j2]
    rw [if_neg (by simp)]
    have := and7 n
    obtain ⟨d, hd⟩ : ∃ d : Nat, (d : Int) = 1 + Go.bits .and .i64 n 7 := ⟨(1 + Go.bits .and .i64 n 7).toNat, by omega⟩
    exact same_loop x n this d 0 k (by omega) (by omega)
  by_cases h1 : (l.length : Int) > 30
  · rw [if_pos h1]; simp [greenhouselaw06_CastBounds.j0]
  · rw [if_neg h1]
    by_cases h2 : (e.length : Int) > 30
    · simp [greenhouselaw06_CastBounds.j0, h2]
    · rw [show decide ((e.length : Int) > 30) = false by simp [h2]]
      simp only [greenhouselaw06_CastBounds.j0]
      rw [if_neg (by simp), next_f l (by omega) 59 (by omega)]
      simp only [Option.bind_some]
      have hb := nx_bd (last8 l) (last8_len l)
      rw [if_neg (by omega), show decide (nx (last8 l) > 1099511627776) = false by simp; omega]
      simp only [greenhouselaw06_CastBounds.j1]
      rw [if_neg (by simp)]
      by_cases h3 : (l.length : Int) ≥ 8
      · rw [if_pos h3]
        simp only [Option.bind_some, List.length_nil, List.nil_append]
        rw [if_pos (by omega), if_pos (by omega), next_f _ (by rw [List.length_append]; omega) 58 (by omega), last8_append e l (by omega)]
        simp only [Option.bind_some, bne_self_eq_false]
        exact hj 58 (by omega)
      · rw [if_neg h3]
        exact hj 58 (by omega)

end Go.Proofs.Ytnhonhdomgmhgaa.Pure
