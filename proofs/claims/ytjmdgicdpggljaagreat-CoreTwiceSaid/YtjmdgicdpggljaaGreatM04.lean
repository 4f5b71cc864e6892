/- Proved: what cast.Next, and the law's own Next and Last, answer of whatever numbers. -/
import Derived.Test.YtjmdgicdpggljaaGreatM03
import Derived.Test.YtjmdgicdpggljaaGreatM01
set_option linter.all false
namespace Go.Proofs.YtjmdgicdpggljaaGreat.Cast
open Go.RowKit Go.Proofs.YtjmdgicdpggljaaGreat.Histo Go.Proofs.YtjmdgicdpggljaaGreat.Ring
set_option linter.unusedVariables false

/-- A number within its bounds. -/
def cl (x : Int) : Int := max 0 (min x 1099511627776)
theorem cl_lo (x : Int) : 0 ≤ cl x := by unfold cl; omega
theorem cl_hi (x : Int) : cl x ≤ 1099511627776 := by unfold cl; omega
theorem cl_in {x : Int} (h0 : 0 ≤ x) (h1 : x ≤ 1099511627776) : cl x = x := by unfold cl; omega
def rd (l : List Int) (i : Nat) : Int := l.getD i 0
def X : Nat → Int | 0 => 0 | i + 1 => X i + i
def XX : Nat → Int | 0 => 0 | i + 1 => XX i + (i : Int) * i
def Y (l : List Int) : Nat → Int | 0 => 0 | i + 1 => Y l i + cl (rd l i)
def XY (l : List Int) : Nat → Int | 0 => 0 | i + 1 => XY l i + (i : Int) * cl (rd l i)
theorem X_bd : ∀ i, i ≤ 8 → 0 ≤ X i ∧ X i ≤ 8 * i
  | 0, _ => by simp [X]
  | i + 1, h => by have := X_bd i (by omega); simp only [X]; omega
theorem XX_bd : ∀ i, i ≤ 8 → 0 ≤ XX i ∧ XX i ≤ 64 * i
  | 0, _ => by simp [XX]
  | i + 1, h => by
    have := XX_bd i (by omega)
    have h1 : 0 ≤ (i : Int) * i := Int.mul_nonneg (by omega) (by omega)
    have h2 : (i : Int) * i ≤ 8 * 8 := Int.mul_le_mul (by omega) (by omega) (by omega) (by omega)
    simp only [XX]; omega
theorem Y_bd (l : List Int) : ∀ i, i ≤ 8 → 0 ≤ Y l i ∧ Y l i ≤ 1099511627776 * i
  | 0, _ => by simp [Y]
  | i + 1, h => by have := Y_bd l i (by omega); have := cl_lo (rd l i); have := cl_hi (rd l i); simp only [Y]; omega
theorem icl_bd (i : Nat) (hi : i ≤ 8) (x : Int) : 0 ≤ (i : Int) * cl x ∧ (i : Int) * cl x ≤ 8796093022208 := by
  have h1 := cl_lo x
  have h2 := cl_hi x
  refine ⟨Int.mul_nonneg (by omega) h1, ?_⟩
  have : (i : Int) * cl x ≤ 8 * 1099511627776 := Int.mul_le_mul (by omega) h2 h1 (by omega)
  omega
theorem XY_bd (l : List Int) : ∀ i, i ≤ 8 → 0 ≤ XY l i ∧ XY l i ≤ 8796093022208 * i
  | 0, _ => by simp [XY]
  | i + 1, h => by have := XY_bd l i (by omega); have := icl_bd i (by omega) (rd l i); simp only [XY]; omega
/-- What comes next of n numbers, by their sum and their sum by places. -/
def G (n : Nat) (y xy : Int) : Int :=
  if n = 0 then 0 else if n = 1 then y else if 6 * xy - (2 * n - 2) * y < 0 then 0 else min ((6 * xy - (2 * n - 2) * y) / (n * (n - 1))) 1099511627776
def nx (l : List Int) : Int := G l.length (Y l l.length) (XY l l.length)
theorem last8_len (l : List Int) : (last8 l).length ≤ 8 := by unfold last8; rw [List.length_drop]; omega
theorem last8_small {l : List Int} (h : l.length ≤ 8) : last8 l = l := by unfold last8; rw [show l.length - 8 = 0 by omega]; rfl
theorem last8_big {l : List Int} (h : 8 < l.length) : (last8 l).length = 8 := by unfold last8; rw [List.length_drop]; omega
theorem last8_get {l : List Int} (_h : 8 < l.length) (j : Nat) : (last8 l).getD j 0 = l.getD (l.length - 8 + j) 0 := by
  unfold last8
  rw [List.getD_eq_getElem?_getD, List.getElem?_drop, List.getD_eq_getElem?_getD]
theorem nx_bd (l : List Int) (hl : l.length ≤ 8) : 0 ≤ nx l ∧ nx l ≤ 1099511627776 := by
  unfold nx G
  have h1 := Y_bd l l.length hl
  by_cases h0 : l.length = 0
  · rw [if_pos h0]; omega
  · rw [if_neg h0]
    by_cases h1' : l.length = 1
    · rw [if_pos h1']
      rw [h1'] at h1 ⊢
      omega
    · rw [if_neg h1']
      split
      · omega
      · have : 0 ≤ (6 * XY l l.length - (2 * l.length - 2) * Y l l.length) / ((l.length : Int) * (l.length - 1)) := Int.ediv_nonneg (by omega) (Int.mul_nonneg (by omega) (by omega))
        omega
theorem RetI.mk {r r' : Int} {w w' : World} (h : r' = r) (hw : ∃ n, w' = w.drewN n) : RetI r w (.returned (.int .i64 r')) w' := by subst h; exact ⟨rfl, hw⟩
/-- Numbers that lie one behind the other. -/
def Nums (w : World) (b off : Nat) (l : List Int) : Prop := ∀ j, j < l.length → w.cell? ⟨b, off + j, none⟩ = some (.int .i64 (rd l j))

def Z (l : List Int) (n : Int) : Nat → Int | 0 => 0 | i + 1 => Z l n i + cl (rd l i) * (6 * i - 2 * n + 2)
theorem Z_eq (l : List Int) (n : Int) : ∀ i, Z l n i = 6 * XY l i - (2 * n - 2) * Y l i
  | 0 => by simp [Z, XY, Y]
  | i + 1 => by
    have h := Z_eq l n i
    simp only [Z, XY, Y]
    rw [h]
    grind
theorem term_bd (l : List Int) (n i : Nat) (hn : n ≤ 8) (hi : i < n) : -(1099511627776 * 48) ≤ cl (rd l i) * (6 * (i : Int) - 2 * n + 2) ∧ cl (rd l i) * (6 * (i : Int) - 2 * n + 2) ≤ 1099511627776 * 48 := by
  have b6 := cl_lo (rd l i)
  have b7 := cl_hi (rd l i)
  constructor
  · have e : cl (rd l i) * (6 * (i : Int) - 2 * n + 2) = -(cl (rd l i) * (2 * n - 2 - 6 * (i : Int))) := by grind
    rw [e]
    by_cases h : (0 : Int) ≤ 2 * n - 2 - 6 * i
    · have := Int.mul_le_mul b7 (show (2 * (n : Int) - 2 - 6 * i) ≤ 48 by omega) h (by omega)
      omega
    · have : cl (rd l i) * (2 * n - 2 - 6 * i) ≤ 0 := Int.mul_nonpos_of_nonneg_of_nonpos b6 (by omega)
      omega
  · by_cases h : (0 : Int) ≤ 6 * i - 2 * n + 2
    · exact Int.mul_le_mul b7 (by omega) h (by omega)
    · have : cl (rd l i) * (6 * i - 2 * n + 2) ≤ 0 := Int.mul_nonpos_of_nonneg_of_nonpos b6 (by omega)
      omega
theorem Z_bd (l : List Int) (n : Nat) (hn : n ≤ 8) : ∀ i, i ≤ n → -(1099511627776 * 48 * i) ≤ Z l n i ∧ Z l n i ≤ 1099511627776 * 48 * i
  | 0, _ => by simp [Z]
  | i + 1, h => by have := Z_bd l n hn i (by omega); have := term_bd l n i hn (by omega); simp only [Z]; omega

/-- An equation of numbers, and what wrapping leaves of it. -/
structure R (a b : Int) : Prop where
  e : a = b
  i : IntKind.i64.wrap a = b
  w : wrap64 a = b
  v : wrap64 b = b
theorem R.of {a b : Int} (h : a = b) (h0 : -4611686018427387904 ≤ b) (h1 : b ≤ 4611686018427387904) : R a b :=
  ⟨h, by rw [h]; exact IntWalk.i64_in _ ⟨by omega, by omega⟩, by rw [h]; exact IntWalk.wrap64_in _ ⟨by omega, by omega⟩, IntWalk.wrap64_in _ ⟨by omega, by omega⟩⟩
theorem quo (up s3 : Int) (h : 0 ≤ up) (h3 : 0 < s3) (hu : up ≤ 4611686018427387904) : ∃ q, q = up / s3 ∧ up / s3 = q ∧ up.tdiv s3 = q ∧ wrap64 q = q ∧ IntKind.i64.wrap q = q := by
  have h0 : 0 ≤ up / s3 := Int.ediv_nonneg h (by omega)
  have h1 : up / s3 ≤ up := Int.ediv_le_self _ h
  exact ⟨_, rfl, rfl, Int.tdiv_eq_ediv_of_nonneg h, IntWalk.wrap64_in _ ⟨by omega, by omega⟩, IntWalk.i64_in _ ⟨by omega, by omega⟩⟩
structure Step (l : List Int) (k : Nat) (c kk kc : Int) : Prop where
  r1 : R (X k + k) (X (k + 1))
  r2 : R (Y l k + c) (Y l (k + 1))
  r3 : R ((k : Int) * k) kk
  r4 : R (XX k + kk) (XX (k + 1))
  r5 : R ((k : Int) * c) kc
  r6 : R (XY l k + kc) (XY l (k + 1))
theorem step (l : List Int) (k : Nat) (hk : k < 8) : Step l k (cl (rd l k)) ((k : Int) * k) ((k : Int) * cl (rd l k)) := by
  have bx2 := X_bd (k + 1) (by omega)
  have bxx2 := XX_bd (k + 1) (by omega)
  have by2 := Y_bd l (k + 1) (by omega)
  have bz2 := XY_bd l (k + 1) (by omega)
  have bi := icl_bd k (by omega) (rd l k)
  have kk0 : 0 ≤ (k : Int) * k := Int.mul_nonneg (by omega) (by omega)
  have kk1 : (k : Int) * k ≤ 8 * 8 := Int.mul_le_mul (by omega) (by omega) (by omega) (by omega)
  exact ⟨R.of rfl (by omega) (by omega), R.of rfl (by omega) (by omega), R.of rfl (by omega) (by omega), R.of rfl (by omega) (by omega), R.of rfl (by omega) (by omega), R.of rfl (by omega) (by omega)⟩
structure Tail (n : Nat) (y z p1 p2 d s2 q1 q2 q3 p3 e s1 up s3 : Int) : Prop where
  e1 : R ((n : Int) * XX n) p1
  e2 : R (X n * X n) p2
  e3 : R (p1 - p2) d
  e4 : R (y * d) s2
  e5 : R ((n : Int) * z) q1
  e6 : R (X n * y) q2
  e7 : R (q1 - q2) q3
  e8 : R ((n : Int) * n) p3
  e9 : R (p3 - X n) e
  e10 : R (q3 * e) s1
  e11 : R (s2 + s1) up
  e12 : R ((n : Int) * d) s3
  s0 : 0 < s3
  u1 : up ≤ 4611686018427387904
  neg : up < 0 → G n y z = 0
  pos : 0 ≤ up → cl (up / s3) = G n y z
theorem tail (n : Nat) (h2 : 2 ≤ n) (h8 : n ≤ 8) (y z : Int) (y0 : 0 ≤ y) (y1 : y ≤ 8796093022208) (z0 : 0 ≤ z) (z1 : z ≤ 70368744177664) : ∃ p1 p2 d s2 q1 q2 q3 p3 e s1 up s3, Tail n y z p1 p2 d s2 q1 q2 q3 p3 e s1 up s3 := by
  have hc : n = 2 ∨ n = 3 ∨ n = 4 ∨ n = 5 ∨ n = 6 ∨ n = 7 ∨ n = 8 := by omega
  rcases hc with rfl | rfl | rfl | rfl | rfl | rfl | rfl
  · have x1 : X 2 = 1 := rfl
    have x2 : XX 2 = 1 := rfl
    refine ⟨2, 1, 1, y * 1, 2 * z, 1 * y, 2 * z - 1 * y, 4, 3, (2 * z - 1 * y) * 3, y * 1 + (2 * z - 1 * y) * 3, 2, ?_⟩
    refine ⟨R.of (by rw [x2]; rfl) (by decide) (by decide), R.of (by rw [x1]; rfl) (by decide) (by decide), R.of rfl (by decide) (by decide), R.of rfl (by omega) (by omega), R.of rfl (by omega) (by omega), R.of (by rw [x1]) (by omega) (by omega), R.of rfl (by omega) (by omega), R.of rfl (by decide) (by decide), R.of (by rw [x1]; rfl) (by decide) (by decide), R.of rfl (by omega) (by omega), R.of rfl (by omega) (by omega), R.of rfl (by decide) (by decide), by decide, by omega, ?_, ?_⟩
    · intro h; unfold G; rw [if_neg (by decide), if_neg (by decide), if_pos (by omega)]
    · intro h; unfold G; rw [if_neg (by decide), if_neg (by decide), if_neg (by omega)]; unfold cl; omega
  · have x1 : X 3 = 3 := rfl
    have x2 : XX 3 = 5 := rfl
    refine ⟨15, 9, 6, y * 6, 3 * z, 3 * y, 3 * z - 3 * y, 9, 6, (3 * z - 3 * y) * 6, y * 6 + (3 * z - 3 * y) * 6, 18, ?_⟩
    refine ⟨R.of (by rw [x2]; rfl) (by decide) (by decide), R.of (by rw [x1]; rfl) (by decide) (by decide), R.of rfl (by decide) (by decide), R.of rfl (by omega) (by omega), R.of rfl (by omega) (by omega), R.of (by rw [x1]) (by omega) (by omega), R.of rfl (by omega) (by omega), R.of rfl (by decide) (by decide), R.of (by rw [x1]; rfl) (by decide) (by decide), R.of rfl (by omega) (by omega), R.of rfl (by omega) (by omega), R.of rfl (by decide) (by decide), by decide, by omega, ?_, ?_⟩
    · intro h; unfold G; rw [if_neg (by decide), if_neg (by decide), if_pos (by omega)]
    · intro h; unfold G; rw [if_neg (by decide), if_neg (by decide), if_neg (by omega)]; unfold cl; omega
  · have x1 : X 4 = 6 := rfl
    have x2 : XX 4 = 14 := rfl
    refine ⟨56, 36, 20, y * 20, 4 * z, 6 * y, 4 * z - 6 * y, 16, 10, (4 * z - 6 * y) * 10, y * 20 + (4 * z - 6 * y) * 10, 80, ?_⟩
    refine ⟨R.of (by rw [x2]; rfl) (by decide) (by decide), R.of (by rw [x1]; rfl) (by decide) (by decide), R.of rfl (by decide) (by decide), R.of rfl (by omega) (by omega), R.of rfl (by omega) (by omega), R.of (by rw [x1]) (by omega) (by omega), R.of rfl (by omega) (by omega), R.of rfl (by decide) (by decide), R.of (by rw [x1]; rfl) (by decide) (by decide), R.of rfl (by omega) (by omega), R.of rfl (by omega) (by omega), R.of rfl (by decide) (by decide), by decide, by omega, ?_, ?_⟩
    · intro h; unfold G; rw [if_neg (by decide), if_neg (by decide), if_pos (by omega)]
    · intro h; unfold G; rw [if_neg (by decide), if_neg (by decide), if_neg (by omega)]; unfold cl; omega
  · have x1 : X 5 = 10 := rfl
    have x2 : XX 5 = 30 := rfl
    refine ⟨150, 100, 50, y * 50, 5 * z, 10 * y, 5 * z - 10 * y, 25, 15, (5 * z - 10 * y) * 15, y * 50 + (5 * z - 10 * y) * 15, 250, ?_⟩
    refine ⟨R.of (by rw [x2]; rfl) (by decide) (by decide), R.of (by rw [x1]; rfl) (by decide) (by decide), R.of rfl (by decide) (by decide), R.of rfl (by omega) (by omega), R.of rfl (by omega) (by omega), R.of (by rw [x1]) (by omega) (by omega), R.of rfl (by omega) (by omega), R.of rfl (by decide) (by decide), R.of (by rw [x1]; rfl) (by decide) (by decide), R.of rfl (by omega) (by omega), R.of rfl (by omega) (by omega), R.of rfl (by decide) (by decide), by decide, by omega, ?_, ?_⟩
    · intro h; unfold G; rw [if_neg (by decide), if_neg (by decide), if_pos (by omega)]
    · intro h; unfold G; rw [if_neg (by decide), if_neg (by decide), if_neg (by omega)]; unfold cl; omega
  · have x1 : X 6 = 15 := rfl
    have x2 : XX 6 = 55 := rfl
    refine ⟨330, 225, 105, y * 105, 6 * z, 15 * y, 6 * z - 15 * y, 36, 21, (6 * z - 15 * y) * 21, y * 105 + (6 * z - 15 * y) * 21, 630, ?_⟩
    refine ⟨R.of (by rw [x2]; rfl) (by decide) (by decide), R.of (by rw [x1]; rfl) (by decide) (by decide), R.of rfl (by decide) (by decide), R.of rfl (by omega) (by omega), R.of rfl (by omega) (by omega), R.of (by rw [x1]) (by omega) (by omega), R.of rfl (by omega) (by omega), R.of rfl (by decide) (by decide), R.of (by rw [x1]; rfl) (by decide) (by decide), R.of rfl (by omega) (by omega), R.of rfl (by omega) (by omega), R.of rfl (by decide) (by decide), by decide, by omega, ?_, ?_⟩
    · intro h; unfold G; rw [if_neg (by decide), if_neg (by decide), if_pos (by omega)]
    · intro h; unfold G; rw [if_neg (by decide), if_neg (by decide), if_neg (by omega)]; unfold cl; omega
  · have x1 : X 7 = 21 := rfl
    have x2 : XX 7 = 91 := rfl
    refine ⟨637, 441, 196, y * 196, 7 * z, 21 * y, 7 * z - 21 * y, 49, 28, (7 * z - 21 * y) * 28, y * 196 + (7 * z - 21 * y) * 28, 1372, ?_⟩
    refine ⟨R.of (by rw [x2]; rfl) (by decide) (by decide), R.of (by rw [x1]; rfl) (by decide) (by decide), R.of rfl (by decide) (by decide), R.of rfl (by omega) (by omega), R.of rfl (by omega) (by omega), R.of (by rw [x1]) (by omega) (by omega), R.of rfl (by omega) (by omega), R.of rfl (by decide) (by decide), R.of (by rw [x1]; rfl) (by decide) (by decide), R.of rfl (by omega) (by omega), R.of rfl (by omega) (by omega), R.of rfl (by decide) (by decide), by decide, by omega, ?_, ?_⟩
    · intro h; unfold G; rw [if_neg (by decide), if_neg (by decide), if_pos (by omega)]
    · intro h; unfold G; rw [if_neg (by decide), if_neg (by decide), if_neg (by omega)]; unfold cl; omega
  · have x1 : X 8 = 28 := rfl
    have x2 : XX 8 = 140 := rfl
    refine ⟨1120, 784, 336, y * 336, 8 * z, 28 * y, 8 * z - 28 * y, 64, 36, (8 * z - 28 * y) * 36, y * 336 + (8 * z - 28 * y) * 36, 2688, ?_⟩
    refine ⟨R.of (by rw [x2]; rfl) (by decide) (by decide), R.of (by rw [x1]; rfl) (by decide) (by decide), R.of rfl (by decide) (by decide), R.of rfl (by omega) (by omega), R.of rfl (by omega) (by omega), R.of (by rw [x1]) (by omega) (by omega), R.of rfl (by omega) (by omega), R.of rfl (by decide) (by decide), R.of (by rw [x1]; rfl) (by decide) (by decide), R.of rfl (by omega) (by omega), R.of rfl (by omega) (by omega), R.of rfl (by decide) (by decide), by decide, by omega, ?_, ?_⟩
    · intro h; unfold G; rw [if_neg (by decide), if_neg (by decide), if_pos (by omega)]
    · intro h; unfold G; rw [if_neg (by decide), if_neg (by decide), if_neg (by omega)]; unfold cl; omega
set_option maxHeartbeats 8000000 in
theorem next_small (a : Option Addr) (cap : Nat) (l : List Int) (n : Nat) (hln : l.length = n) (hn8 : n ≤ 8) (w : World) (hcap : n ≤ cap) (hcm : cap ≤ 9223372036854775807) (b off : Nat) (ha : n = 0 ∨ a = some ⟨b, off, none⟩) (hnum : Nums w b off l) : Calls Tryz.prog 135 #[.slice a n cap] w (RetI (nx l) w) := by
  have HLN := Lib.hid hln
  have HN8 := Lib.hid hn8
  have HNUM := Lib.hid hnum
  have HA := Lib.hid ha
  have hgt : ¬ (8 : Int) < (n : Int) := by omega
  clear hln hnum ha
  go_enter Tryz.func135, Tryz.ntmps135
  go_wp2
  go_loop [4, 5, 6, 7, 26] (fun xv yv xxv xyv iv => ∃ k : Nat, k ≤ n ∧ iv = .int .i64 k ∧ xv = .int .i64 (X k) ∧ yv = .int .i64 (Y l k) ∧ xxv = .int .i64 (XX k) ∧ xyv = .int .i64 (XY l k)) (fun _ _ _ _ iv => n - (intOf iv).toNat)
  case atStart => exact ⟨0, by omega, rfl, rfl, rfl, rfl, rfl⟩
  case round =>
    obtain ⟨k, hk, rfl, rfl, rfl, rfl, rfl⟩ := hrel
    have hn8 := HN8.out
    have by_ := Y_bd l k (by omega)
    have bz_ := XY_bd l k (by omega)
    by_cases hlt : k < n
    · obtain rfl : a = some ⟨b, off, none⟩ := HA.out.resolve_left (by omega)
      have ck := HNUM.out k (by rw [HLN.out]; exact hlt)
      have c0 := cl_lo (rd l k)
      have c1 := cl_hi (rd l k)
      have S := step l k (by omega)
      obtain ⟨v, hv⟩ : ∃ v, v = rd l k := ⟨_, rfl⟩
      rw [← hv] at ck c0 c1 S
      have CLf : ∀ w, Calls Tryz.prog 160 #[.int .i64 v, .int .i64 0, .int .i64 1099511627776] w (Num.RetI (cl v) w) := fun w => Num.clamp_any v 0 1099511627776 w
      obtain ⟨c, hc⟩ : ∃ c, c = cl v := ⟨_, rfl⟩
      rw [← hc] at c0 c1 S CLf
      have CL := Lib.hid CLf
      clear CLf
      obtain ⟨kk, hkk⟩ : ∃ u, u = (k : Int) * k := ⟨_, rfl⟩
      obtain ⟨kc, hkc⟩ : ∃ u, u = (k : Int) * c := ⟨_, rfl⟩
      rw [← hkk, ← hkc] at S
      clear hv hc hkk hkc by_ bz_
      obtain ⟨x', hx'⟩ : ∃ u, u = X (k + 1) := ⟨_, rfl⟩
      obtain ⟨xx', hxx'⟩ : ∃ u, u = XX (k + 1) := ⟨_, rfl⟩
      obtain ⟨y', hy'⟩ : ∃ u, u = Y l (k + 1) := ⟨_, rfl⟩
      obtain ⟨z', hz'⟩ : ∃ u, u = XY l (k + 1) := ⟨_, rfl⟩
      obtain ⟨e1, e2, e3, e4, e5, e6⟩ := S
      rw [← hx'] at e1
      rw [← hxx'] at e4
      rw [← hy'] at e2
      rw [← hz'] at e6
      generalize X k = x at *
      generalize XX k = xx at *
      generalize Y l k = y at *
      generalize XY l k = z at *
      obtain ⟨ea1, eb1, ec1, ed1⟩ := e1
      obtain ⟨ea2, eb2, ec2, ed2⟩ := e2
      obtain ⟨ea3, eb3, ec3, ed3⟩ := e3
      obtain ⟨ea4, eb4, ec4, ed4⟩ := e4
      obtain ⟨ea5, eb5, ec5, ed5⟩ := e5
      obtain ⟨ea6, eb6, ec6, ed6⟩ := e6
      have HX := Lib.hid hx'
      have HXX := Lib.hid hxx'
      have HY := Lib.hid hy'
      have HZ := Lib.hid hz'
      clear hx' hxx' hy' hz'
      go_wp2_with (go_at_call 160; refine (CL.out _).mono ?_; rintro e w' ⟨rfl, rfl⟩)
      go_round
      case rel => exact ⟨k + 1, by omega, by go_num, vi (by rw [ed1, HX.out]), vi (by rw [ed2, HY.out]), vi (by (try rw [ed3]); (try rw [ea4]); rw [ed4, HXX.out]), vi (by (try rw [ed5]); (try rw [ea6]); rw [ed6, HZ.out])⟩
      case measure => simp [intOf]; omega
    · obtain rfl : n = k := by omega
      have HG := Lib.hid (show nx l = G n (Y l n) (XY l n) by unfold nx; rw [HLN.out])
      have bx := X_bd n (by omega)
      have bxx := XX_bd n (by omega)
      obtain ⟨y, hy⟩ : ∃ y, y = Y l n := ⟨_, rfl⟩
      obtain ⟨z, hz⟩ : ∃ y, y = XY l n := ⟨_, rfl⟩
      rw [← hy] at by_ HG ⊢
      rw [← hz] at bz_ HG ⊢
      obtain ⟨y0, y1⟩ := by_
      obtain ⟨z0, z1⟩ := bz_
      have T := tail n
      obtain ⟨x, hx⟩ : ∃ y, y = X n := ⟨_, rfl⟩
      obtain ⟨xx, hxx⟩ : ∃ y, y = XX n := ⟨_, rfl⟩
      rw [← hx] at bx ⊢
      rw [← hxx] at bxx ⊢
      clear hlt hk hy hz
      by_cases h0 : n = 0
      · subst h0
        clear hx hxx T bx bxx
        go_wp2
        go_ret
        exact RetI.mk (by rw [HG.out]; rfl) ⟨0, rfl⟩
      by_cases h1 : n = 1
      · subst h1
        clear hx hxx T bx bxx
        go_wp2
        go_ret
        exact RetI.mk (by rw [HG.out]; rfl) ⟨0, rfl⟩
      obtain ⟨p1, p2, d, s2, q1, q2, q3, p3, e, s1, up, s3, T⟩ := T (by omega) hn8 y z y0 (by omega) z0 (by omega)
      obtain ⟨e1, e2, e3, e4, e5, e6, e7, e8, e9, e10, e11, e12, s0, u1, neg, pos⟩ := T
      rw [← hxx] at e1
      rw [← hx] at e2 e6 e9
      have NEG := Lib.hid neg
      have POS := Lib.hid pos
      have c0 : ((n : Int) == 0) = false := beq_eq_false_iff_ne.2 (by omega)
      have c1 : ((n : Int) == 1) = false := beq_eq_false_iff_ne.2 (by omega)
      have hs3 : ¬ s3 = 0 := by omega
      have Q := fun h : ¬ up < 0 => quo up s3 (by omega) s0 u1
      have HQ := Lib.hid Q
      clear neg pos hx hxx bx bxx y1 z1 Q
      obtain ⟨ea1, eb1, ec1, ed1⟩ := e1
      obtain ⟨ea2, eb2, ec2, ed2⟩ := e2
      obtain ⟨ea3, eb3, ec3, ed3⟩ := e3
      obtain ⟨ea4, eb4, ec4, ed4⟩ := e4
      obtain ⟨ea5, eb5, ec5, ed5⟩ := e5
      obtain ⟨ea6, eb6, ec6, ed6⟩ := e6
      obtain ⟨ea7, eb7, ec7, ed7⟩ := e7
      obtain ⟨ea8, eb8, ec8, ed8⟩ := e8
      obtain ⟨ea9, eb9, ec9, ed9⟩ := e9
      obtain ⟨ea10, eb10, ec10, ed10⟩ := e10
      obtain ⟨ea11, eb11, ec11, ed11⟩ := e11
      obtain ⟨ea12, eb12, ec12, ed12⟩ := e12
      by_cases hneg : up < 0
      · go_wp2
        go_ret
        exact RetI.mk (by rw [HG.out]; exact (NEG.out hneg).symm) ⟨0, rfl⟩
      · obtain ⟨q, hq, hq2, hq3, hqw, hqw2⟩ := HQ.out hneg
        have HQ2 := Lib.hid hq
        clear hq
        go_wp2_with (go_at_call 160; refine (Num.clamp_any _ _ _ _).mono ?_; rintro e w' ⟨rfl, rfl⟩)
        go_ret
        exact RetI.mk (by rw [HG.out, ← POS.out (by omega), ← HQ2.out]; rfl) ⟨0, rfl⟩

set_option maxHeartbeats 8000000 in
theorem next_big (b off len cap : Nat) (l : List Int) (n : Nat) (hln : l.length = n) (hn8 : n = 8) (w : World) (hlen : 8 < len) (hcap : len ≤ cap) (hcm : cap ≤ 9223372036854775807) (hnum : Nums w b (off + (len - 8)) l) : Calls Tryz.prog 135 #[.slice (some ⟨b, off, none⟩) len cap] w (RetI (nx l) w) := by
  have HLN := Lib.hid hln
  have HN8 := Lib.hid (show n ≤ 8 by omega)
  have hgt : (8 : Int) < (len : Int) := by omega
  have hsl : (len : Int) - 8 = ((len - 8 : Nat) : Int) := by omega
  obtain ⟨m, hm⟩ : ∃ m, m = len - 8 := ⟨_, rfl⟩
  rw [← hm] at hsl hnum
  have hne : ¬ cap = m := by omega
  have hmn : len - m = n := by omega
  have hml : m ≤ len := by omega
  have HNUM := Lib.hid hnum
  clear hln hnum hm hn8
  go_enter Tryz.func135, Tryz.ntmps135
  go_wp2
  clear hsl
  go_loop [4, 5, 6, 7, 26] (fun xv yv xxv xyv iv => ∃ k : Nat, k ≤ n ∧ iv = .int .i64 k ∧ xv = .int .i64 (X k) ∧ yv = .int .i64 (Y l k) ∧ xxv = .int .i64 (XX k) ∧ xyv = .int .i64 (XY l k)) (fun _ _ _ _ iv => n - (intOf iv).toNat)
  case atStart => exact ⟨0, by omega, rfl, rfl, rfl, rfl, rfl⟩
  case round =>
    obtain ⟨k, hk, rfl, rfl, rfl, rfl, rfl⟩ := hrel
    have hn8 := HN8.out
    have by_ := Y_bd l k (by omega)
    have bz_ := XY_bd l k (by omega)
    by_cases hlt : k < n
    · have ck := HNUM.out k (by rw [HLN.out]; exact hlt)
      have c0 := cl_lo (rd l k)
      have c1 := cl_hi (rd l k)
      have S := step l k (by omega)
      obtain ⟨v, hv⟩ : ∃ v, v = rd l k := ⟨_, rfl⟩
      rw [← hv] at ck c0 c1 S
      have CLf : ∀ w, Calls Tryz.prog 160 #[.int .i64 v, .int .i64 0, .int .i64 1099511627776] w (Num.RetI (cl v) w) := fun w => Num.clamp_any v 0 1099511627776 w
      obtain ⟨c, hc⟩ : ∃ c, c = cl v := ⟨_, rfl⟩
      rw [← hc] at c0 c1 S CLf
      have CL := Lib.hid CLf
      clear CLf
      obtain ⟨kk, hkk⟩ : ∃ u, u = (k : Int) * k := ⟨_, rfl⟩
      obtain ⟨kc, hkc⟩ : ∃ u, u = (k : Int) * c := ⟨_, rfl⟩
      rw [← hkk, ← hkc] at S
      clear hv hc hkk hkc by_ bz_
      obtain ⟨x', hx'⟩ : ∃ u, u = X (k + 1) := ⟨_, rfl⟩
      obtain ⟨xx', hxx'⟩ : ∃ u, u = XX (k + 1) := ⟨_, rfl⟩
      obtain ⟨y', hy'⟩ : ∃ u, u = Y l (k + 1) := ⟨_, rfl⟩
      obtain ⟨z', hz'⟩ : ∃ u, u = XY l (k + 1) := ⟨_, rfl⟩
      obtain ⟨e1, e2, e3, e4, e5, e6⟩ := S
      rw [← hx'] at e1
      rw [← hxx'] at e4
      rw [← hy'] at e2
      rw [← hz'] at e6
      generalize X k = x at *
      generalize XX k = xx at *
      generalize Y l k = y at *
      generalize XY l k = z at *
      obtain ⟨ea1, eb1, ec1, ed1⟩ := e1
      obtain ⟨ea2, eb2, ec2, ed2⟩ := e2
      obtain ⟨ea3, eb3, ec3, ed3⟩ := e3
      obtain ⟨ea4, eb4, ec4, ed4⟩ := e4
      obtain ⟨ea5, eb5, ec5, ed5⟩ := e5
      obtain ⟨ea6, eb6, ec6, ed6⟩ := e6
      have HX := Lib.hid hx'
      have HXX := Lib.hid hxx'
      have HY := Lib.hid hy'
      have HZ := Lib.hid hz'
      clear hx' hxx' hy' hz'
      go_wp2_with (go_at_call 160; refine (CL.out _).mono ?_; rintro e w' ⟨rfl, rfl⟩)
      go_round
      case rel => exact ⟨k + 1, by omega, by go_num, vi (by rw [ed1, HX.out]), vi (by rw [ed2, HY.out]), vi (by (try rw [ed3]); (try rw [ea4]); rw [ed4, HXX.out]), vi (by (try rw [ed5]); (try rw [ea6]); rw [ed6, HZ.out])⟩
      case measure => simp [intOf]; omega
    · obtain rfl : n = k := by omega
      have HG := Lib.hid (show nx l = G n (Y l n) (XY l n) by unfold nx; rw [HLN.out])
      have bx := X_bd n (by omega)
      have bxx := XX_bd n (by omega)
      obtain ⟨y, hy⟩ : ∃ y, y = Y l n := ⟨_, rfl⟩
      obtain ⟨z, hz⟩ : ∃ y, y = XY l n := ⟨_, rfl⟩
      rw [← hy] at by_ HG ⊢
      rw [← hz] at bz_ HG ⊢
      obtain ⟨y0, y1⟩ := by_
      obtain ⟨z0, z1⟩ := bz_
      have T := tail n
      obtain ⟨x, hx⟩ : ∃ y, y = X n := ⟨_, rfl⟩
      obtain ⟨xx, hxx⟩ : ∃ y, y = XX n := ⟨_, rfl⟩
      rw [← hx] at bx ⊢
      rw [← hxx] at bxx ⊢
      clear hlt hk hy hz
      by_cases h0 : n = 0
      · subst h0
        clear hx hxx T bx bxx
        go_wp2
        go_ret
        exact RetI.mk (by rw [HG.out]; rfl) ⟨0, rfl⟩
      by_cases h1 : n = 1
      · subst h1
        clear hx hxx T bx bxx
        go_wp2
        go_ret
        exact RetI.mk (by rw [HG.out]; rfl) ⟨0, rfl⟩
      obtain ⟨p1, p2, d, s2, q1, q2, q3, p3, e, s1, up, s3, T⟩ := T (by omega) hn8 y z y0 (by omega) z0 (by omega)
      obtain ⟨e1, e2, e3, e4, e5, e6, e7, e8, e9, e10, e11, e12, s0, u1, neg, pos⟩ := T
      rw [← hxx] at e1
      rw [← hx] at e2 e6 e9
      have NEG := Lib.hid neg
      have POS := Lib.hid pos
      have c0 : ((n : Int) == 0) = false := beq_eq_false_iff_ne.2 (by omega)
      have c1 : ((n : Int) == 1) = false := beq_eq_false_iff_ne.2 (by omega)
      have hs3 : ¬ s3 = 0 := by omega
      have Q := fun h : ¬ up < 0 => quo up s3 (by omega) s0 u1
      have HQ := Lib.hid Q
      clear neg pos hx hxx bx bxx y1 z1 Q
      obtain ⟨ea1, eb1, ec1, ed1⟩ := e1
      obtain ⟨ea2, eb2, ec2, ed2⟩ := e2
      obtain ⟨ea3, eb3, ec3, ed3⟩ := e3
      obtain ⟨ea4, eb4, ec4, ed4⟩ := e4
      obtain ⟨ea5, eb5, ec5, ed5⟩ := e5
      obtain ⟨ea6, eb6, ec6, ed6⟩ := e6
      obtain ⟨ea7, eb7, ec7, ed7⟩ := e7
      obtain ⟨ea8, eb8, ec8, ed8⟩ := e8
      obtain ⟨ea9, eb9, ec9, ed9⟩ := e9
      obtain ⟨ea10, eb10, ec10, ed10⟩ := e10
      obtain ⟨ea11, eb11, ec11, ed11⟩ := e11
      obtain ⟨ea12, eb12, ec12, ed12⟩ := e12
      by_cases hneg : up < 0
      · go_wp2
        go_ret
        exact RetI.mk (by rw [HG.out]; exact (NEG.out hneg).symm) ⟨0, rfl⟩
      · obtain ⟨q, hq, hq2, hq3, hqw, hqw2⟩ := HQ.out hneg
        have HQ2 := Lib.hid hq
        clear hq
        go_wp2_with (go_at_call 160; refine (Num.clamp_any _ _ _ _).mono ?_; rintro e w' ⟨rfl, rfl⟩)
        go_ret
        exact RetI.mk (by rw [HG.out, ← POS.out (by omega), ← HQ2.out]; rfl) ⟨0, rfl⟩

structure ZStep (l : List Int) (n k : Nat) (c a1 a2 a3 a4 a5 : Int) : Prop where
  r1 : R (6 * (k : Int)) a1
  r2 : R (2 * (n : Int)) a2
  r3 : R (a1 - a2) a3
  r4 : R (a3 + 2) a4
  r5 : R (c * a4) a5
  r6 : R (Z l n k + a5) (Z l n (k + 1))
theorem zstep (l : List Int) (n k : Nat) (hn : n ≤ 8) (hk : k < n) : ∃ a1 a2 a3 a4 a5, ∃ _ : True, ZStep l n k (cl (rd l k)) a1 a2 a3 a4 a5 := by
  have b1 := term_bd l n k hn hk
  have b2 := Z_bd l n hn (k + 1) (by omega)
  exact ⟨6 * (k : Int), 2 * (n : Int), 6 * (k : Int) - 2 * (n : Int), 6 * (k : Int) - 2 * (n : Int) + 2, cl (rd l k) * (6 * (k : Int) - 2 * (n : Int) + 2), trivial,
    R.of rfl (by omega) (by omega), R.of rfl (by omega) (by omega), R.of rfl (by omega) (by omega), R.of rfl (by omega) (by omega), R.of rfl (by omega) (by omega), R.of rfl (by omega) (by omega)⟩

theorem cell_lt {w : World} {b o : Nat} {v : Value} (h : w.cell? ⟨b, o, none⟩ = some v) : b < w.heap.size := by
  unfold World.cell? at h
  rcases Nat.lt_or_ge b w.heap.size with hlt | hge
  · exact hlt
  · simp [Array.getElem?_eq_none hge] at h
theorem Sl.nums {w : World} {v : Value} {xs : List Int} (h : Sl w v xs) : ∃ a cap b off, v = .slice a xs.length cap ∧ xs.length ≤ cap ∧ cap ≤ 9223372036854775807 ∧ (xs.length = 0 ∨ a = some ⟨b, off, none⟩) ∧ Nums w b off xs := by
  obtain ⟨a, cap, h1, h2, h3, h4⟩ := h
  by_cases h0 : xs.length = 0
  · exact ⟨a, cap, 0, 0, h1, h2, by unfold maxLen at h3; omega, .inl h0, fun j hj => by omega⟩
  · obtain ⟨b, off, g1, g2, g3⟩ := h4 0 (by omega)
    exact ⟨a, cap, b, off, h1, h2, by unfold maxLen at h3; omega, .inr g1, g3⟩
theorem nums_last {w : World} {b off : Nat} {xs : List Int} (h : Nums w b off xs) (hb : 8 < xs.length) : Nums w b (off + (xs.length - 8)) (last8 xs) := by
  intro j hj
  rw [last8_big hb] at hj
  have := h (xs.length - 8 + j) (by omega)
  rw [← Nat.add_assoc] at this
  rw [this]
  unfold rd
  rw [last8_get hb]
theorem next_any (v : Value) (xs : List Int) (w : World) (h : Sl w v xs) : Calls Tryz.prog 135 #[v] w (RetI (nx (last8 xs)) w) := by
  obtain ⟨a, cap, b, off, rfl, h1, h2, h3, h4⟩ := Sl.nums h
  by_cases hb : 8 < xs.length
  · obtain rfl := h3.resolve_left (by omega)
    exact next_big b off xs.length cap (last8 xs) 8 (last8_big hb) rfl w hb h1 h2 (nums_last h4 hb)
  · rw [last8_small (by omega)]
    exact next_small a cap xs xs.length rfl (by omega) w h1 h2 b off h3 h4
/-- The last few of a slice. -/
def Lasts (xs : List Int) (w : World) (e : Ending) (w' : World) : Prop := ∃ v, e = .returned v ∧ Sl w v (last8 xs) ∧ w' = w
end Go.Proofs.YtjmdgicdpggljaaGreat.Cast
