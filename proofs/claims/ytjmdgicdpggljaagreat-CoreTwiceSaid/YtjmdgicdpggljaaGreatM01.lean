/- Proved: Knuth's division of 128 bits by 64 bits, digit by digit, in plain numbers: what each of the two loops of bits.Div64 keeps, and that the two digits are the quotient. No program is named here. -/
import Derived.Test.YtjmdgicdpggljaaGreatShelf
import Derived.WalkKit
import Derived.WalkLawsBesides
import Derived.Deep.QuietTactic
import Derived.BigQuiet
import Derived.Lib.Hide
import Derived.IntWalk
set_option linter.all false
namespace Go.Proofs.YtjmdgicdpggljaaGreat.Num
set_option linter.unusedVariables false

/-- One digit: u = q * y1 + r is known, and the true digit is q or less. -/
structure Digit (u u1 y1 y0 q r : Nat) : Prop where
  eq : u = q * y1 + r
  lt : u * 4294967296 + u1 < (q + 1) * (y1 * 4294967296 + y0)

theorem digit_start {u u1 y1 y0 : Nat} (hy : 0 < y1) (h1 : u1 < 4294967296) : Digit u u1 y1 y0 (u / y1) (u % y1) := by
  have h := Nat.div_add_mod u y1
  have hr := Nat.mod_lt u hy
  refine ⟨by rw [Nat.mul_comm]; exact h.symm, ?_⟩
  generalize u / y1 = q at *
  generalize u % y1 = r at *
  have e : u = q * y1 + r := by rw [Nat.mul_comm]; exact h.symm
  have e1 : (q + 1) * (y1 * 4294967296 + y0) = q * y1 * 4294967296 + y1 * 4294967296 + (q + 1) * y0 := by grind
  rw [e1, e]
  clear h e e1
  generalize q * y1 = p
  generalize (q + 1) * y0 = t
  omega

theorem digit_test {u u1 y1 y0 q r : Nat} (d : Digit u u1 y1 y0 q r) : q * (y1 * 4294967296 + y0) ≤ u * 4294967296 + u1 ↔ q * y0 ≤ 4294967296 * r + u1 := by
  have e := d.eq
  have e1 : q * (y1 * 4294967296 + y0) = q * y1 * 4294967296 + q * y0 := by grind
  have e2 : u * 4294967296 = q * y1 * 4294967296 + r * 4294967296 := by rw [e]; grind
  omega

theorem digit_next {u u1 y1 y0 q r : Nat} (d : Digit u u1 y1 y0 q r) (hq : 1 ≤ q) (h : u * 4294967296 + u1 < q * (y1 * 4294967296 + y0)) : Digit u u1 y1 y0 (q - 1) (r + y1) := by
  obtain ⟨q, rfl⟩ : ∃ k, q = k + 1 := ⟨q - 1, by omega⟩
  refine ⟨?_, by simpa using h⟩
  have e := d.eq
  rw [e, Nat.add_sub_cancel]
  grind

/-- What a digit's remainder is. -/
theorem digit_done {u u1 y1 y0 q r : Nat} (d : Digit u u1 y1 y0 q r) (h : q * (y1 * 4294967296 + y0) ≤ u * 4294967296 + u1) : q = (u * 4294967296 + u1) / (y1 * 4294967296 + y0) := by
  refine ((Nat.div_eq_of_lt_le ?_ ?_)).symm
  · exact h
  · exact d.lt

/-- A digit is below 2^32 where u is below y. -/
theorem digit_small {u u1 y1 y0 q : Nat} (hu : u < y1 * 4294967296 + y0) (h1 : u1 < 4294967296) (h : q * (y1 * 4294967296 + y0) ≤ u * 4294967296 + u1) : q < 4294967296 := by
  rcases Nat.lt_or_ge q 4294967296 with h' | h'
  · exact h'
  · have := Nat.mul_le_mul_right (y1 * 4294967296 + y0) h'
    omega

theorem first_small {u y1 y0 : Nat} (hu : u < y1 * 4294967296 + y0) (hy : 2147483648 ≤ y1) (h0 : y0 < 4294967296) : u / y1 ≤ 4294967297 := by
  have : u < 4294967298 * y1 := by omega
  have := (Nat.div_lt_iff_lt_mul (show 0 < y1 by omega)).2 this
  omega

/-- The two digits of a quotient. -/
theorem two_digits (u u1 u0 y : Nat) (hy : 0 < y) :
    ((u * 4294967296 + u1) / y) * 4294967296 + ((u * 4294967296 + u1) % y * 4294967296 + u0) / y = (u * 18446744073709551616 + (u1 * 4294967296 + u0)) / y ∧
    ((u * 4294967296 + u1) % y * 4294967296 + u0) % y = (u * 18446744073709551616 + (u1 * 4294967296 + u0)) % y := by
  have e : u * 18446744073709551616 + (u1 * 4294967296 + u0) = y * (((u * 4294967296 + u1) / y) * 4294967296) + ((u * 4294967296 + u1) % y * 4294967296 + u0) := by
    have h := Nat.div_add_mod (u * 4294967296 + u1) y
    generalize (u * 4294967296 + u1) / y = q at *
    generalize (u * 4294967296 + u1) % y = r at *
    have e1 : u * 18446744073709551616 + (u1 * 4294967296 + u0) = (u * 4294967296 + u1) * 4294967296 + u0 := by omega
    rw [e1, ← h]
    grind
  rw [e, Nat.mul_add_div hy, Nat.mul_add_mod]
  exact ⟨rfl, rfl⟩

/-- A quotient and a remainder of both sides times so much. -/
theorem scaled (n y p : Nat) (hp : 0 < p) : (n * p) / (y * p) = n / y ∧ (n * p) % (y * p) / p = n % y := by
  refine ⟨Nat.mul_div_mul_right _ _ hp, ?_⟩
  rw [Nat.mul_mod_mul_right, Nat.mul_div_cancel _ hp]

end Go.Proofs.YtjmdgicdpggljaaGreat.Num

/- Proved: what math/bits.Div64 answers where hi is below y: the quotient and the remainder of hi * 2^64 + lo by y. The conditions: hi < y, and all three are 64-bit numbers. -/
namespace Go.Proofs.YtjmdgicdpggljaaGreat.Num
open Go.RowKit Go.Lib
set_option linter.unusedVariables false

set_option maxHeartbeats 400000 in
set_option maxRecDepth 100000 in
theorem div64_0 (lo y : Nat) (hy : 0 < y) (hlo : lo ≤ 18446744073709551615) (hyy : y ≤ 18446744073709551615) (w : World) :
    Calls Tryz.prog 173 #[.int .u64 (0 : Nat), .int .u64 lo, .int .u64 y] w fun e w' => e = .returned (.tuple #[.int .u64 ((lo / y : Nat) : Int), .int .u64 ((lo % y : Nat) : Int)]) ∧ ∃ n, w' = w.drewN n := by
  have hy0 : ((y : Int) == 0) = false := by simp; omega
  have hyd : ¬ ((y : Int) = 0) := by omega
  have hyn : ¬ y = 0 := by omega
  go_enter Tryz.func173, Tryz.ntmps173
  go_wp2
  go_quiet (fail)
  go_wp2
  go_ret2
  have hle : lo / y ≤ lo := Nat.div_le_self _ _
  exact ⟨by
    have e1 : IntKind.u64.wrap ((lo : Int) / (y : Int)) = (lo : Int) / (y : Int) := by
      rw [← Int.natCast_ediv]
      generalize lo / y = z at *
      exact IntWalk.u64_in _ (by omega)
    simp [e1], nq, rfl⟩

/-- What the second loop's end leaves. -/
def Div64Post (q r : Nat) (w : World) (e : Ending) (w' : World) : Prop := e = .returned (.tuple #[.int .u64 (q : Int), .int .u64 (r : Int)]) ∧ w' = w

/-- What each loop keeps. -/
structure DI (u u1 y1 y0 a b : Nat) : Prop where
  d : Digit u u1 y1 y0 a b
  hb : b < 4294967296
  ha : a ≤ 4294967297

/-- The facts of one loop: u below y, y great. -/
structure DF (u u1 y1 y0 Q : Nat) : Prop where
  hu : u < y1 * 4294967296 + y0
  hy1 : 2147483648 ≤ y1
  hy1' : y1 < 4294967296
  hy0 : y0 < 4294967296
  hu1 : u1 < 4294967296
  hQ : Q = (u * 4294967296 + u1) / (y1 * 4294967296 + y0)

theorem DF.start {u u1 y1 y0 Q : Nat} (f : DF u u1 y1 y0 Q) : DI u u1 y1 y0 (u / y1) (u % y1) :=
  ⟨digit_start (by have := f.hy1; omega) f.hu1, by have := Nat.mod_lt u (show 0 < y1 by have := f.hy1; omega); have := f.hy1'; omega, first_small f.hu f.hy1 f.hy0⟩
/-- The test says no: this is the digit. -/
theorem DF.out {u u1 y1 y0 Q a b : Nat} (f : DF u u1 y1 y0 Q) (d : DI u u1 y1 y0 a b) (h : ¬ 4294967296 * b + u1 < a * y0) : a = Q := by
  rw [f.hQ]; exact digit_done d.d ((digit_test d.d).2 (by omega))
/-- It says yes: one less. -/
theorem DF.big {u u1 y1 y0 Q a : Nat} (f : DF u u1 y1 y0 Q) (h : 4294967296 ≤ a) : u * 4294967296 + u1 < a * (y1 * 4294967296 + y0) := by
  have := Nat.mul_le_mul_right (y1 * 4294967296 + y0) h
  have := f.hu
  have := f.hu1
  omega
theorem DF.yes {u u1 y1 y0 a b : Nat} (d : DI u u1 y1 y0 a b) (h : 4294967296 * b + u1 < a * y0) : u * 4294967296 + u1 < a * (y1 * 4294967296 + y0) := by
  have := digit_test d.d
  omega
theorem DF.pos {u u1 y1 y0 a : Nat} (h : u * 4294967296 + u1 < a * (y1 * 4294967296 + y0)) : 1 ≤ a := by
  rcases Nat.eq_zero_or_pos a with h0 | h0
  · subst h0; omega
  · exact h0
/-- On with the loop. -/
theorem DF.on {u u1 y1 y0 a b c : Nat} (d : DI u u1 y1 y0 a b) (h : u * 4294967296 + u1 < a * (y1 * 4294967296 + y0)) (hc : a = c + 1) (hb : b + y1 < 4294967296) : DI u u1 y1 y0 c (b + y1) := by
  have := digit_next d.d (by omega) h
  rw [hc, Nat.add_sub_cancel] at this
  exact ⟨this, hb, by have := d.ha; omega⟩
/-- The remainder is great: this is the digit. -/
theorem DF.stop {u u1 y1 y0 Q a b c : Nat} (f : DF u u1 y1 y0 Q) (d : DI u u1 y1 y0 a b) (h : u * 4294967296 + u1 < a * (y1 * 4294967296 + y0)) (hc : a = c + 1) (hb : 4294967296 ≤ b + y1) : c = Q := by
  have hn := digit_next d.d (by omega) h
  rw [hc, Nat.add_sub_cancel] at hn
  rw [f.hQ]
  refine digit_done hn ((digit_test hn).2 ?_)
  have h1 : c ≤ 4294967296 := by have := d.ha; omega
  have h2 : c * y0 ≤ 4294967296 * y0 := Nat.mul_le_mul_right _ h1
  have := f.hy0
  omega

set_option maxHeartbeats 4000000 in
set_option maxRecDepth 100000 in
theorem div64_core (hi lo y s t Y y1 y0 u L u1 u0 q1 m1 r1 R Q1 q2 m2 r2 Q0 Q S v1 v2 v3 v4 v5 v6 v7 : Nat) (h0 : 0 < hi) (hl : hi < y)
    (hyy : y ≤ 18446744073709551615)
    (es : 64 - (Lib.bitLen y : Int) = s) (hs : s ≤ 63) (et : t = 64 - s)
    (eY : IntKind.u64.wrap ((y : Int) * 2 ^ s) = (Y : Int)) (ey1 : (Y : Int) / 4294967296 = (y1 : Int)) (ey0 : bits .and .u64 (Y : Int) 4294967295 = (y0 : Int))
    (eu : bits .or .u64 (IntKind.u64.wrap ((hi : Int) * 2 ^ s)) ((lo : Int) / 2 ^ t) = (u : Int))
    (eL : IntKind.u64.wrap ((lo : Int) * 2 ^ s) = (L : Int)) (eu1 : (L : Int) / 4294967296 = (u1 : Int)) (eu0 : bits .and .u64 (L : Int) 4294967295 = (u0 : Int))
    (f1 : DF u u1 y1 y0 Q1) (eq1 : IntKind.u64.wrap ((u : Int) / y1) = (q1 : Int)) (em1 : IntKind.u64.wrap ((q1 : Int) * y1) = (m1 : Int)) (er1 : IntKind.u64.wrap ((u : Int) - m1) = (r1 : Int)) (hq1 : q1 = u / y1) (hr1 : r1 = u % y1)
    (ev1 : IntKind.u64.wrap ((u : Int) * 4294967296) = (v1 : Int)) (ev2 : IntKind.u64.wrap ((v1 : Int) + u1) = (v2 : Int)) (ev3 : IntKind.u64.wrap ((Q1 : Int) * Y) = (v3 : Int)) (eR : IntKind.u64.wrap ((v2 : Int) - v3) = (R : Int))
    (f2 : DF R u0 y1 y0 Q0) (eq2 : IntKind.u64.wrap ((R : Int) / y1) = (q2 : Int)) (em2 : IntKind.u64.wrap ((q2 : Int) * y1) = (m2 : Int)) (er2 : IntKind.u64.wrap ((R : Int) - m2) = (r2 : Int)) (hq2 : q2 = R / y1) (hr2 : r2 = R % y1)
    (ev4 : IntKind.u64.wrap ((Q1 : Int) * 4294967296) = (v4 : Int)) (eQ : IntKind.u64.wrap ((v4 : Int) + Q0) = (Q : Int))
    (ev5 : IntKind.u64.wrap ((R : Int) * 4294967296) = (v5 : Int)) (ev6 : IntKind.u64.wrap ((v5 : Int) + u0) = (v6 : Int)) (ev7 : IntKind.u64.wrap ((Q0 : Int) * Y) = (v7 : Int)) (eS : IntKind.u64.wrap ((v6 : Int) - v7) / 2 ^ s = (S : Int))
    (w : World) :
    Calls Tryz.prog 173 #[.int .u64 hi, .int .u64 lo, .int .u64 y] w (Div64Post Q S w) := by
  have hy0 : ((y : Int) == 0) = false := by simp; omega
  have hi0 : ((hi : Int) == 0) = false := by simp; omega
  have hl' : ¬ (y : Int) ≤ hi := by omega
  have hsw : IntKind.u64.wrap (s : Int) = s := IntWalk.u64_in _ (by omega)
  have hmin : min s 64 = s := by omega
  have hmint : min t 64 = t := by omega
  have htw : IntKind.u64.wrap (64 - (s : Int)) = (t : Int) := by rw [IntWalk.u64_in _ (by omega)]; omega
  have hy1 : ¬ y1 = 0 := by have := f1.hy1; omega
  have Hq1 := Lib.hid hq1
  have Hr1 := Lib.hid hr1
  have Hq2 := Lib.hid hq2
  have Hr2 := Lib.hid hr2
  have Ht := Lib.hid et
  have F1 := Lib.hid f1
  have F2 := Lib.hid f2
  clear hq1 hr1 hq2 hr2 et f1 f2
  go_enter Tryz.func173, Tryz.ntmps173
  go_wp2_with (go_at_call 177; refine (Tryz.bits_LeadingZeros64 _ _ (by omega) (by omega)).mono ?_; rintro e w' ⟨rfl, rfl⟩)
  go_loop [15, 16] (fun qv rv => ∃ a b : Nat, qv = .int .u64 a ∧ rv = .int .u64 b ∧ DI u u1 y1 y0 a b) (fun qv _ => (RowKit.intOf qv).toNat)
  case atStart => exact ⟨_, _, rfl, rfl, by rw [Hq1.out, Hr1.out]; exact F1.out.start⟩
  case round =>
    obtain ⟨a, b, rfl, rfl, hd⟩ := hrel
    have Hd := Lib.hid hd
    have hb := hd.hb
    have ha := hd.ha
    have hyb := F1.out.hy1'
    have hub := F1.out.hu1
    have hy0b := F1.out.hy0
    have w2 : IntKind.u64.wrap ((b : Int) + y1) = ((b + y1 : Nat) : Int) := by rw [IntWalk.u64_in _ (by omega)]; omega
    have w3 : IntKind.u64.wrap (4294967296 * (b : Int)) = ((4294967296 * b : Nat) : Int) := by rw [IntWalk.u64_in _ (by omega)]; omega
    have w4 : IntKind.u64.wrap (((4294967296 * b : Nat) : Int) + u1) = ((4294967296 * b + u1 : Nat) : Int) := by rw [IntWalk.u64_in _ (by omega)]; omega
    obtain ⟨b2, hb2⟩ : ∃ b2, b2 = b + y1 := ⟨_, rfl⟩
    obtain ⟨b3, hb3⟩ : ∃ b3, b3 = 4294967296 * b := ⟨_, rfl⟩
    obtain ⟨b4, hb4⟩ : ∃ b4, b4 = b3 + u1 := ⟨_, rfl⟩
    rw [← hb2] at w2
    rw [← hb3] at w3
    rw [← hb3, ← hb4] at w4
    obtain ⟨p, hp⟩ : ∃ p, p = a * y0 := ⟨_, rfl⟩
    by_cases hA : 4294967296 ≤ a
    · have hy := F1.out.big hA
      obtain ⟨c, hc⟩ : ∃ c, a = c + 1 := ⟨a - 1, by omega⟩
      have w1 : IntKind.u64.wrap ((a : Int) - 1) = (c : Int) := by rw [IntWalk.u64_in _ (by omega)]; omega
      have Hy := Lib.hid hy
      have Hc := Lib.hid hc
      have Hb2 := Lib.hid hb2
      clear hy hc hb2 hb3 hb4 hp hd
      have hA' : (4294967296 : Int) ≤ (a : Int) := by omega
      clear hA
      by_cases hB : 4294967296 ≤ b2
      · have hcQ : c = Q1 := DF.stop F1.out Hd.out Hy.out Hc.out (by rw [← Hb2.out]; exact hB)
        subst hcQ
        have hB' : (4294967296 : Int) ≤ (b2 : Int) := by omega
        clear hB
        go_wp2
        clear ha hb hyb hub hy0b
        go_loop [18, 16] (fun qv rv => ∃ a b : Nat, qv = .int .u64 a ∧ rv = .int .u64 b ∧ DI R u0 y1 y0 a b) (fun qv _ => (RowKit.intOf qv).toNat)
        case atStart => exact ⟨_, _, rfl, rfl, by rw [Hq2.out, Hr2.out]; exact F2.out.start⟩
        case round =>
          obtain ⟨a, b, rfl, rfl, hd⟩ := hrel
          have Hd := Lib.hid hd
          have hb := hd.hb
          have ha := hd.ha
          have hyb := F2.out.hy1'
          have hub := F2.out.hu1
          have hy0b := F2.out.hy0
          have w2 : IntKind.u64.wrap ((b : Int) + y1) = ((b + y1 : Nat) : Int) := by rw [IntWalk.u64_in _ (by omega)]; omega
          have w3 : IntKind.u64.wrap (4294967296 * (b : Int)) = ((4294967296 * b : Nat) : Int) := by rw [IntWalk.u64_in _ (by omega)]; omega
          have w4 : IntKind.u64.wrap (((4294967296 * b : Nat) : Int) + u0) = ((4294967296 * b + u0 : Nat) : Int) := by rw [IntWalk.u64_in _ (by omega)]; omega
          obtain ⟨b2, hb2⟩ : ∃ b2, b2 = b + y1 := ⟨_, rfl⟩
          obtain ⟨b3, hb3⟩ : ∃ b3, b3 = 4294967296 * b := ⟨_, rfl⟩
          obtain ⟨b4, hb4⟩ : ∃ b4, b4 = b3 + u0 := ⟨_, rfl⟩
          rw [← hb2] at w2
          rw [← hb3] at w3
          rw [← hb3, ← hb4] at w4
          obtain ⟨p, hp⟩ : ∃ p, p = a * y0 := ⟨_, rfl⟩
          by_cases hA : 4294967296 ≤ a
          · have hy := F2.out.big hA
            obtain ⟨c, hc⟩ : ∃ c, a = c + 1 := ⟨a - 1, by omega⟩
            have w1 : IntKind.u64.wrap ((a : Int) - 1) = (c : Int) := by rw [IntWalk.u64_in _ (by omega)]; omega
            have Hy := Lib.hid hy
            have Hc := Lib.hid hc
            have Hb2 := Lib.hid hb2
            clear hy hc hb2 hb3 hb4 hp hd
            have hA' : (4294967296 : Int) ≤ (a : Int) := by omega
            clear hA
            by_cases hB : 4294967296 ≤ b2
            · have hcQ : c = Q0 := DF.stop F2.out Hd.out Hy.out Hc.out (by rw [← Hb2.out]; exact hB)
              subst hcQ
              have hB' : (4294967296 : Int) ≤ (b2 : Int) := by omega
              clear hB
              go_wp2
              go_ret2
              exact ⟨rfl, rfl⟩
            · have hB' : ¬ (4294967296 : Int) ≤ (b2 : Int) := by omega
              clear hB
              go_wp2
              go_round
              case rel => exact ⟨c, b2, rfl, rfl, by rw [Hb2.out]; exact DF.on Hd.out Hy.out Hc.out (by rw [← Hb2.out]; omega)⟩
              case measure => have := Hc.out; simp [RowKit.intOf]; omega
          · have hA' : ¬ (4294967296 : Int) ≤ (a : Int) := by omega
            have hpb : p ≤ 4294967295 * 4294967295 := by rw [hp]; exact Nat.mul_le_mul (by omega) (by omega)
            have w5 : IntKind.u64.wrap ((a : Int) * y0) = (p : Int) := by rw [hp, IntWalk.u64_in _ ⟨by rw [← Int.natCast_mul]; omega, by rw [← Int.natCast_mul, ← hp]; omega⟩]; simp
            by_cases hT : b4 < p
            · have hy := DF.yes Hd.out (by rw [← hb3, ← hb4, ← hp]; exact hT)
              have hpos := DF.pos hy
              obtain ⟨c, hc⟩ : ∃ c, a = c + 1 := ⟨a - 1, by omega⟩
              have w1 : IntKind.u64.wrap ((a : Int) - 1) = (c : Int) := by rw [IntWalk.u64_in _ (by omega)]; omega
              have Hy := Lib.hid hy
              have Hc := Lib.hid hc
              have Hb2 := Lib.hid hb2
              clear hy hc hb2 hb3 hb4 hp hd hpos
              by_cases hB : 4294967296 ≤ b2
              · have hcQ : c = Q0 := DF.stop F2.out Hd.out Hy.out Hc.out (by rw [← Hb2.out]; exact hB)
                subst hcQ
                have hB' : (4294967296 : Int) ≤ (b2 : Int) := by omega
                clear hB
                go_wp2
                go_ret2
                exact ⟨rfl, rfl⟩
              · have hB' : ¬ (4294967296 : Int) ≤ (b2 : Int) := by omega
                clear hB
                go_wp2
                go_round
                case rel => exact ⟨c, b2, rfl, rfl, by rw [Hb2.out]; exact DF.on Hd.out Hy.out Hc.out (by rw [← Hb2.out]; omega)⟩
                case measure => have := Hc.out; simp [RowKit.intOf]; omega
            · have haQ : a = Q0 := DF.out F2.out Hd.out (by rw [← hb3, ← hb4, ← hp]; exact hT)
              subst haQ
              clear hb2 hb3 hb4 hp hd
              go_wp2
              go_ret2
              exact ⟨rfl, rfl⟩
      · have hB' : ¬ (4294967296 : Int) ≤ (b2 : Int) := by omega
        clear hB
        go_wp2
        go_round
        case rel => exact ⟨c, b2, rfl, rfl, by rw [Hb2.out]; exact DF.on Hd.out Hy.out Hc.out (by rw [← Hb2.out]; omega)⟩
        case measure => have := Hc.out; simp [RowKit.intOf]; omega
    · have hA' : ¬ (4294967296 : Int) ≤ (a : Int) := by omega
      have hpb : p ≤ 4294967295 * 4294967295 := by rw [hp]; exact Nat.mul_le_mul (by omega) (by omega)
      have w5 : IntKind.u64.wrap ((a : Int) * y0) = (p : Int) := by rw [hp, IntWalk.u64_in _ ⟨by rw [← Int.natCast_mul]; omega, by rw [← Int.natCast_mul, ← hp]; omega⟩]; simp
      by_cases hT : b4 < p
      · have hy := DF.yes Hd.out (by rw [← hb3, ← hb4, ← hp]; exact hT)
        have hpos := DF.pos hy
        obtain ⟨c, hc⟩ : ∃ c, a = c + 1 := ⟨a - 1, by omega⟩
        have w1 : IntKind.u64.wrap ((a : Int) - 1) = (c : Int) := by rw [IntWalk.u64_in _ (by omega)]; omega
        have Hy := Lib.hid hy
        have Hc := Lib.hid hc
        have Hb2 := Lib.hid hb2
        clear hy hc hb2 hb3 hb4 hp hd hpos
        by_cases hB : 4294967296 ≤ b2
        · have hcQ : c = Q1 := DF.stop F1.out Hd.out Hy.out Hc.out (by rw [← Hb2.out]; exact hB)
          subst hcQ
          have hB' : (4294967296 : Int) ≤ (b2 : Int) := by omega
          clear hB
          go_wp2
          clear ha hb hyb hub hy0b
          go_loop [18, 16] (fun qv rv => ∃ a b : Nat, qv = .int .u64 a ∧ rv = .int .u64 b ∧ DI R u0 y1 y0 a b) (fun qv _ => (RowKit.intOf qv).toNat)
          case atStart => exact ⟨_, _, rfl, rfl, by rw [Hq2.out, Hr2.out]; exact F2.out.start⟩
          case round =>
            obtain ⟨a, b, rfl, rfl, hd⟩ := hrel
            have Hd := Lib.hid hd
            have hb := hd.hb
            have ha := hd.ha
            have hyb := F2.out.hy1'
            have hub := F2.out.hu1
            have hy0b := F2.out.hy0
            have w2 : IntKind.u64.wrap ((b : Int) + y1) = ((b + y1 : Nat) : Int) := by rw [IntWalk.u64_in _ (by omega)]; omega
            have w3 : IntKind.u64.wrap (4294967296 * (b : Int)) = ((4294967296 * b : Nat) : Int) := by rw [IntWalk.u64_in _ (by omega)]; omega
            have w4 : IntKind.u64.wrap (((4294967296 * b : Nat) : Int) + u0) = ((4294967296 * b + u0 : Nat) : Int) := by rw [IntWalk.u64_in _ (by omega)]; omega
            obtain ⟨b2, hb2⟩ : ∃ b2, b2 = b + y1 := ⟨_, rfl⟩
            obtain ⟨b3, hb3⟩ : ∃ b3, b3 = 4294967296 * b := ⟨_, rfl⟩
            obtain ⟨b4, hb4⟩ : ∃ b4, b4 = b3 + u0 := ⟨_, rfl⟩
            rw [← hb2] at w2
            rw [← hb3] at w3
            rw [← hb3, ← hb4] at w4
            obtain ⟨p, hp⟩ : ∃ p, p = a * y0 := ⟨_, rfl⟩
            by_cases hA : 4294967296 ≤ a
            · have hy := F2.out.big hA
              obtain ⟨c, hc⟩ : ∃ c, a = c + 1 := ⟨a - 1, by omega⟩
              have w1 : IntKind.u64.wrap ((a : Int) - 1) = (c : Int) := by rw [IntWalk.u64_in _ (by omega)]; omega
              have Hy := Lib.hid hy
              have Hc := Lib.hid hc
              have Hb2 := Lib.hid hb2
              clear hy hc hb2 hb3 hb4 hp hd
              have hA' : (4294967296 : Int) ≤ (a : Int) := by omega
              clear hA
              by_cases hB : 4294967296 ≤ b2
              · have hcQ : c = Q0 := DF.stop F2.out Hd.out Hy.out Hc.out (by rw [← Hb2.out]; exact hB)
                subst hcQ
                have hB' : (4294967296 : Int) ≤ (b2 : Int) := by omega
                clear hB
                go_wp2
                go_ret2
                exact ⟨rfl, rfl⟩
              · have hB' : ¬ (4294967296 : Int) ≤ (b2 : Int) := by omega
                clear hB
                go_wp2
                go_round
                case rel => exact ⟨c, b2, rfl, rfl, by rw [Hb2.out]; exact DF.on Hd.out Hy.out Hc.out (by rw [← Hb2.out]; omega)⟩
                case measure => have := Hc.out; simp [RowKit.intOf]; omega
            · have hA' : ¬ (4294967296 : Int) ≤ (a : Int) := by omega
              have hpb : p ≤ 4294967295 * 4294967295 := by rw [hp]; exact Nat.mul_le_mul (by omega) (by omega)
              have w5 : IntKind.u64.wrap ((a : Int) * y0) = (p : Int) := by rw [hp, IntWalk.u64_in _ ⟨by rw [← Int.natCast_mul]; omega, by rw [← Int.natCast_mul, ← hp]; omega⟩]; simp
              by_cases hT : b4 < p
              · have hy := DF.yes Hd.out (by rw [← hb3, ← hb4, ← hp]; exact hT)
                have hpos := DF.pos hy
                obtain ⟨c, hc⟩ : ∃ c, a = c + 1 := ⟨a - 1, by omega⟩
                have w1 : IntKind.u64.wrap ((a : Int) - 1) = (c : Int) := by rw [IntWalk.u64_in _ (by omega)]; omega
                have Hy := Lib.hid hy
                have Hc := Lib.hid hc
                have Hb2 := Lib.hid hb2
                clear hy hc hb2 hb3 hb4 hp hd hpos
                by_cases hB : 4294967296 ≤ b2
                · have hcQ : c = Q0 := DF.stop F2.out Hd.out Hy.out Hc.out (by rw [← Hb2.out]; exact hB)
                  subst hcQ
                  have hB' : (4294967296 : Int) ≤ (b2 : Int) := by omega
                  clear hB
                  go_wp2
                  go_ret2
                  exact ⟨rfl, rfl⟩
                · have hB' : ¬ (4294967296 : Int) ≤ (b2 : Int) := by omega
                  clear hB
                  go_wp2
                  go_round
                  case rel => exact ⟨c, b2, rfl, rfl, by rw [Hb2.out]; exact DF.on Hd.out Hy.out Hc.out (by rw [← Hb2.out]; omega)⟩
                  case measure => have := Hc.out; simp [RowKit.intOf]; omega
              · have haQ : a = Q0 := DF.out F2.out Hd.out (by rw [← hb3, ← hb4, ← hp]; exact hT)
                subst haQ
                clear hb2 hb3 hb4 hp hd
                go_wp2
                go_ret2
                exact ⟨rfl, rfl⟩
        · have hB' : ¬ (4294967296 : Int) ≤ (b2 : Int) := by omega
          clear hB
          go_wp2
          go_round
          case rel => exact ⟨c, b2, rfl, rfl, by rw [Hb2.out]; exact DF.on Hd.out Hy.out Hc.out (by rw [← Hb2.out]; omega)⟩
          case measure => have := Hc.out; simp [RowKit.intOf]; omega
      · have haQ : a = Q1 := DF.out F1.out Hd.out (by rw [← hb3, ← hb4, ← hp]; exact hT)
        subst haQ
        clear hb2 hb3 hb4 hp hd
        go_wp2
        clear ha hb hyb hub hy0b
        go_loop [18, 16] (fun qv rv => ∃ a b : Nat, qv = .int .u64 a ∧ rv = .int .u64 b ∧ DI R u0 y1 y0 a b) (fun qv _ => (RowKit.intOf qv).toNat)
        case atStart => exact ⟨_, _, rfl, rfl, by rw [Hq2.out, Hr2.out]; exact F2.out.start⟩
        case round =>
          obtain ⟨a, b, rfl, rfl, hd⟩ := hrel
          have Hd := Lib.hid hd
          have hb := hd.hb
          have ha := hd.ha
          have hyb := F2.out.hy1'
          have hub := F2.out.hu1
          have hy0b := F2.out.hy0
          have w2 : IntKind.u64.wrap ((b : Int) + y1) = ((b + y1 : Nat) : Int) := by rw [IntWalk.u64_in _ (by omega)]; omega
          have w3 : IntKind.u64.wrap (4294967296 * (b : Int)) = ((4294967296 * b : Nat) : Int) := by rw [IntWalk.u64_in _ (by omega)]; omega
          have w4 : IntKind.u64.wrap (((4294967296 * b : Nat) : Int) + u0) = ((4294967296 * b + u0 : Nat) : Int) := by rw [IntWalk.u64_in _ (by omega)]; omega
          obtain ⟨b2, hb2⟩ : ∃ b2, b2 = b + y1 := ⟨_, rfl⟩
          obtain ⟨b3, hb3⟩ : ∃ b3, b3 = 4294967296 * b := ⟨_, rfl⟩
          obtain ⟨b4, hb4⟩ : ∃ b4, b4 = b3 + u0 := ⟨_, rfl⟩
          rw [← hb2] at w2
          rw [← hb3] at w3
          rw [← hb3, ← hb4] at w4
          obtain ⟨p, hp⟩ : ∃ p, p = a * y0 := ⟨_, rfl⟩
          by_cases hA : 4294967296 ≤ a
          · have hy := F2.out.big hA
            obtain ⟨c, hc⟩ : ∃ c, a = c + 1 := ⟨a - 1, by omega⟩
            have w1 : IntKind.u64.wrap ((a : Int) - 1) = (c : Int) := by rw [IntWalk.u64_in _ (by omega)]; omega
            have Hy := Lib.hid hy
            have Hc := Lib.hid hc
            have Hb2 := Lib.hid hb2
            clear hy hc hb2 hb3 hb4 hp hd
            have hA' : (4294967296 : Int) ≤ (a : Int) := by omega
            clear hA
            by_cases hB : 4294967296 ≤ b2
            · have hcQ : c = Q0 := DF.stop F2.out Hd.out Hy.out Hc.out (by rw [← Hb2.out]; exact hB)
              subst hcQ
              have hB' : (4294967296 : Int) ≤ (b2 : Int) := by omega
              clear hB
              go_wp2
              go_ret2
              exact ⟨rfl, rfl⟩
            · have hB' : ¬ (4294967296 : Int) ≤ (b2 : Int) := by omega
              clear hB
              go_wp2
              go_round
              case rel => exact ⟨c, b2, rfl, rfl, by rw [Hb2.out]; exact DF.on Hd.out Hy.out Hc.out (by rw [← Hb2.out]; omega)⟩
              case measure => have := Hc.out; simp [RowKit.intOf]; omega
          · have hA' : ¬ (4294967296 : Int) ≤ (a : Int) := by omega
            have hpb : p ≤ 4294967295 * 4294967295 := by rw [hp]; exact Nat.mul_le_mul (by omega) (by omega)
            have w5 : IntKind.u64.wrap ((a : Int) * y0) = (p : Int) := by rw [hp, IntWalk.u64_in _ ⟨by rw [← Int.natCast_mul]; omega, by rw [← Int.natCast_mul, ← hp]; omega⟩]; simp
            by_cases hT : b4 < p
            · have hy := DF.yes Hd.out (by rw [← hb3, ← hb4, ← hp]; exact hT)
              have hpos := DF.pos hy
              obtain ⟨c, hc⟩ : ∃ c, a = c + 1 := ⟨a - 1, by omega⟩
              have w1 : IntKind.u64.wrap ((a : Int) - 1) = (c : Int) := by rw [IntWalk.u64_in _ (by omega)]; omega
              have Hy := Lib.hid hy
              have Hc := Lib.hid hc
              have Hb2 := Lib.hid hb2
              clear hy hc hb2 hb3 hb4 hp hd hpos
              by_cases hB : 4294967296 ≤ b2
              · have hcQ : c = Q0 := DF.stop F2.out Hd.out Hy.out Hc.out (by rw [← Hb2.out]; exact hB)
                subst hcQ
                have hB' : (4294967296 : Int) ≤ (b2 : Int) := by omega
                clear hB
                go_wp2
                go_ret2
                exact ⟨rfl, rfl⟩
              · have hB' : ¬ (4294967296 : Int) ≤ (b2 : Int) := by omega
                clear hB
                go_wp2
                go_round
                case rel => exact ⟨c, b2, rfl, rfl, by rw [Hb2.out]; exact DF.on Hd.out Hy.out Hc.out (by rw [← Hb2.out]; omega)⟩
                case measure => have := Hc.out; simp [RowKit.intOf]; omega
            · have haQ : a = Q0 := DF.out F2.out Hd.out (by rw [← hb3, ← hb4, ← hp]; exact hT)
              subst haQ
              clear hb2 hb3 hb4 hp hd
              go_wp2
              go_ret2
              exact ⟨rfl, rfl⟩

theorem w64u {x : Int} (h : 0 ≤ x ∧ x ≤ 18446744073709551615) : IntKind.u64.wrap x = x := IntWalk.u64_in x h

end Go.Proofs.YtjmdgicdpggljaaGreat.Num

/- Proved: math/bits.Div64 answers the quotient and the remainder of hi * 2^64 + lo by y. The conditions: hi < y, and all three are 64-bit numbers. -/
namespace Go.Proofs.YtjmdgicdpggljaaGreat.Num
open Go.RowKit Go.Lib
set_option linter.unusedVariables false

theorem bitLen_bd : ∀ (f y : Nat), f ≤ 64 → y < 2 ^ f → y ≠ 0 → 2 ^ Lib.bitLen y ≤ 2 * y ∧ y < 2 ^ Lib.bitLen y ∧ Lib.bitLen y ≤ f ∧ 1 ≤ Lib.bitLen y
  | 0, y, _, h, h0 => by simp at h; omega
  | f + 1, y, hf, h, h0 => by
    have h64 : y < 2 ^ 64 := Nat.lt_of_lt_of_le h (Nat.pow_le_pow_right (by decide) hf)
    rw [bitLen_half y h0 h64]
    by_cases h1 : y / 2 = 0
    · have : y = 1 := by omega
      subst this
      have : Lib.bitLen (1 / 2) = 0 := by decide +kernel
      rw [this]; simp
    · have hh : y / 2 < 2 ^ f := by rw [Nat.pow_succ] at h; omega
      obtain ⟨a, b, c, d⟩ := bitLen_bd f (y / 2) (by omega) hh h1
      rw [Nat.add_comm 1, Nat.pow_succ]
      omega

theorem u64_nat (n : Nat) (h : n ≤ 18446744073709551615) : IntKind.u64.wrap (n : Int) = (n : Int) := IntWalk.u64_in _ (by omega)
theorem u64_mod (n : Nat) : IntKind.u64.wrap (n : Int) = ((n % 18446744073709551616 : Nat) : Int) := by rw [IntKind.wrap_u64]; omega
theorem u64_and32 (n : Nat) (h : n ≤ 18446744073709551615) : bits .and .u64 (n : Int) 4294967295 = ((n % 4294967296 : Nat) : Int) := by
  rw [show (4294967295 : Int) = ((4294967295 : Nat) : Int) from rfl, bits_and_u64_nat n 4294967295 (by omega) (by decide), show (4294967295 : Nat) = 2 ^ 32 - 1 from rfl, Nat.and_two_pow_sub_one_eq_mod]
theorem u64_wraps (n : Int) (h0 : 0 ≤ n) (h1 : n < 2 ^ 64) : IntKind.u64.wrap n = n := IntWalk.u64_in _ (by omega)

/-- What is left behind a digit, as the code reckons it: round and round. -/
theorem left_wrap (u u1 q Y : Nat) (hq : q * Y ≤ u * 4294967296 + u1) (hr : u * 4294967296 + u1 - q * Y ≤ 18446744073709551615) :
    IntKind.u64.wrap ((((((u * 4294967296) % 18446744073709551616 + u1) % 18446744073709551616 : Nat)) : Int) - ((q * Y % 18446744073709551616 : Nat) : Int)) = ((u * 4294967296 + u1 - q * Y : Nat) : Int) := by
  rw [IntKind.wrap_u64]
  generalize q * Y = p at *
  omega

theorem sub_div_mul (a Y : Nat) : a - a / Y * Y = a % Y := by
  have h := Nat.div_add_mod a Y
  rw [Nat.mul_comm] at h
  generalize a / Y * Y = p at *
  omega

theorem div64_1 (hi lo y : Nat) (h0 : 0 < hi) (hl : hi < y) (hlo : lo ≤ 18446744073709551615) (hyy : y ≤ 18446744073709551615) (w : World) :
    Calls Tryz.prog 173 #[.int .u64 hi, .int .u64 lo, .int .u64 y] w fun e w' => e = .returned (.tuple #[.int .u64 (((hi * 18446744073709551616 + lo) / y : Nat) : Int), .int .u64 (((hi * 18446744073709551616 + lo) % y : Nat) : Int)]) ∧ w' = w := by
  obtain ⟨b1, b2, b3, b4⟩ := bitLen_bd 64 y (by omega) (by omega) (by omega)
  obtain ⟨s, hs⟩ : ∃ s, s = 64 - Lib.bitLen y := ⟨_, rfl⟩
  obtain ⟨P, hP⟩ : ∃ P, P = 2 ^ s := ⟨_, rfl⟩
  have hPT : P * 2 ^ (64 - s) = 18446744073709551616 := by rw [hP, ← Nat.pow_add, show s + (64 - s) = 64 by omega]
  have hPn : 2 ^ Lib.bitLen y * P = 18446744073709551616 := by rw [hP, ← Nat.pow_add, show Lib.bitLen y + s = 64 by omega]
  have hP0 : 0 < P := by rw [hP]; exact Nat.two_pow_pos s
  have hY1 : 18446744073709551616 ≤ 2 * (y * P) := by rw [← hPn, ← Nat.mul_assoc]; exact Nat.mul_le_mul_right _ b1
  have hY2 : y * P < 18446744073709551616 := by rw [← hPn]; exact Nat.mul_lt_mul_of_pos_right b2 hP0
  obtain ⟨Y, hY⟩ : ∃ Y, Y = y * P := ⟨_, rfl⟩
  rw [← hY] at hY1 hY2
  have hhP : hi * P + P ≤ Y := by rw [hY]; have := Nat.mul_le_mul_right P (show hi + 1 ≤ y by omega); rw [Nat.add_mul, Nat.one_mul] at this; exact this
  -- lo, shifted
  obtain ⟨T, hT⟩ : ∃ T, T = 2 ^ (64 - s) := ⟨_, rfl⟩
  have hT0 : 0 < T := by rw [hT]; exact Nat.two_pow_pos _
  rw [← hT] at hPT
  have hlT : lo / T < P := by rw [Nat.div_lt_iff_lt_mul hT0, hPT]; omega
  have hlT2 : lo * P / 18446744073709551616 = lo / T := by rw [← hPT, Nat.mul_comm P T]; exact Nat.mul_div_mul_right _ _ hP0
  obtain ⟨u, hu⟩ : ∃ u, u = hi * P + lo / T := ⟨_, rfl⟩
  obtain ⟨L, hL⟩ : ∃ L, L = lo * P % 18446744073709551616 := ⟨_, rfl⟩
  have hLb : L < 18446744073709551616 := by rw [hL]; exact Nat.mod_lt _ (by decide)
  have huY : u < Y := by omega
  have hN : (hi * 18446744073709551616 + lo) * P = u * 18446744073709551616 + L := by
    have := Nat.div_add_mod (lo * P) 18446744073709551616
    rw [hlT2, ← hL] at this
    rw [hu, Nat.add_mul, ← this, Nat.add_mul]
    have : hi * 18446744073709551616 * P = hi * P * 18446744073709551616 := by grind
    omega
  obtain ⟨y1, hy1⟩ : ∃ y1, y1 = Y / 4294967296 := ⟨_, rfl⟩
  obtain ⟨y0, hy0⟩ : ∃ y0, y0 = Y % 4294967296 := ⟨_, rfl⟩
  obtain ⟨u1, hu1⟩ : ∃ u1, u1 = L / 4294967296 := ⟨_, rfl⟩
  obtain ⟨u0, hu0⟩ : ∃ u0, u0 = L % 4294967296 := ⟨_, rfl⟩
  have hyy0 : y1 * 4294967296 + y0 = Y := by omega
  have f1 : DF u u1 y1 y0 ((u * 4294967296 + u1) / Y) := ⟨by omega, by omega, by omega, by omega, by omega, by rw [hyy0]⟩
  have hRb : (u * 4294967296 + u1) % Y < Y := Nat.mod_lt _ (by omega)
  have f2 : DF ((u * 4294967296 + u1) % Y) u0 y1 y0 (((u * 4294967296 + u1) % Y * 4294967296 + u0) / Y) := ⟨by omega, by omega, by omega, by omega, by omega, by rw [hyy0]⟩
  have hq1 := f1.start.ha
  have hq2 := f2.start.ha
  have ht := two_digits u u1 u0 Y (by omega)
  have hsc := scaled (hi * 18446744073709551616 + lo) y P hP0
  rw [hN, ← hY, show L = u1 * 4294967296 + u0 by omega, ← ht.1, ← ht.2] at hsc
  have hQ1 : (u * 4294967296 + u1) / Y < 4294967296 := digit_small (u := u) (u1 := u1) (y1 := y1) (y0 := y0) (by omega) (by omega) (by rw [hyy0]; exact Nat.div_mul_le_self _ _)
  have hQ0 : ((u * 4294967296 + u1) % Y * 4294967296 + u0) / Y < 4294967296 := digit_small (u := (u * 4294967296 + u1) % Y) (y1 := y1) (y0 := y0) (u1 := u0) (by omega) (by omega) (by rw [hyy0]; exact Nat.div_mul_le_self _ _)
  have hR1 : u * 4294967296 + u1 - (u * 4294967296 + u1) / Y * Y = (u * 4294967296 + u1) % Y := sub_div_mul _ _
  have hle1 : (u * 4294967296 + u1) / Y * Y ≤ u * 4294967296 + u1 := Nat.div_mul_le_self _ _
  obtain ⟨R, hR⟩ : ∃ R, R = (u * 4294967296 + u1) % Y := ⟨_, rfl⟩
  obtain ⟨Q1, hQ1e⟩ : ∃ Q1, Q1 = (u * 4294967296 + u1) / Y := ⟨_, rfl⟩
  rw [← hR] at f2 hR1 hRb hq2 hQ0 hsc
  rw [← hQ1e] at f1 hR1 hle1 hQ1 hsc
  have hR2 : R * 4294967296 + u0 - (R * 4294967296 + u0) / Y * Y = (R * 4294967296 + u0) % Y := sub_div_mul _ _
  have hle2 : (R * 4294967296 + u0) / Y * Y ≤ R * 4294967296 + u0 := Nat.div_mul_le_self _ _
  have hSb : (R * 4294967296 + u0) % Y < Y := Nat.mod_lt _ (by omega)
  obtain ⟨Q0, hQ0e⟩ : ∃ Q0, Q0 = (R * 4294967296 + u0) / Y := ⟨_, rfl⟩
  rw [← hQ0e] at f2 hR2 hle2 hQ0 hsc
  have hm1 : u / y1 * y1 ≤ u := Nat.div_mul_le_self _ _
  have hm2 : R / y1 * y1 ≤ R := Nat.div_mul_le_self _ _
  have hd1 := Nat.div_add_mod u y1
  have hd2 := Nat.div_add_mod R y1
  rw [Nat.mul_comm] at hd1 hd2
  have c := div64_core hi lo y s (64 - s) Y y1 y0 u L u1 u0 (u / y1) (u / y1 * y1) (u % y1) R Q1 (R / y1) (R / y1 * y1) (R % y1) Q0 (Q1 * 4294967296 + Q0) ((R * 4294967296 + u0) % Y / 2 ^ s)
    ((u * 4294967296) % 18446744073709551616) (((u * 4294967296) % 18446744073709551616 + u1) % 18446744073709551616) (Q1 * Y % 18446744073709551616) (Q1 * 4294967296)
    ((R * 4294967296) % 18446744073709551616) (((R * 4294967296) % 18446744073709551616 + u0) % 18446744073709551616) (Q0 * Y % 18446744073709551616)
    h0 hl hyy (by omega) (by omega) rfl
    (by rw [show ((y : Int) * 2 ^ s) = ((y * P : Nat) : Int) by rw [hP]; simp, ← hY]; exact u64_nat _ (by omega)) (by omega) (by rw [hy0]; exact u64_and32 _ (by omega))
    (by
      have e1 : ((hi : Int) * 2 ^ s) = ((hi * P : Nat) : Int) := by rw [hP]; simp
      have e2 : (lo : Int) / 2 ^ (64 - s) = ((lo / T : Nat) : Int) := by rw [hT]; simp
      rw [e1, e2, u64_nat _ (by omega)]
      rw [bits_join .u64 64 (by decide) u64_wraps s ((hi * P : Nat) : Int) ((lo / T : Nat) : Int) (by omega) (by rw [hP]; simp) (by omega) (by omega) (by rw [show ((2 : Int) ^ s) = ((2 ^ s : Nat) : Int) by simp, ← hP]; omega) (by omega)]
      omega)
    (by rw [show ((lo : Int) * 2 ^ s) = ((lo * P : Nat) : Int) by rw [hP]; simp, hL]; exact u64_mod _) (by omega) (by rw [hu0]; exact u64_and32 _ (by omega))
    f1 (by rw [← Int.natCast_ediv]; exact u64_nat _ (by omega)) (by rw [← Int.natCast_mul]; exact u64_nat _ (by omega)) (by rw [show (u : Int) - ((u / y1 * y1 : Nat) : Int) = ((u % y1 : Nat) : Int) by omega]; exact u64_nat _ (by omega)) rfl rfl
    (by rw [show (u : Int) * 4294967296 = ((u * 4294967296 : Nat) : Int) by simp]; exact u64_mod _) (by rw [← Int.natCast_add]; exact u64_mod _) (by rw [← Int.natCast_mul]; exact u64_mod _) (by rw [left_wrap u u1 Q1 Y hle1 (by omega), hR1])
    f2 (by rw [← Int.natCast_ediv]; exact u64_nat _ (by omega)) (by rw [← Int.natCast_mul]; exact u64_nat _ (by omega)) (by rw [show (R : Int) - ((R / y1 * y1 : Nat) : Int) = ((R % y1 : Nat) : Int) by omega]; exact u64_nat _ (by omega)) rfl rfl
    (by rw [show (Q1 : Int) * 4294967296 = ((Q1 * 4294967296 : Nat) : Int) by simp]; exact u64_nat _ (by omega)) (by rw [← Int.natCast_add]; exact u64_nat _ (by omega))
    (by rw [show (R : Int) * 4294967296 = ((R * 4294967296 : Nat) : Int) by simp]; exact u64_mod _) (by rw [← Int.natCast_add]; exact u64_mod _) (by rw [← Int.natCast_mul]; exact u64_mod _) (by rw [left_wrap R u0 Q0 Y hle2 (by omega), hR2]; simp)
    w
  refine c.mono fun e w' h => ?_
  obtain ⟨h1, h2⟩ := h
  refine ⟨?_, h2⟩
  rw [h1, ← hsc.1, ← hsc.2, hP]

/-- All of it. -/
theorem div64 (hi lo y : Nat) (hl : hi < y) (hlo : lo ≤ 18446744073709551615) (hyy : y ≤ 18446744073709551615) (w : World) :
    Calls Tryz.prog 173 #[.int .u64 hi, .int .u64 lo, .int .u64 y] w fun e w' => e = .returned (.tuple #[.int .u64 (((hi * 18446744073709551616 + lo) / y : Nat) : Int), .int .u64 (((hi * 18446744073709551616 + lo) % y : Nat) : Int)]) ∧ ∃ n, w' = w.drewN n := by
  by_cases h0 : hi = 0
  · subst h0
    simpa using div64_0 lo y hl hlo hyy w
  · exact (div64_1 hi lo y (by omega) hl hlo hyy w).mono fun e w' h => ⟨h.1, 0, h.2⟩

end Go.Proofs.YtjmdgicdpggljaaGreat.Num

/- Proved: what each function of package num answers, for all 64-bit numbers: sums, differences and products, or the nearer bound; parts of numbers; a number between bounds. -/
namespace Go.Proofs.YtjmdgicdpggljaaGreat.Num
open Go.RowKit
set_option linter.unusedVariables false

/-- A 64-bit number. -/
def In (x : Int) : Prop := -9223372036854775808 ≤ x ∧ x ≤ 9223372036854775807
/-- A number, or the nearer bound. -/
def sat (x : Int) : Int := if x > 9223372036854775807 then 9223372036854775807 else if x < -9223372036854775808 then -9223372036854775808 else x
theorem sat_in (x : Int) : In (sat x) := by unfold In sat; split <;> (try split) <;> omega
theorem sat_id {x : Int} (h : In x) : sat x = x := by unfold In at h; unfold sat; split <;> (try split) <;> omega

def RetI (r : Int) (w : World) (e : Ending) (w' : World) : Prop := e = .returned (.int .i64 r) ∧ w = w'
theorem RetI.mk {r r' : Int} {w : World} (h : r' = r) : RetI r w (.returned (.int .i64 r')) w := by subst h; exact ⟨rfl, rfl⟩

set_option maxHeartbeats 400000 in
theorem add_any (a b : Int) (w : World) (ha : In a) (hb : In b) : Calls Tryz.prog 33 #[.int .i64 a, .int .i64 b] w (RetI (sat (a + b)) w) := by
  unfold In at ha hb
  obtain ⟨a0, a1⟩ := ha
  obtain ⟨b0, b1⟩ := hb
  obtain ⟨s, hs⟩ : ∃ s, s = wrap64 (a + b) := ⟨_, rfl⟩
  have hsv : (a + b > 9223372036854775807 → s = a + b - 18446744073709551616) ∧ (a + b < -9223372036854775808 → s = a + b + 18446744073709551616) ∧ (-9223372036854775808 ≤ a + b → a + b ≤ 9223372036854775807 → s = a + b) := by
    rw [hs]; unfold wrap64; omega
  have Hv := Lib.hid hsv
  have e1 : wrap64 (a + b) = s := hs.symm
  have e2 : IntKind.i64.wrap (a + b) = s := by rw [IntWalk.i64_left]; exact e1
  clear hs hsv
  by_cases h1 : 0 < a
  · by_cases h2 : 0 < b
    · by_cases h3 : s ≤ 0
      · go_enter Tryz.func33, Tryz.ntmps33
        go_wp2
        go_ret
        exact RetI.mk (by have := Hv.out; unfold sat; split <;> (try split) <;> omega)
      · have h4 : ¬ a < 0 := by omega
        go_enter Tryz.func33, Tryz.ntmps33
        go_wp2
        go_ret
        exact RetI.mk (by have := Hv.out; unfold sat; split <;> (try split) <;> omega)
    · have h4 : ¬ a < 0 := by omega
      go_enter Tryz.func33, Tryz.ntmps33
      go_wp2
      go_ret
      exact RetI.mk (by have := Hv.out; unfold sat; split <;> (try split) <;> omega)
  · by_cases h2 : a < 0
    · by_cases h3 : b < 0
      · by_cases h4 : 0 ≤ s
        · go_enter Tryz.func33, Tryz.ntmps33
          go_wp2
          go_ret
          exact RetI.mk (by have := Hv.out; unfold sat; split <;> (try split) <;> omega)
        · go_enter Tryz.func33, Tryz.ntmps33
          go_wp2
          go_ret
          exact RetI.mk (by have := Hv.out; unfold sat; split <;> (try split) <;> omega)
      · go_enter Tryz.func33, Tryz.ntmps33
        go_wp2
        go_ret
        exact RetI.mk (by have := Hv.out; unfold sat; split <;> (try split) <;> omega)
    · go_enter Tryz.func33, Tryz.ntmps33
      go_wp2
      go_ret
      exact RetI.mk (by have := Hv.out; unfold sat; split <;> (try split) <;> omega)

set_option maxHeartbeats 400000 in
theorem clamp_any (n lo hi : Int) (w : World) : Calls Tryz.prog 160 #[.int .i64 n, .int .i64 lo, .int .i64 hi] w (RetI (max lo (min n hi)) w) := by
  go_enter Tryz.func160, Tryz.ntmps160
  go_wp2
  go_ret
  exact RetI.mk rfl

def RetU (r : Nat) (w : World) (e : Ending) (w' : World) : Prop := e = .returned (.int .u64 (r : Int)) ∧ w = w'
theorem RetU.mk {r : Nat} {r' : Int} {w : World} (h : r' = r) : RetU r w (.returned (.int .u64 r')) w := by subst h; exact ⟨rfl, rfl⟩

/-- A magnitude of 128 bits with a sign, or the bound that it would be beyond. -/
def sgn (hi lo : Nat) (neg : Bool) : Int := if neg = true then sat (-((hi * 18446744073709551616 + lo : Nat) : Int)) else sat ((hi * 18446744073709551616 + lo : Nat) : Int)

set_option maxHeartbeats 400000 in
theorem signed_pos (hi lo : Nat) (w : World) (hlo : lo ≤ 18446744073709551615) : Calls Tryz.prog 174 #[.int .u64 hi, .int .u64 lo, .bool false] w (RetI (sat ((hi * 18446744073709551616 + lo : Nat) : Int)) w) := by
  by_cases h : 0 < hi
  · have h' : (0 : Int) < (hi : Int) := by omega
    go_enter Tryz.func174, Tryz.ntmps174
    go_wp2
    go_ret
    exact RetI.mk (by unfold sat; rw [if_pos (by omega)])
  · obtain rfl : hi = 0 := by omega
    clear h
    obtain ⟨x, hx⟩ : ∃ x : Int, x = (lo : Int) := ⟨_, rfl⟩
    rw [← hx]
    have Hx := Lib.hid hx
    have x0 : 0 ≤ x := by omega
    have x1 : x ≤ 18446744073709551615 := by omega
    clear hx hlo
    by_cases h1 : 9223372036854775807 < x
    · go_enter Tryz.func174, Tryz.ntmps174
      go_wp2
      go_ret
      exact RetI.mk (by have := Hx.out; unfold sat; rw [if_pos (by omega)])
    · go_enter Tryz.func174, Tryz.ntmps174
      go_wp2
      go_ret
      exact RetI.mk (by have := Hx.out; unfold sat; rw [if_neg (by omega), if_neg (by omega)]; omega)

set_option maxHeartbeats 400000 in
theorem signed_neg (hi lo : Nat) (w : World) (hlo : lo ≤ 18446744073709551615) : Calls Tryz.prog 174 #[.int .u64 hi, .int .u64 lo, .bool true] w (RetI (sat (-((hi * 18446744073709551616 + lo : Nat) : Int))) w) := by
  by_cases h : 0 < hi
  · have h' : (0 : Int) < (hi : Int) := by omega
    go_enter Tryz.func174, Tryz.ntmps174
    go_wp2
    go_ret
    exact RetI.mk (by unfold sat; rw [if_neg (by omega), if_pos (by omega)])
  · obtain rfl : hi = 0 := by omega
    clear h
    obtain ⟨x, hx⟩ : ∃ x : Int, x = (lo : Int) := ⟨_, rfl⟩
    rw [← hx]
    have Hx := Lib.hid hx
    have x0 : 0 ≤ x := by omega
    have x1 : x ≤ 18446744073709551615 := by omega
    clear hx hlo
    by_cases h1 : 9223372036854775808 < x
    · go_enter Tryz.func174, Tryz.ntmps174
      go_wp2
      go_ret
      exact RetI.mk (by have := Hx.out; unfold sat; rw [if_neg (by omega), if_pos (by omega)])
    · obtain ⟨y, hy⟩ : ∃ y, y = IntKind.u64.wrap (-x) := ⟨_, rfl⟩
      have hyv : y = if x = 0 then 0 else 18446744073709551616 - x := by rw [hy, IntKind.wrap_u64]; split <;> omega
      have e1 : IntKind.u64.wrap (-x) = y := hy.symm
      obtain ⟨z, hz⟩ : ∃ z, z = wrap64 y := ⟨_, rfl⟩
      have hzv : z = -x := by rw [hz, hyv]; unfold wrap64; split <;> omega
      have e2 : wrap64 y = z := hz.symm
      have e3 : IntKind.i64.wrap y = z := by rw [IntWalk.i64_left]; exact e2
      have Hz := Lib.hid hzv
      clear hy hyv hz hzv
      go_enter Tryz.func174, Tryz.ntmps174
      go_wp2
      go_ret
      exact RetI.mk (by have := Hx.out; have := Hz.out; unfold sat; rw [if_neg (by omega), if_neg (by omega)]; omega)

end Go.Proofs.YtjmdgicdpggljaaGreat.Num

/- Proved: what num.Mul, num.Frac and num.FracUp answer, for all 64-bit numbers: a product, and parts of numbers, or the nearer bound. -/
namespace Go.Proofs.YtjmdgicdpggljaaGreat.Num
open Go.RowKit
set_option linter.unusedVariables false

theorem mulHL (x y : Nat) : (x * y / 18446744073709551616 * 18446744073709551616 + x * y % 18446744073709551616 : Nat) = x * y := by
  generalize x * y = p
  omega
theorem mod_le (p : Nat) : p % 18446744073709551616 ≤ 18446744073709551615 := by omega

theorem mul64_any (x y : Nat) (hx : x ≤ 18446744073709551615) (hy : y ≤ 18446744073709551615) (w : World) :
    Calls Tryz.prog 163 #[.int .u64 x, .int .u64 y] w fun e w' => e = .returned (.tuple #[.int .u64 ((x * y / 18446744073709551616 : Nat) : Int), .int .u64 ((x * y % 18446744073709551616 : Nat) : Int)]) ∧ w = w' :=
  (Tryz.bits_Mul64 x y (by omega) (by omega) w).mono fun _ _ h => ⟨h.1, h.2.symm⟩

end Go.Proofs.YtjmdgicdpggljaaGreat.Num

/- Proved: what num.Frac and num.FracUp answer, for all 64-bit numbers: n times up by down, without or with what is left, or the greatest number. -/
namespace Go.Proofs.YtjmdgicdpggljaaGreat.Num
open Go.RowKit
set_option linter.unusedVariables false

/-- So many parts of a number. -/
def frac (n up down : Int) : Int := if n < 0 ∨ up < 0 ∨ down ≤ 0 then 0 else sat (n * up / down)
/-- The same, one more if something is left. -/
def fracUp (n up down : Int) : Int := if n < 0 ∨ up < 0 ∨ down ≤ 0 then 0 else sat ((n * up + down - 1) / down)

/-- An answer; the world was drawn. -/
def RetD (r : Int) (w : World) (e : Ending) (w' : World) : Prop := e = .returned (.int .i64 r) ∧ ∃ k, w' = w.drewN k
theorem RetD.mk {r r' : Int} {w w' : World} (h : r' = r) (hw : ∃ k, w' = w.drewN k) : RetD r w (.returned (.int .i64 r')) w' := by subst h; exact ⟨rfl, hw⟩
def RetP (q r : Int) (w : World) (e : Ending) (w' : World) : Prop := e = .returned (.tuple #[.int .i64 q, .int .u64 r]) ∧ ∃ k, w' = w.drewN k

set_option maxHeartbeats 400000 in
theorem part_bad (n up down : Int) (w : World) (h : n < 0 ∨ up < 0 ∨ down ≤ 0) : Calls Tryz.prog 162 #[.int .i64 n, .int .i64 up, .int .i64 down] w (RetP 0 0 w) := by
  by_cases h1 : n < 0
  · have d1 : decide (n < 0) = true := by simp [h1]
    go_enter Tryz.func162, Tryz.ntmps162
    go_wp2
    go_ret2
    exact ⟨rfl, 0, rfl⟩
  · have d1 : decide (n < 0) = false := by simp [h1]
    by_cases h2 : up < 0
    · have d2 : decide (up < 0) = true := by simp [h2]
      clear h
      go_enter Tryz.func162, Tryz.ntmps162
      go_wp2
      go_ret2
      exact ⟨rfl, 0, rfl⟩
    · have d2 : decide (up < 0) = false := by simp [h2]
      have h3 : down ≤ 0 := by omega
      have d3 : decide (down ≤ 0) = true := by simp [h3]
      clear h
      go_enter Tryz.func162, Tryz.ntmps162
      go_wp2
      go_ret2
      exact ⟨rfl, 0, rfl⟩

theorem hi_small {N U D : Nat} (_hD : 0 < D) (h : N * U / 18446744073709551616 < D) : N * U / D ≤ 18446744073709551615 := by
  have h1 := (Nat.div_lt_iff_lt_mul (show 0 < 18446744073709551616 by decide)).1 h
  have h2 : N * U < 18446744073709551616 * D := by rw [Nat.mul_comm _ D]; exact h1
  have := (Nat.div_lt_iff_lt_mul (show 0 < D by omega)).2 h2
  omega
theorem hi_great {N U D : Nat} (hD : 0 < D) (h : D ≤ N * U / 18446744073709551616) : 18446744073709551616 ≤ N * U / D := by
  have h1 := (Nat.le_div_iff_mul_le (show 0 < 18446744073709551616 by decide)).1 h
  exact (Nat.le_div_iff_mul_le hD).2 (by rw [Nat.mul_comm]; exact h1)

set_option maxHeartbeats 400000 in
theorem part_great (N U D : Nat) (hN : N ≤ 9223372036854775807) (hU : U ≤ 9223372036854775807) (hD : D ≤ 9223372036854775807) (h0 : 0 < D) (w : World) (h : D ≤ N * U / 18446744073709551616) :
    Calls Tryz.prog 162 #[.int .i64 N, .int .i64 U, .int .i64 D] w (RetP 9223372036854775807 0 w) := by
  have cm := mul64_any N U (by omega) (by omega) w
  generalize N * U / 18446744073709551616 = P at *
  generalize N * U % 18446744073709551616 = L at *
  have Cm := Lib.hid cm
  clear cm
  have e1 : IntKind.u64.wrap (N : Int) = N := IntWalk.u64_in _ (by omega)
  have e2 : IntKind.u64.wrap (U : Int) = U := IntWalk.u64_in _ (by omega)
  have e3 : IntKind.u64.wrap (D : Int) = D := IntWalk.u64_in _ (by omega)
  have d1 : decide ((N : Int) < 0) = false := by simp
  have d2 : decide ((U : Int) < 0) = false := by simp
  have d3 : decide ((D : Int) ≤ 0) = false := by simp; omega
  have d3' : ¬ ((D : Int) ≤ 0) := by omega
  have d4 : ¬ D = 0 := by omega
  have h' : (D : Int) ≤ (P : Int) := by omega
  go_enter Tryz.func162, Tryz.ntmps162
  go_wp2_with (go_at_call 163; refine (Cm.out).mono ?_; rintro e w' ⟨rfl, rfl⟩)
  go_ret2
  exact ⟨rfl, 0, rfl⟩

set_option maxHeartbeats 400000 in
theorem part_small (N U D : Nat) (hN : N ≤ 9223372036854775807) (hU : U ≤ 9223372036854775807) (hD : D ≤ 9223372036854775807) (h0 : 0 < D) (w : World) (h : N * U / 18446744073709551616 < D) :
    Calls Tryz.prog 162 #[.int .i64 N, .int .i64 U, .int .i64 D] w (RetP (sat ((N * U / D : Nat) : Int)) ((N * U % D : Nat) : Int) w) := by
  have cm := mul64_any N U (by omega) (by omega) w
  have hp := mulHL N U
  have hl := mod_le (N * U)
  have hq := hi_small h0 h
  obtain ⟨P, hP⟩ : ∃ P, P = N * U / 18446744073709551616 := ⟨_, rfl⟩
  obtain ⟨L, hL⟩ : ∃ L, L = N * U % 18446744073709551616 := ⟨_, rfl⟩
  rw [← hP, ← hL] at hp cm
  rw [← hL] at hl
  rw [← hP] at h
  have cd := div64 P L D h hl (by omega) w
  rw [hp] at cd
  have cs := fun w => signed_pos 0 (N * U / D) w hq
  rw [Nat.zero_mul, Nat.zero_add] at cs
  obtain ⟨Q, hQ⟩ : ∃ Q, Q = N * U / D := ⟨_, rfl⟩
  obtain ⟨R, hR⟩ : ∃ R, R = N * U % D := ⟨_, rfl⟩
  rw [← hQ, ← hR] at cd ⊢
  rw [← hQ] at cs
  have Cm := Lib.hid cm
  have Cd := Lib.hid cd
  have Cs := Lib.hid cs
  clear cm cd cs hp hP hL hl hQ hR hq
  have e1 : IntKind.u64.wrap (N : Int) = N := IntWalk.u64_in _ (by omega)
  have e2 : IntKind.u64.wrap (U : Int) = U := IntWalk.u64_in _ (by omega)
  have e3 : IntKind.u64.wrap (D : Int) = D := IntWalk.u64_in _ (by omega)
  have d1 : decide ((N : Int) < 0) = false := by simp
  have d2 : decide ((U : Int) < 0) = false := by simp
  have d3 : decide ((D : Int) ≤ 0) = false := by simp; omega
  have d3' : ¬ ((D : Int) ≤ 0) := by omega
  have d4 : ¬ D = 0 := by omega
  have h' : ¬ (D : Int) ≤ (P : Int) := by omega
  go_enter Tryz.func162, Tryz.ntmps162
  go_wp2_with fail
  refine (Cm.out).mono ?_
  rintro e w' ⟨rfl, rfl⟩
  go_wp2_with fail
  refine (Cd.out).mono ?_
  rintro e w' ⟨rfl, k, rfl⟩
  go_wp2_with fail
  refine (Cs.out _).mono ?_
  rintro e w' ⟨rfl, rfl⟩
  go_wp2
  go_ret2
  exact ⟨rfl, k, rfl⟩

set_option maxHeartbeats 400000 in
theorem frac_any (n up down : Int) (w : World) (hn : In n) (hu : In up) (hd : In down) : Calls Tryz.prog 139 #[.int .i64 n, .int .i64 up, .int .i64 down] w (RetD (frac n up down) w) := by
  have key : ∃ r, Calls Tryz.prog 162 #[.int .i64 n, .int .i64 up, .int .i64 down] w (RetP (frac n up down) r w) := by
    unfold In at hn hu hd
    by_cases h : n < 0 ∨ up < 0 ∨ down ≤ 0
    · exact ⟨0, by unfold frac; rw [if_pos h]; exact part_bad n up down w h⟩
    · obtain ⟨N, rfl⟩ : ∃ N : Nat, n = N := ⟨n.toNat, by omega⟩
      obtain ⟨U, rfl⟩ : ∃ N : Nat, up = N := ⟨up.toNat, by omega⟩
      obtain ⟨D, rfl⟩ : ∃ N : Nat, down = N := ⟨down.toNat, by omega⟩
      have e : frac N U D = sat ((N * U / D : Nat) : Int) := by unfold frac; rw [if_neg h]; simp
      rw [e]
      by_cases hc : N * U / 18446744073709551616 < D
      · exact ⟨_, part_small N U D (by omega) (by omega) (by omega) (by omega) w hc⟩
      · have hg := hi_great (show 0 < D by omega) (show D ≤ N * U / 18446744073709551616 by omega)
        refine ⟨0, ?_⟩
        rw [show sat ((N * U / D : Nat) : Int) = 9223372036854775807 by unfold sat; rw [if_pos (by omega)]]
        exact part_great N U D (by omega) (by omega) (by omega) (by omega) w (by omega)
  obtain ⟨r, c⟩ := key
  generalize frac n up down = q at *
  have C := Lib.hid c
  clear c hn hu hd
  go_enter Tryz.func139, Tryz.ntmps139
  go_wp2_with fail
  refine (C.out).mono ?_
  rintro e w' ⟨rfl, k, rfl⟩
  go_wp2
  go_ret
  exact RetD.mk rfl ⟨k, rfl⟩

theorem ceil_of (a D : Nat) (h0 : 0 < D) : ((a : Int) + D - 1) / D = ((a / D : Nat) : Int) + (if a % D = 0 then 0 else 1) := by
  have hm := Nat.div_add_mod a D
  have hl := Nat.mod_lt a h0
  generalize a / D = q at *
  generalize a % D = r at *
  have e : (a : Int) = (D : Int) * (q : Int) + r := by rw [← hm]; simp
  rw [e]
  split
  · next h =>
    subst h
    rw [show (D : Int) * q + ((0 : Nat) : Int) + D - 1 = (D - 1 : Int) + D * q by omega, Int.add_mul_ediv_left _ _ (by omega), Int.ediv_eq_zero_of_lt (by omega) (by omega)]
    omega
  · next h =>
    rw [show (D : Int) * q + (r : Int) + D - 1 = (r - 1 : Int) + D * (q + 1) by rw [Int.mul_add]; omega, Int.add_mul_ediv_left _ _ (by omega), Int.ediv_eq_zero_of_lt (by omega) (by omega)]
    omega

set_option maxHeartbeats 400000 in
theorem fracUp_of (n up down q r : Int) (w : World) (c : Calls Tryz.prog 162 #[.int .i64 n, .int .i64 up, .int .i64 down] w (RetP q r w)) (hq : In q) (hr : 0 ≤ r) : Calls Tryz.prog 140 #[.int .i64 n, .int .i64 up, .int .i64 down] w (RetD (if 0 < r then sat (q + 1) else q) w) := by
  have C := Lib.hid c
  have ca := fun w => add_any q 1 w hq ⟨by omega, by omega⟩
  have Ca := Lib.hid ca
  clear c ca hq
  by_cases h : 0 < r
  · rw [if_pos h]
    go_enter Tryz.func140, Tryz.ntmps140
    go_wp2_with fail
    refine (C.out).mono ?_
    rintro e w' ⟨rfl, k, rfl⟩
    go_wp2_with fail
    refine (Ca.out _).mono ?_
    rintro e w' ⟨rfl, rfl⟩
    go_wp2
    go_ret
    exact RetD.mk rfl ⟨k, rfl⟩
  · rw [if_neg h]
    go_enter Tryz.func140, Tryz.ntmps140
    go_wp2_with fail
    refine (C.out).mono ?_
    rintro e w' ⟨rfl, k, rfl⟩
    go_wp2
    go_ret
    exact RetD.mk rfl ⟨k, rfl⟩

theorem fracUp_any (n up down : Int) (w : World) (hn : In n) (hu : In up) (hd : In down) : Calls Tryz.prog 140 #[.int .i64 n, .int .i64 up, .int .i64 down] w (RetD (fracUp n up down) w) := by
  unfold In at hn hu hd
  by_cases h : n < 0 ∨ up < 0 ∨ down ≤ 0
  · have c := fracUp_of n up down 0 0 w (part_bad n up down w h) ⟨by omega, by omega⟩ (by omega)
    rw [if_neg (by omega)] at c
    unfold fracUp; rw [if_pos h]; exact c
  · obtain ⟨N, rfl⟩ : ∃ N : Nat, n = N := ⟨n.toNat, by omega⟩
    obtain ⟨U, rfl⟩ : ∃ N : Nat, up = N := ⟨up.toNat, by omega⟩
    obtain ⟨D, rfl⟩ : ∃ N : Nat, down = N := ⟨down.toNat, by omega⟩
    have h0 : 0 < D := by omega
    have e : fracUp N U D = sat (((N * U / D : Nat) : Int) + (if N * U % D = 0 then 0 else 1)) := by unfold fracUp; rw [if_neg h, ← ceil_of _ _ h0]; simp
    rw [e]
    by_cases hc : N * U / 18446744073709551616 < D
    · have c := fracUp_of N U D _ _ w (part_small N U D (by omega) (by omega) (by omega) h0 w hc) (sat_in _) (by omega)
      have hs : (if (0 : Int) < ((N * U % D : Nat) : Int) then sat (sat ((N * U / D : Nat) : Int) + 1) else sat ((N * U / D : Nat) : Int)) = sat (((N * U / D : Nat) : Int) + (if N * U % D = 0 then 0 else 1)) := by
        generalize N * U / D = Q
        generalize N * U % D = R
        by_cases hR : R = 0
        · subst hR; simp
        · rw [if_pos (by omega), if_neg hR]
          unfold sat
          repeat' split
          all_goals omega
      rw [hs] at c
      exact c
    · have hg := hi_great h0 (show D ≤ N * U / 18446744073709551616 by omega)
      have c := fracUp_of N U D _ _ w (part_great N U D (by omega) (by omega) (by omega) h0 w (by omega)) ⟨by omega, by omega⟩ (by omega)
      rw [if_neg (by omega)] at c
      rw [show sat (((N * U / D : Nat) : Int) + (if N * U % D = 0 then 0 else 1)) = 9223372036854775807 by unfold sat; split <;> (try split) <;> omega]
      exact c

end Go.Proofs.YtjmdgicdpggljaaGreat.Num
