/- Proved: what math/bits.Div64 answers where hi is below y: the quotient and the remainder of hi * 2^64 + lo by y. The conditions: hi < y, and all three are 64-bit numbers. -/
import Derived.Test.YtopbhdpfakjkjaaShelf
import Derived.Test.YtopbhdpfakjkjaaNumMath
import Derived.WalkKit
import Derived.WalkLawsBesides
import Derived.Deep.QuietTactic
import Derived.BigQuiet
import Derived.Lib.Hide
import Derived.IntWalk
namespace Go.Proofs.Ytopbhdpfakjkjaa.Num
open Go.RowKit Go.Lib

set_option maxHeartbeats 400000 in
set_option maxRecDepth 100000 in
theorem div64_0 (lo y : Nat) (hy : 0 < y) (hlo : lo ≤ 18446744073709551615) (hyy : y ≤ 18446744073709551615) (w : World) :
    Calls Try.prog 54 #[.int .u64 (0 : Nat), .int .u64 lo, .int .u64 y] w fun e w' => e = .returned (.tuple #[.int .u64 ((lo / y : Nat) : Int), .int .u64 ((lo % y : Nat) : Int)]) ∧ ∃ n, w' = w.drewN n := by
  have hy0 : ((y : Int) == 0) = false := by simp; omega
  have hyd : ¬ ((y : Int) = 0) := by omega
  have hyn : ¬ y = 0 := by omega
  go_enter Try.func54, Try.ntmps54
  go_wp2
  go_quiet (fail)
  go_wp2
  go_ret2
  have hle : lo / y ≤ lo := Nat.div_le_self _ _
  exact ⟨by
    have e1 : IntKind.u64.wrap ((lo : Int) / (y : Int)) = (lo : Int) / (y : Int) := by
      rw [← Int.natCast_ediv]
      generalize lo / y = z at *
      exact IntWalk.u64_in _ (by omega)
    simp [e1], nq, rfl⟩

/-- What the second loop's end leaves. -/
def Div64Post (q r : Nat) (w : World) (e : Ending) (w' : World) : Prop := e = .returned (.tuple #[.int .u64 (q : Int), .int .u64 (r : Int)]) ∧ w' = w

/-- What each loop keeps. -/
structure DI (u u1 y1 y0 a b : Nat) : Prop where
  d : Digit u u1 y1 y0 a b
  hb : b < 4294967296
  ha : a ≤ 4294967297

/-- The facts of one loop: u below y, y great. -/
structure DF (u u1 y1 y0 Q : Nat) : Prop where
  hu : u < y1 * 4294967296 + y0
  hy1 : 2147483648 ≤ y1
  hy1' : y1 < 4294967296
  hy0 : y0 < 4294967296
  hu1 : u1 < 4294967296
  hQ : Q = (u * 4294967296 + u1) / (y1 * 4294967296 + y0)

theorem DF.start {u u1 y1 y0 Q : Nat} (f : DF u u1 y1 y0 Q) : DI u u1 y1 y0 (u / y1) (u % y1) :=
  ⟨digit_start (by have := f.hy1; omega) f.hu1, by have := Nat.mod_lt u (show 0 < y1 by have := f.hy1; omega); have := f.hy1'; omega, first_small f.hu f.hy1 f.hy0⟩
/-- The test says no: this is the digit. -/
theorem DF.out {u u1 y1 y0 Q a b : Nat} (f : DF u u1 y1 y0 Q) (d : DI u u1 y1 y0 a b) (h : ¬ 4294967296 * b + u1 < a * y0) : a = Q := by
  rw [f.hQ]; exact digit_done d.d ((digit_test d.d).2 (by omega))
/-- It says yes: one less. -/
theorem DF.big {u u1 y1 y0 Q a : Nat} (f : DF u u1 y1 y0 Q) (h : 4294967296 ≤ a) : u * 4294967296 + u1 < a * (y1 * 4294967296 + y0) := by
  have := Nat.mul_le_mul_right (y1 * 4294967296 + y0) h
  have := f.hu
  have := f.hu1
  omega
theorem DF.yes {u u1 y1 y0 a b : Nat} (d : DI u u1 y1 y0 a b) (h : 4294967296 * b + u1 < a * y0) : u * 4294967296 + u1 < a * (y1 * 4294967296 + y0) := by
  have := digit_test d.d
  omega
theorem DF.pos {u u1 y1 y0 a : Nat} (h : u * 4294967296 + u1 < a * (y1 * 4294967296 + y0)) : 1 ≤ a := by
  rcases Nat.eq_zero_or_pos a with h0 | h0
  · subst h0; omega
  · exact h0
/-- On with the loop. -/
theorem DF.on {u u1 y1 y0 a b c : Nat} (d : DI u u1 y1 y0 a b) (h : u * 4294967296 + u1 < a * (y1 * 4294967296 + y0)) (hc : a = c + 1) (hb : b + y1 < 4294967296) : DI u u1 y1 y0 c (b + y1) := by
  have := digit_next d.d (by omega) h
  rw [hc, Nat.add_sub_cancel] at this
  exact ⟨this, hb, by have := d.ha; omega⟩
/-- The remainder is great: this is the digit. -/
theorem DF.stop {u u1 y1 y0 Q a b c : Nat} (f : DF u u1 y1 y0 Q) (d : DI u u1 y1 y0 a b) (h : u * 4294967296 + u1 < a * (y1 * 4294967296 + y0)) (hc : a = c + 1) (hb : 4294967296 ≤ b + y1) : c = Q := by
  have hn := digit_next d.d (by omega) h
  rw [hc, Nat.add_sub_cancel] at hn
  rw [f.hQ]
  refine digit_done hn ((digit_test hn).2 ?_)
  have h1 : c ≤ 4294967296 := by have := d.ha; omega
  have h2 : c * y0 ≤ 4294967296 * y0 := Nat.mul_le_mul_right _ h1
  have := f.hy0
  omega

set_option maxHeartbeats 4000000 in
set_option maxRecDepth 100000 in
theorem div64_core (hi lo y s t Y y1 y0 u L u1 u0 q1 m1 r1 R Q1 q2 m2 r2 Q0 Q S v1 v2 v3 v4 v5 v6 v7 : Nat) (h0 : 0 < hi) (hl : hi < y)
    (hyy : y ≤ 18446744073709551615)
    (es : 64 - (Lib.bitLen y : Int) = s) (hs : s ≤ 63) (et : t = 64 - s)
    (eY : IntKind.u64.wrap ((y : Int) * 2 ^ s) = (Y : Int)) (ey1 : (Y : Int) / 4294967296 = (y1 : Int)) (ey0 : bits .and .u64 (Y : Int) 4294967295 = (y0 : Int))
    (eu : bits .or .u64 (IntKind.u64.wrap ((hi : Int) * 2 ^ s)) ((lo : Int) / 2 ^ t) = (u : Int))
    (eL : IntKind.u64.wrap ((lo : Int) * 2 ^ s) = (L : Int)) (eu1 : (L : Int) / 4294967296 = (u1 : Int)) (eu0 : bits .and .u64 (L : Int) 4294967295 = (u0 : Int))
    (f1 : DF u u1 y1 y0 Q1) (eq1 : IntKind.u64.wrap ((u : Int) / y1) = (q1 : Int)) (em1 : IntKind.u64.wrap ((q1 : Int) * y1) = (m1 : Int)) (er1 : IntKind.u64.wrap ((u : Int) - m1) = (r1 : Int)) (hq1 : q1 = u / y1) (hr1 : r1 = u % y1)
    (ev1 : IntKind.u64.wrap ((u : Int) * 4294967296) = (v1 : Int)) (ev2 : IntKind.u64.wrap ((v1 : Int) + u1) = (v2 : Int)) (ev3 : IntKind.u64.wrap ((Q1 : Int) * Y) = (v3 : Int)) (eR : IntKind.u64.wrap ((v2 : Int) - v3) = (R : Int))
    (f2 : DF R u0 y1 y0 Q0) (eq2 : IntKind.u64.wrap ((R : Int) / y1) = (q2 : Int)) (em2 : IntKind.u64.wrap ((q2 : Int) * y1) = (m2 : Int)) (er2 : IntKind.u64.wrap ((R : Int) - m2) = (r2 : Int)) (hq2 : q2 = R / y1) (hr2 : r2 = R % y1)
    (ev4 : IntKind.u64.wrap ((Q1 : Int) * 4294967296) = (v4 : Int)) (eQ : IntKind.u64.wrap ((v4 : Int) + Q0) = (Q : Int))
    (ev5 : IntKind.u64.wrap ((R : Int) * 4294967296) = (v5 : Int)) (ev6 : IntKind.u64.wrap ((v5 : Int) + u0) = (v6 : Int)) (ev7 : IntKind.u64.wrap ((Q0 : Int) * Y) = (v7 : Int)) (eS : IntKind.u64.wrap ((v6 : Int) - v7) / 2 ^ s = (S : Int))
    (w : World) :
    Calls Try.prog 54 #[.int .u64 hi, .int .u64 lo, .int .u64 y] w (Div64Post Q S w) := by
  have hy0 : ((y : Int) == 0) = false := by simp; omega
  have hi0 : ((hi : Int) == 0) = false := by simp; omega
  have hl' : ¬ (y : Int) ≤ hi := by omega
  have hsw : IntKind.u64.wrap (s : Int) = s := IntWalk.u64_in _ (by omega)
  have hmin : min s 64 = s := by omega
  have hmint : min t 64 = t := by omega
  have htw : IntKind.u64.wrap (64 - (s : Int)) = (t : Int) := by rw [IntWalk.u64_in _ (by omega)]; omega
  have hy1 : ¬ y1 = 0 := by have := f1.hy1; omega
  have Hq1 := Lib.hid hq1
  have Hr1 := Lib.hid hr1
  have Hq2 := Lib.hid hq2
  have Hr2 := Lib.hid hr2
  have Ht := Lib.hid et
  have F1 := Lib.hid f1
  have F2 := Lib.hid f2
  clear hq1 hr1 hq2 hr2 et f1 f2
  go_enter Try.func54, Try.ntmps54
  go_wp2_with (go_at_call 60; refine (Try.bits_LeadingZeros64 _ _ (by omega) (by omega)).mono ?_; rintro e w' ⟨rfl, rfl⟩)
  go_loop [15, 16] (fun qv rv => ∃ a b : Nat, qv = .int .u64 a ∧ rv = .int .u64 b ∧ DI u u1 y1 y0 a b) (fun qv _ => (RowKit.intOf qv).toNat)
  case atStart => exact ⟨_, _, rfl, rfl, by rw [Hq1.out, Hr1.out]; exact F1.out.start⟩
  case round =>
    obtain ⟨a, b, rfl, rfl, hd⟩ := hrel
    have Hd := Lib.hid hd
    have hb := hd.hb
    have ha := hd.ha
    have hyb := F1.out.hy1'
    have hub := F1.out.hu1
    have hy0b := F1.out.hy0
    have w2 : IntKind.u64.wrap ((b : Int) + y1) = ((b + y1 : Nat) : Int) := by rw [IntWalk.u64_in _ (by omega)]; omega
    have w3 : IntKind.u64.wrap (4294967296 * (b : Int)) = ((4294967296 * b : Nat) : Int) := by rw [IntWalk.u64_in _ (by omega)]; omega
    have w4 : IntKind.u64.wrap (((4294967296 * b : Nat) : Int) + u1) = ((4294967296 * b + u1 : Nat) : Int) := by rw [IntWalk.u64_in _ (by omega)]; omega
    obtain ⟨b2, hb2⟩ : ∃ b2, b2 = b + y1 := ⟨_, rfl⟩
    obtain ⟨b3, hb3⟩ : ∃ b3, b3 = 4294967296 * b := ⟨_, rfl⟩
    obtain ⟨b4, hb4⟩ : ∃ b4, b4 = b3 + u1 := ⟨_, rfl⟩
    rw [← hb2] at w2
    rw [← hb3] at w3
    rw [← hb3, ← hb4] at w4
    obtain ⟨p, hp⟩ : ∃ p, p = a * y0 := ⟨_, rfl⟩
    by_cases hA : 4294967296 ≤ a
    · have hy := F1.out.big hA
      obtain ⟨c, hc⟩ : ∃ c, a = c + 1 := ⟨a - 1, by omega⟩
      have w1 : IntKind.u64.wrap ((a : Int) - 1) = (c : Int) := by rw [IntWalk.u64_in _ (by omega)]; omega
      have Hy := Lib.hid hy
      have Hc := Lib.hid hc
      have Hb2 := Lib.hid hb2
      clear hy hc hb2 hb3 hb4 hp hd
      have hA' : (4294967296 : Int) ≤ (a : Int) := by omega
      clear hA
      by_cases hB : 4294967296 ≤ b2
      · have hcQ : c = Q1 := DF.stop F1.out Hd.out Hy.out Hc.out (by rw [← Hb2.out]; exact hB)
        subst hcQ
        have hB' : (4294967296 : Int) ≤ (b2 : Int) := by omega
        clear hB
        go_wp2
        clear ha hb hyb hub hy0b
        go_loop [18, 16] (fun qv rv => ∃ a b : Nat, qv = .int .u64 a ∧ rv = .int .u64 b ∧ DI R u0 y1 y0 a b) (fun qv _ => (RowKit.intOf qv).toNat)
        case atStart => exact ⟨_, _, rfl, rfl, by rw [Hq2.out, Hr2.out]; exact F2.out.start⟩
        case round =>
          obtain ⟨a, b, rfl, rfl, hd⟩ := hrel
          have Hd := Lib.hid hd
          have hb := hd.hb
          have ha := hd.ha
          have hyb := F2.out.hy1'
          have hub := F2.out.hu1
          have hy0b := F2.out.hy0
          have w2 : IntKind.u64.wrap ((b : Int) + y1) = ((b + y1 : Nat) : Int) := by rw [IntWalk.u64_in _ (by omega)]; omega
          have w3 : IntKind.u64.wrap (4294967296 * (b : Int)) = ((4294967296 * b : Nat) : Int) := by rw [IntWalk.u64_in _ (by omega)]; omega
          have w4 : IntKind.u64.wrap (((4294967296 * b : Nat) : Int) + u0) = ((4294967296 * b + u0 : Nat) : Int) := by rw [IntWalk.u64_in _ (by omega)]; omega
          obtain ⟨b2, hb2⟩ : ∃ b2, b2 = b + y1 := ⟨_, rfl⟩
          obtain ⟨b3, hb3⟩ : ∃ b3, b3 = 4294967296 * b := ⟨_, rfl⟩
          obtain ⟨b4, hb4⟩ : ∃ b4, b4 = b3 + u0 := ⟨_, rfl⟩
          rw [← hb2] at w2
          rw [← hb3] at w3
          rw [← hb3, ← hb4] at w4
          obtain ⟨p, hp⟩ : ∃ p, p = a * y0 := ⟨_, rfl⟩
          by_cases hA : 4294967296 ≤ a
          · have hy := F2.out.big hA
            obtain ⟨c, hc⟩ : ∃ c, a = c + 1 := ⟨a - 1, by omega⟩
            have w1 : IntKind.u64.wrap ((a : Int) - 1) = (c : Int) := by rw [IntWalk.u64_in _ (by omega)]; omega
            have Hy := Lib.hid hy
            have Hc := Lib.hid hc
            have Hb2 := Lib.hid hb2
            clear hy hc hb2 hb3 hb4 hp hd
            have hA' : (4294967296 : Int) ≤ (a : Int) := by omega
            clear hA
            by_cases hB : 4294967296 ≤ b2
            · have hcQ : c = Q0 := DF.stop F2.out Hd.out Hy.out Hc.out (by rw [← Hb2.out]; exact hB)
              subst hcQ
              have hB' : (4294967296 : Int) ≤ (b2 : Int) := by omega
              clear hB
              go_wp2
              go_ret2
              exact ⟨rfl, rfl⟩
            · have hB' : ¬ (4294967296 : Int) ≤ (b2 : Int) := by omega
              clear hB
              go_wp2
              go_round
              case rel => exact ⟨c, b2, rfl, rfl, by rw [Hb2.out]; exact DF.on Hd.out Hy.out Hc.out (by rw [← Hb2.out]; omega)⟩
              case measure => have := Hc.out; simp [RowKit.intOf]; omega
          · have hA' : ¬ (4294967296 : Int) ≤ (a : Int) := by omega
            have hpb : p ≤ 4294967295 * 4294967295 := by rw [hp]; exact Nat.mul_le_mul (by omega) (by omega)
            have w5 : IntKind.u64.wrap ((a : Int) * y0) = (p : Int) := by rw [hp, IntWalk.u64_in _ ⟨by rw [← Int.natCast_mul]; omega, by rw [← Int.natCast_mul, ← hp]; omega⟩]; simp
            by_cases hT : b4 < p
            · have hy := DF.yes Hd.out (by rw [← hb3, ← hb4, ← hp]; exact hT)
              have hpos := DF.pos hy
              obtain ⟨c, hc⟩ : ∃ c, a = c + 1 := ⟨a - 1, by omega⟩
              have w1 : IntKind.u64.wrap ((a : Int) - 1) = (c : Int) := by rw [IntWalk.u64_in _ (by omega)]; omega
              have Hy := Lib.hid hy
              have Hc := Lib.hid hc
              have Hb2 := Lib.hid hb2
              clear hy hc hb2 hb3 hb4 hp hd hpos
              by_cases hB : 4294967296 ≤ b2
              · have hcQ : c = Q0 := DF.stop F2.out Hd.out Hy.out Hc.out (by rw [← Hb2.out]; exact hB)
                subst hcQ
                have hB' : (4294967296 : Int) ≤ (b2 : Int) := by omega
                clear hB
                go_wp2
                go_ret2
                exact ⟨rfl, rfl⟩
              · have hB' : ¬ (4294967296 : Int) ≤ (b2 : Int) := by omega
                clear hB
                go_wp2
                go_round
                case rel => exact ⟨c, b2, rfl, rfl, by rw [Hb2.out]; exact DF.on Hd.out Hy.out Hc.out (by rw [← Hb2.out]; omega)⟩
                case measure => have := Hc.out; simp [RowKit.intOf]; omega
            · have haQ : a = Q0 := DF.out F2.out Hd.out (by rw [← hb3, ← hb4, ← hp]; exact hT)
              subst haQ
              clear hb2 hb3 hb4 hp hd
              go_wp2
              go_ret2
              exact ⟨rfl, rfl⟩
      · have hB' : ¬ (4294967296 : Int) ≤ (b2 : Int) := by omega
        clear hB
        go_wp2
        go_round
        case rel => exact ⟨c, b2, rfl, rfl, by rw [Hb2.out]; exact DF.on Hd.out Hy.out Hc.out (by rw [← Hb2.out]; omega)⟩
        case measure => have := Hc.out; simp [RowKit.intOf]; omega
    · have hA' : ¬ (4294967296 : Int) ≤ (a : Int) := by omega
      have hpb : p ≤ 4294967295 * 4294967295 := by rw [hp]; exact Nat.mul_le_mul (by omega) (by omega)
      have w5 : IntKind.u64.wrap ((a : Int) * y0) = (p : Int) := by rw [hp, IntWalk.u64_in _ ⟨by rw [← Int.natCast_mul]; omega, by rw [← Int.natCast_mul, ← hp]; omega⟩]; simp
      by_cases hT : b4 < p
      · have hy := DF.yes Hd.out (by rw [← hb3, ← hb4, ← hp]; exact hT)
        have hpos := DF.pos hy
        obtain ⟨c, hc⟩ : ∃ c, a = c + 1 := ⟨a - 1, by omega⟩
        have w1 : IntKind.u64.wrap ((a : Int) - 1) = (c : Int) := by rw [IntWalk.u64_in _ (by omega)]; omega
        have Hy := Lib.hid hy
        have Hc := Lib.hid hc
        have Hb2 := Lib.hid hb2
        clear hy hc hb2 hb3 hb4 hp hd hpos
        by_cases hB : 4294967296 ≤ b2
        · have hcQ : c = Q1 := DF.stop F1.out Hd.out Hy.out Hc.out (by rw [← Hb2.out]; exact hB)
          subst hcQ
          have hB' : (4294967296 : Int) ≤ (b2 : Int) := by omega
          clear hB
          go_wp2
          clear ha hb hyb hub hy0b
          go_loop [18, 16] (fun qv rv => ∃ a b : Nat, qv = .int .u64 a ∧ rv = .int .u64 b ∧ DI R u0 y1 y0 a b) (fun qv _ => (RowKit.intOf qv).toNat)
          case atStart => exact ⟨_, _, rfl, rfl, by rw [Hq2.out, Hr2.out]; exact F2.out.start⟩
          case round =>
            obtain ⟨a, b, rfl, rfl, hd⟩ := hrel
            have Hd := Lib.hid hd
            have hb := hd.hb
            have ha := hd.ha
            have hyb := F2.out.hy1'
            have hub := F2.out.hu1
            have hy0b := F2.out.hy0
            have w2 : IntKind.u64.wrap ((b : Int) + y1) = ((b + y1 : Nat) : Int) := by rw [IntWalk.u64_in _ (by omega)]; omega
            have w3 : IntKind.u64.wrap (4294967296 * (b : Int)) = ((4294967296 * b : Nat) : Int) := by rw [IntWalk.u64_in _ (by omega)]; omega
            have w4 : IntKind.u64.wrap (((4294967296 * b : Nat) : Int) + u0) = ((4294967296 * b + u0 : Nat) : Int) := by rw [IntWalk.u64_in _ (by omega)]; omega
            obtain ⟨b2, hb2⟩ : ∃ b2, b2 = b + y1 := ⟨_, rfl⟩
            obtain ⟨b3, hb3⟩ : ∃ b3, b3 = 4294967296 * b := ⟨_, rfl⟩
            obtain ⟨b4, hb4⟩ : ∃ b4, b4 = b3 + u0 := ⟨_, rfl⟩
            rw [← hb2] at w2
            rw [← hb3] at w3
            rw [← hb3, ← hb4] at w4
            obtain ⟨p, hp⟩ : ∃ p, p = a * y0 := ⟨_, rfl⟩
            by_cases hA : 4294967296 ≤ a
            · have hy := F2.out.big hA
              obtain ⟨c, hc⟩ : ∃ c, a = c + 1 := ⟨a - 1, by omega⟩
              have w1 : IntKind.u64.wrap ((a : Int) - 1) = (c : Int) := by rw [IntWalk.u64_in _ (by omega)]; omega
              have Hy := Lib.hid hy
              have Hc := Lib.hid hc
              have Hb2 := Lib.hid hb2
              clear hy hc hb2 hb3 hb4 hp hd
              have hA' : (4294967296 : Int) ≤ (a : Int) := by omega
              clear hA
              by_cases hB : 4294967296 ≤ b2
              · have hcQ : c = Q0 := DF.stop F2.out Hd.out Hy.out Hc.out (by rw [← Hb2.out]; exact hB)
                subst hcQ
                have hB' : (4294967296 : Int) ≤ (b2 : Int) := by omega
                clear hB
                go_wp2
                go_ret2
                exact ⟨rfl, rfl⟩
              · have hB' : ¬ (4294967296 : Int) ≤ (b2 : Int) := by omega
                clear hB
                go_wp2
                go_round
                case rel => exact ⟨c, b2, rfl, rfl, by rw [Hb2.out]; exact DF.on Hd.out Hy.out Hc.out (by rw [← Hb2.out]; omega)⟩
                case measure => have := Hc.out; simp [RowKit.intOf]; omega
            · have hA' : ¬ (4294967296 : Int) ≤ (a : Int) := by omega
              have hpb : p ≤ 4294967295 * 4294967295 := by rw [hp]; exact Nat.mul_le_mul (by omega) (by omega)
              have w5 : IntKind.u64.wrap ((a : Int) * y0) = (p : Int) := by rw [hp, IntWalk.u64_in _ ⟨by rw [← Int.natCast_mul]; omega, by rw [← Int.natCast_mul, ← hp]; omega⟩]; simp
              by_cases hT : b4 < p
              · have hy := DF.yes Hd.out (by rw [← hb3, ← hb4, ← hp]; exact hT)
                have hpos := DF.pos hy
                obtain ⟨c, hc⟩ : ∃ c, a = c + 1 := ⟨a - 1, by omega⟩
                have w1 : IntKind.u64.wrap ((a : Int) - 1) = (c : Int) := by rw [IntWalk.u64_in _ (by omega)]; omega
                have Hy := Lib.hid hy
                have Hc := Lib.hid hc
                have Hb2 := Lib.hid hb2
                clear hy hc hb2 hb3 hb4 hp hd hpos
                by_cases hB : 4294967296 ≤ b2
                · have hcQ : c = Q0 := DF.stop F2.out Hd.out Hy.out Hc.out (by rw [← Hb2.out]; exact hB)
                  subst hcQ
                  have hB' : (4294967296 : Int) ≤ (b2 : Int) := by omega
                  clear hB
                  go_wp2
                  go_ret2
                  exact ⟨rfl, rfl⟩
                · have hB' : ¬ (4294967296 : Int) ≤ (b2 : Int) := by omega
                  clear hB
                  go_wp2
                  go_round
                  case rel => exact ⟨c, b2, rfl, rfl, by rw [Hb2.out]; exact DF.on Hd.out Hy.out Hc.out (by rw [← Hb2.out]; omega)⟩
                  case measure => have := Hc.out; simp [RowKit.intOf]; omega
              · have haQ : a = Q0 := DF.out F2.out Hd.out (by rw [← hb3, ← hb4, ← hp]; exact hT)
                subst haQ
                clear hb2 hb3 hb4 hp hd
                go_wp2
                go_ret2
                exact ⟨rfl, rfl⟩
        · have hB' : ¬ (4294967296 : Int) ≤ (b2 : Int) := by omega
          clear hB
          go_wp2
          go_round
          case rel => exact ⟨c, b2, rfl, rfl, by rw [Hb2.out]; exact DF.on Hd.out Hy.out Hc.out (by rw [← Hb2.out]; omega)⟩
          case measure => have := Hc.out; simp [RowKit.intOf]; omega
      · have haQ : a = Q1 := DF.out F1.out Hd.out (by rw [← hb3, ← hb4, ← hp]; exact hT)
        subst haQ
        clear hb2 hb3 hb4 hp hd
        go_wp2
        clear ha hb hyb hub hy0b
        go_loop [18, 16] (fun qv rv => ∃ a b : Nat, qv = .int .u64 a ∧ rv = .int .u64 b ∧ DI R u0 y1 y0 a b) (fun qv _ => (RowKit.intOf qv).toNat)
        case atStart => exact ⟨_, _, rfl, rfl, by rw [Hq2.out, Hr2.out]; exact F2.out.start⟩
        case round =>
          obtain ⟨a, b, rfl, rfl, hd⟩ := hrel
          have Hd := Lib.hid hd
          have hb := hd.hb
          have ha := hd.ha
          have hyb := F2.out.hy1'
          have hub := F2.out.hu1
          have hy0b := F2.out.hy0
          have w2 : IntKind.u64.wrap ((b : Int) + y1) = ((b + y1 : Nat) : Int) := by rw [IntWalk.u64_in _ (by omega)]; omega
          have w3 : IntKind.u64.wrap (4294967296 * (b : Int)) = ((4294967296 * b : Nat) : Int) := by rw [IntWalk.u64_in _ (by omega)]; omega
          have w4 : IntKind.u64.wrap (((4294967296 * b : Nat) : Int) + u0) = ((4294967296 * b + u0 : Nat) : Int) := by rw [IntWalk.u64_in _ (by omega)]; omega
          obtain ⟨b2, hb2⟩ : ∃ b2, b2 = b + y1 := ⟨_, rfl⟩
          obtain ⟨b3, hb3⟩ : ∃ b3, b3 = 4294967296 * b := ⟨_, rfl⟩
          obtain ⟨b4, hb4⟩ : ∃ b4, b4 = b3 + u0 := ⟨_, rfl⟩
          rw [← hb2] at w2
          rw [← hb3] at w3
          rw [← hb3, ← hb4] at w4
          obtain ⟨p, hp⟩ : ∃ p, p = a * y0 := ⟨_, rfl⟩
          by_cases hA : 4294967296 ≤ a
          · have hy := F2.out.big hA
            obtain ⟨c, hc⟩ : ∃ c, a = c + 1 := ⟨a - 1, by omega⟩
            have w1 : IntKind.u64.wrap ((a : Int) - 1) = (c : Int) := by rw [IntWalk.u64_in _ (by omega)]; omega
            have Hy := Lib.hid hy
            have Hc := Lib.hid hc
            have Hb2 := Lib.hid hb2
            clear hy hc hb2 hb3 hb4 hp hd
            have hA' : (4294967296 : Int) ≤ (a : Int) := by omega
            clear hA
            by_cases hB : 4294967296 ≤ b2
            · have hcQ : c = Q0 := DF.stop F2.out Hd.out Hy.out Hc.out (by rw [← Hb2.out]; exact hB)
              subst hcQ
              have hB' : (4294967296 : Int) ≤ (b2 : Int) := by omega
              clear hB
              go_wp2
              go_ret2
              exact ⟨rfl, rfl⟩
            · have hB' : ¬ (4294967296 : Int) ≤ (b2 : Int) := by omega
              clear hB
              go_wp2
              go_round
              case rel => exact ⟨c, b2, rfl, rfl, by rw [Hb2.out]; exact DF.on Hd.out Hy.out Hc.out (by rw [← Hb2.out]; omega)⟩
              case measure => have := Hc.out; simp [RowKit.intOf]; omega
          · have hA' : ¬ (4294967296 : Int) ≤ (a : Int) := by omega
            have hpb : p ≤ 4294967295 * 4294967295 := by rw [hp]; exact Nat.mul_le_mul (by omega) (by omega)
            have w5 : IntKind.u64.wrap ((a : Int) * y0) = (p : Int) := by rw [hp, IntWalk.u64_in _ ⟨by rw [← Int.natCast_mul]; omega, by rw [← Int.natCast_mul, ← hp]; omega⟩]; simp
            by_cases hT : b4 < p
            · have hy := DF.yes Hd.out (by rw [← hb3, ← hb4, ← hp]; exact hT)
              have hpos := DF.pos hy
              obtain ⟨c, hc⟩ : ∃ c, a = c + 1 := ⟨a - 1, by omega⟩
              have w1 : IntKind.u64.wrap ((a : Int) - 1) = (c : Int) := by rw [IntWalk.u64_in _ (by omega)]; omega
              have Hy := Lib.hid hy
              have Hc := Lib.hid hc
              have Hb2 := Lib.hid hb2
              clear hy hc hb2 hb3 hb4 hp hd hpos
              by_cases hB : 4294967296 ≤ b2
              · have hcQ : c = Q0 := DF.stop F2.out Hd.out Hy.out Hc.out (by rw [← Hb2.out]; exact hB)
                subst hcQ
                have hB' : (4294967296 : Int) ≤ (b2 : Int) := by omega
                clear hB
                go_wp2
                go_ret2
                exact ⟨rfl, rfl⟩
              · have hB' : ¬ (4294967296 : Int) ≤ (b2 : Int) := by omega
                clear hB
                go_wp2
                go_round
                case rel => exact ⟨c, b2, rfl, rfl, by rw [Hb2.out]; exact DF.on Hd.out Hy.out Hc.out (by rw [← Hb2.out]; omega)⟩
                case measure => have := Hc.out; simp [RowKit.intOf]; omega
            · have haQ : a = Q0 := DF.out F2.out Hd.out (by rw [← hb3, ← hb4, ← hp]; exact hT)
              subst haQ
              clear hb2 hb3 hb4 hp hd
              go_wp2
              go_ret2
              exact ⟨rfl, rfl⟩

theorem w64u {x : Int} (h : 0 ≤ x ∧ x ≤ 18446744073709551615) : IntKind.u64.wrap x = x := IntWalk.u64_in x h

end Go.Proofs.Ytopbhdpfakjkjaa.Num
