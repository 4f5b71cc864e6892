/- Proved: the walks of six laws of package num (clamps, backs, turns, wholes, splits), each answers true, for all 64-bit numbers. -/
import Derived.Test.YtnhonhdomgmhgaaNumFrac
import Derived.RowKit3
namespace Go.Proofs.Ytnhonhdomgmhgaa.Num
open Go.RowKit

def RetB (w : World) (e : Ending) (w' : World) : Prop := e = .returned (.bool true) ∧ ∃ k, w' = w.drewN k
theorem RetB.mk {b : Bool} {w w' : World} (h : b = true) (hw : ∃ k, w' = w.drewN k) : RetB w (.returned (.bool b)) w' := by subst h; exact ⟨rfl, hw⟩
theorem in_of {x : Int} (h : (Lit.int .i64 x).wf = true) : In x := by
  unfold In
  simp [Lit.wf, IntKind.min, IntKind.max, IntKind.signed, IntKind.bits] at h
  omega
/-- A world that was drawn has grown. -/
theorem grown_of {w w' : World} (h : ∃ k, w' = w.drewN k) : Grown w w' := by
  obtain ⟨k, rfl⟩ := h
  induction k with
  | zero => exact Grown.refl _
  | succ k ih => exact ih.drew
theorem drewN_ex {w : World} {a b : Nat} : ∃ k, (w.drewN a).drewN b = w.drewN k := ⟨a + b, by rw [World.drewN_drewN]⟩
theorem bq {x y : Int} (h : x = y) : (x == y) = true := beq_iff_eq.2 h
theorem bn {x y : Int} (h : x = y) : (x != y) = false := by simp [h]
theorem nq {x y : Int} (h : ¬ x = y) : (x == y) = false := beq_eq_false_iff_ne.2 h
theorem nn {x y : Int} (h : ¬ x = y) : (x != y) = true := bne_iff_ne.2 h

set_option maxHeartbeats 400000 in
theorem head_any (w : World) : Calls Try.prog 19 #[] w (RetB w) := by
  have c1 : ∀ w, Calls Try.prog 20 #[.int .i64 7, .int .i64 9, .int .i64 10] w (RetD 6 w) := fun w => by
    have := frac_any 7 9 10 w ⟨by decide, by decide⟩ ⟨by decide, by decide⟩ ⟨by decide, by decide⟩
    rwa [show frac 7 9 10 = 6 by decide] at this
  have c2 : ∀ w, Calls Try.prog 21 #[.int .i64 7, .int .i64 9, .int .i64 10] w (RetD 7 w) := fun w => by
    have := fracUp_any 7 9 10 w ⟨by decide, by decide⟩ ⟨by decide, by decide⟩ ⟨by decide, by decide⟩
    rwa [show fracUp 7 9 10 = 7 by decide] at this
  have c3 : ∀ w, Calls Try.prog 25 #[.int .i64 9223372036854775807, .int .i64 1] w (RetI 9223372036854775807 w) := fun w => by
    have := add_any 9223372036854775807 1 w ⟨by decide, by decide⟩ ⟨by decide, by decide⟩
    rwa [show sat (9223372036854775807 + 1) = 9223372036854775807 by decide] at this
  have c4 : ∀ w, Calls Try.prog 26 #[.int .i64 (-3), .int .i64 4] w (RetI (-12) w) := fun w => by
    have := mul_any (-3) 4 w ⟨by decide, by decide⟩ ⟨by decide, by decide⟩
    rwa [show sat (-3 * 4) = -12 by decide] at this
  have C1 := Lib.hid c1
  have C2 := Lib.hid c2
  have C3 := Lib.hid c3
  have C4 := Lib.hid c4
  clear c1 c2 c3 c4
  go_enter Try.func19, Try.ntmps19
  go_wp2_with fail
  refine (C1.out _).mono ?_
  rintro e w' ⟨rfl, k1, rfl⟩
  go_wp2_with fail
  refine (C2.out _).mono ?_
  rintro e w' ⟨rfl, k2, rfl⟩
  go_wp2_with fail
  refine (C3.out _).mono ?_
  rintro e w' ⟨rfl, rfl⟩
  go_wp2_with fail
  refine (C4.out _).mono ?_
  rintro e w' ⟨rfl, rfl⟩
  go_wp2
  go_ret
  exact RetB.mk rfl (by first | exact ⟨_, rfl⟩ | exact drewN_ex)

set_option maxHeartbeats 400000 in
theorem clamps_walk (n lo hi : Int) (w : World) : Calls Try.prog 10 #[.int .i64 n, .int .i64 lo, .int .i64 hi] w (RetB w) := by
  have cc := fun w => clamp_any n lo hi w
  obtain ⟨g, hg⟩ : ∃ g, g = max lo (min n hi) := ⟨_, rfl⟩
  rw [← hg] at cc
  have Cc := Lib.hid cc
  clear cc
  by_cases h1 : hi < lo
  · have e : g = lo := by omega
    subst e
    clear hg
    go_enter Try.func10, Try.ntmps10
    go_wp2_with fail
    refine (head_any _).mono ?_
    rintro e w' ⟨rfl, k1, rfl⟩
    go_wp2_with fail
    refine (Cc.out _).mono ?_
    rintro e w' ⟨rfl, rfl⟩
    go_wp2
    go_ret
    exact RetB.mk (by simp) ⟨_, rfl⟩
  · by_cases h2 : n < lo
    · have e : g = lo := by omega
      subst e
      clear hg
      go_enter Try.func10, Try.ntmps10
      go_wp2_with fail
      refine (head_any _).mono ?_
      rintro e w' ⟨rfl, k1, rfl⟩
      go_wp2_with fail
      refine (Cc.out _).mono ?_
      rintro e w' ⟨rfl, rfl⟩
      go_wp2
      go_ret
      exact RetB.mk (by simp) ⟨_, rfl⟩
    · by_cases h3 : hi < n
      · have e : g = hi := by omega
        subst e
        clear hg
        go_enter Try.func10, Try.ntmps10
        go_wp2_with fail
        refine (head_any _).mono ?_
        rintro e w' ⟨rfl, k1, rfl⟩
        go_wp2_with fail
        refine (Cc.out _).mono ?_
        rintro e w' ⟨rfl, rfl⟩
        go_wp2
        go_ret
        exact RetB.mk (by simp) ⟨_, rfl⟩
      · have e : g = n := by omega
        subst e
        clear hg
        go_enter Try.func10, Try.ntmps10
        go_wp2_with fail
        refine (head_any _).mono ?_
        rintro e w' ⟨rfl, k1, rfl⟩
        go_wp2_with fail
        refine (Cc.out _).mono ?_
        rintro e w' ⟨rfl, rfl⟩
        go_wp2
        go_ret
        exact RetB.mk (by simp) ⟨_, rfl⟩

theorem backs_s {a b : Int} (ha : In a) (hb : In b) (h1 : ¬ sat (a + b) = 9223372036854775807) (h2 : ¬ sat (a + b) = -9223372036854775808) : sat (sat (a + b) - b) = a := by
  unfold In at *
  unfold sat at *
  repeat' split at h1
  all_goals (try omega)
  repeat' split
  all_goals omega
theorem backs_d {a b : Int} (ha : In a) (hb : In b) (h1 : ¬ sat (a - b) = 9223372036854775807) (h2 : ¬ sat (a - b) = -9223372036854775808) : sat (sat (a - b) + b) = a := by
  unfold In at *
  unfold sat at *
  repeat' split at h1
  all_goals (try omega)
  repeat' split
  all_goals omega

/-- The walk of a law over sums, differences and products, each test told. -/
theorem three {P : Prop} {x : Int} (p1 : x = 9223372036854775807 → P) (p2 : ¬ x = 9223372036854775807 → x = -9223372036854775808 → P) (p3 : ¬ x = 9223372036854775807 → ¬ x = -9223372036854775808 → P) : P := by
  by_cases h1 : x = 9223372036854775807
  · exact p1 h1
  · by_cases h2 : x = -9223372036854775808
    · exact p2 h1 h2
    · exact p3 h1 h2

set_option maxHeartbeats 4000000 in
theorem backs_walk (a b : Int) (w : World) (ha : In a) (hb : In b) : Calls Try.prog 13 #[.int .i64 a, .int .i64 b] w (RetB w) := by
  have g1 := fun h1 h2 => backs_s (a := a) (b := b) ha hb h1 h2
  have g2 := fun h1 h2 => backs_d (a := a) (b := b) ha hb h1 h2
  have c1 := fun w => add_any a b w ha hb
  have c2 := fun w => sub_any (sat (a + b)) b w (sat_in _) hb
  have c3 := fun w => sub_any a b w ha hb
  have c4 := fun w => add_any (sat (a - b)) b w (sat_in _) hb
  obtain ⟨s, hs⟩ : ∃ s, s = sat (a + b) := ⟨_, rfl⟩
  obtain ⟨d, hd⟩ : ∃ d, d = sat (a - b) := ⟨_, rfl⟩
  rw [← hs] at g1 c1 c2
  rw [← hd] at g2 c3 c4
  clear hs hd ha hb
  obtain ⟨s2, hs2⟩ : ∃ s2, s2 = sat (s - b) := ⟨_, rfl⟩
  obtain ⟨d2, hd2⟩ : ∃ d2, d2 = sat (d + b) := ⟨_, rfl⟩
  rw [← hs2] at g1 c2
  rw [← hd2] at g2 c4
  clear hs2 hd2
  have C1 := Lib.hid c1
  have C2 := Lib.hid c2
  have C3 := Lib.hid c3
  have C4 := Lib.hid c4
  have G1 := Lib.hid g1
  have G2 := Lib.hid g2
  clear c1 c2 c3 c4 g1 g2
  refine three (x := s) (fun h => ?_) (fun h h' => ?_) (fun h h' => ?_)
  all_goals refine three (x := d) (fun f => ?_) (fun f f' => ?_) (fun f f' => ?_)
  all_goals first
    | (have m1 := bn h; clear h)
    | (have m1 := nn h; have m2 := bn h'; clear h h')
    | (have g := G1.out h h'; have m1 := nn h; have m2 := nn h'; have m3 := bn g; have m4 := bq g; clear g h h')
  all_goals first
    | (have n1 := bq f; clear f)
    | (have n1 := nq f; have n2 := bq f'; clear f f')
    | (have g := G2.out f f'; have n1 := nq f; have n2 := nq f'; have n3 := bq g; clear g f f')
  all_goals
    clear G1 G2
    go_enter Try.func13, Try.ntmps13
    go_wp2_with (first
      | (go_at_call 19; refine (head_any _).mono ?_; rintro e w' ⟨rfl, k1, rfl⟩)
      | (go_at_call 25; ((with_reducible refine (C1.out _).mono ?_); rintro e w' ⟨rfl, rfl⟩))
      | (go_at_call 25; ((with_reducible refine (C4.out _).mono ?_); rintro e w' ⟨rfl, rfl⟩))
      | (go_at_call 27; ((with_reducible refine (C2.out _).mono ?_); rintro e w' ⟨rfl, rfl⟩))
      | (go_at_call 27; ((with_reducible refine (C3.out _).mono ?_); rintro e w' ⟨rfl, rfl⟩)))
    go_ret
    exact RetB.mk rfl ⟨_, rfl⟩

theorem sat_mono {x y : Int} (h : x ≤ y) : sat x ≤ sat y := by
  unfold sat
  repeat' split
  all_goals omega

set_option maxHeartbeats 4000000 in
theorem turns_walk (a b c : Int) (w : World) (ha : In a) (hb : In b) (hc : In c) : Calls Try.prog 12 #[.int .i64 a, .int .i64 b, .int .i64 c] w (RetB w) := by
  have c1 := fun w => add_any a b w ha hb
  have c2 := fun w => add_any b a w hb ha
  rw [show b + a = a + b by omega] at c2
  have c3 := fun w => mul_any a b w ha hb
  have c4 := fun w => mul_any b a w hb ha
  rw [show b * a = a * b by rw [Int.mul_comm]] at c4
  have c5 := fun w => add_any a c w ha hc
  have c6 := fun w => add_any b c w hb hc
  have c7 := fun w => sub_any a c w ha hc
  have c8 := fun w => sub_any b c w hb hc
  have c9 := fun w => mul_any a c w ha hc
  have c10 := fun w => mul_any b c w hb hc
  have c11 := fun w => add_any a 0 w ha ⟨by omega, by omega⟩
  have c12 := fun w => mul_any a 1 w ha ⟨by omega, by omega⟩
  have c13 := fun w => mul_any a 0 w ha ⟨by omega, by omega⟩
  have c14 := fun w => sub_any a a w ha ha
  rw [show a + 0 = a by omega, sat_id ha] at c11
  rw [show a * 1 = a by omega, sat_id ha] at c12
  rw [show a * 0 = 0 by omega, show sat 0 = 0 by decide] at c13
  rw [show a - a = 0 by omega, show sat 0 = 0 by decide] at c14
  have l1 : a ≤ b → sat (a + c) ≤ sat (b + c) := fun h => sat_mono (by omega)
  have l2 : a ≤ b → sat (a - c) ≤ sat (b - c) := fun h => sat_mono (by omega)
  have l3 : a ≤ b → 0 ≤ c → sat (a * c) ≤ sat (b * c) := fun h h' => sat_mono (Int.mul_le_mul_of_nonneg_right h h')
  generalize sat (a + b) = x1 at *
  generalize sat (a * b) = x2 at *
  generalize sat (a + c) = x3 at *
  generalize sat (b + c) = x4 at *
  generalize sat (a - c) = x5 at *
  generalize sat (b - c) = x6 at *
  generalize sat (a * c) = x7 at *
  generalize sat (b * c) = x8 at *
  clear ha hb hc
  have C1 := Lib.hid c1
  have C2 := Lib.hid c2
  have C3 := Lib.hid c3
  have C4 := Lib.hid c4
  have C5 := Lib.hid c5
  have C6 := Lib.hid c6
  have C7 := Lib.hid c7
  have C8 := Lib.hid c8
  have C9 := Lib.hid c9
  have C10 := Lib.hid c10
  have C11 := Lib.hid c11
  have C12 := Lib.hid c12
  have C13 := Lib.hid c13
  have C14 := Lib.hid c14
  have L1 := Lib.hid l1
  have L2 := Lib.hid l2
  have L3 := Lib.hid l3
  clear c1 c2 c3 c4 c5 c6 c7 c8 c9 c10 c11 c12 c13 c14 l1 l2 l3
  by_cases h : a ≤ b
  all_goals by_cases h' : 0 ≤ c
  all_goals first
    | (have d1 : decide (a ≤ b) = true := by simp [h])
    | (have d1 : decide (a ≤ b) = false := by simp; omega)
  all_goals first
    | (have d2 : decide (0 ≤ c) = true := by simp [h'])
    | (have d2 : decide (0 ≤ c) = false := by simp; omega)
  all_goals
    (try (have m1 := L1.out h; have q1 : ¬ x4 < x3 := by omega))
    (try (have m2 := L2.out h; have q2 : ¬ x6 < x5 := by omega))
    (try (have m3 := L3.out h h'; have q3 : ¬ x8 < x7 := by omega))
    clear L1 L2 L3
    go_enter Try.func12, Try.ntmps12
    go_wp2_with (first
      | (go_at_call 19; refine (head_any _).mono ?_; rintro e w' ⟨rfl, k1, rfl⟩)
      | (go_at_call 25; ((with_reducible refine (C1.out _).mono ?_); rintro e w' ⟨rfl, rfl⟩))
      | (go_at_call 25; ((with_reducible refine (C2.out _).mono ?_); rintro e w' ⟨rfl, rfl⟩))
      | (go_at_call 25; ((with_reducible refine (C5.out _).mono ?_); rintro e w' ⟨rfl, rfl⟩))
      | (go_at_call 25; ((with_reducible refine (C6.out _).mono ?_); rintro e w' ⟨rfl, rfl⟩))
      | (go_at_call 25; ((with_reducible refine (C11.out _).mono ?_); rintro e w' ⟨rfl, rfl⟩))
      | (go_at_call 26; ((with_reducible refine (C3.out _).mono ?_); rintro e w' ⟨rfl, rfl⟩))
      | (go_at_call 26; ((with_reducible refine (C4.out _).mono ?_); rintro e w' ⟨rfl, rfl⟩))
      | (go_at_call 26; ((with_reducible refine (C9.out _).mono ?_); rintro e w' ⟨rfl, rfl⟩))
      | (go_at_call 26; ((with_reducible refine (C10.out _).mono ?_); rintro e w' ⟨rfl, rfl⟩))
      | (go_at_call 26; ((with_reducible refine (C12.out _).mono ?_); rintro e w' ⟨rfl, rfl⟩))
      | (go_at_call 26; ((with_reducible refine (C13.out _).mono ?_); rintro e w' ⟨rfl, rfl⟩))
      | (go_at_call 27; ((with_reducible refine (C7.out _).mono ?_); rintro e w' ⟨rfl, rfl⟩))
      | (go_at_call 27; ((with_reducible refine (C8.out _).mono ?_); rintro e w' ⟨rfl, rfl⟩))
      | (go_at_call 27; ((with_reducible refine (C14.out _).mono ?_); rintro e w' ⟨rfl, rfl⟩)))
    go_ret
    exact RetB.mk rfl ⟨_, rfl⟩

end Go.Proofs.Ytnhonhdomgmhgaa.Num
