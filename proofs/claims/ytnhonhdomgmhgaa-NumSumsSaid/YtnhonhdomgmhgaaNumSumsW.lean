/- Proved: the walk of the law NumSums: it answers true, for all 64-bit numbers. -/
import Derived.Test.YtnhonhdomgmhgaaNumWmul
namespace Go.Proofs.Ytnhonhdomgmhgaa.Num
open Go.RowKit

theorem RetN.on {r : Int} {w B : World} (bl : Below w.heap.size w B) {e : Ending} {B' : World} (h : RetN r B e B') : e = .returned (.int .i64 r) ∧ Below w.heap.size w B' :=
  ⟨h.1, bl.trans (h.2.mono bl.size)⟩
theorem RetW.on {x y : Nat} {w B : World} (bl : Below w.heap.size w B) {e : Ending} {B' : World} (h : RetW x y B e B') : e = .returned (.agg #[.int .u64 (x : Int), .int .u64 (y : Int)]) ∧ Below w.heap.size w B' :=
  ⟨h.1, bl.trans (h.2.mono bl.size)⟩

set_option maxRecDepth 100000 in
set_option maxHeartbeats 4000000 in
theorem sums_walk (x y : Int) (w : World) (hx : In x) (hy : In y) : Calls Try.prog 14 #[.int .i64 x, .int .i64 y] w fun e w' => e = .returned (.bool true) ∧ Below w.heap.size w w' := by
  have hxy : -85070591730234615865843651857942052864 ≤ x * y ∧ x * y ≤ 85070591730234615865843651857942052864 := by
    have h1 : (x * y).natAbs ≤ 9223372036854775808 * 9223372036854775808 := by
      rw [Int.natAbs_mul]
      unfold In at hx hy
      exact Nat.mul_le_mul (by omega) (by omega)
    omega
  have C1 := Lib.hid (fun w => add_any x y w hx hy)
  have C2 := Lib.hid (fun w => sub_any x y w hx hy)
  have C3 := Lib.hid (fun w => mul_any x y w hx hy)
  have W1 := Lib.hid (fun w => of_v x w hx)
  have W2 := Lib.hid (fun w => of_v y w hy)
  have W6 := Lib.hid (fun w => wmul_v x y w hx hy)
  unfold In at hx hy
  have W3 : Hid (∀ w, Calls Try.prog 29 #[.agg #[.int .u64 (hi x : Int), .int .u64 (lo x : Int)], .agg #[.int .u64 (hi y : Int), .int .u64 (lo y : Int)]] w (RetW (hi (x + y)) (lo (x + y)) w)) := Lib.hid (fun w => wadd_v x y w)
  have W4 : Hid (∀ w, Calls Try.prog 31 #[.agg #[.int .u64 (hi y : Int), .int .u64 (lo y : Int)]] w (RetW (hi (-y)) (lo (-y)) w)) := Lib.hid (fun w => neg_v y w)
  have W5 : Hid (∀ w, Calls Try.prog 29 #[.agg #[.int .u64 (hi x : Int), .int .u64 (lo x : Int)], .agg #[.int .u64 (hi (-y) : Int), .int .u64 (lo (-y) : Int)]] w (RetW (hi (x - y)) (lo (x - y)) w)) := Lib.hid (fun w => wadd_v x (-y) w)
  have N1 : Hid (∀ w, Calls Try.prog 28 #[.agg #[.int .u64 (hi (x + y) : Int), .int .u64 (lo (x + y) : Int)]] w (RetN (sat (x + y)) w)) := Lib.hid (fun w => near_v (x + y) w (by omega) (by omega))
  have N2 : Hid (∀ w, Calls Try.prog 28 #[.agg #[.int .u64 (hi (x - y) : Int), .int .u64 (lo (x - y) : Int)]] w (RetN (sat (x - y)) w)) := Lib.hid (fun w => near_v (x - y) w (by omega) (by omega))
  have N3 : Hid (∀ w, Calls Try.prog 28 #[.agg #[.int .u64 (hi (x * y) : Int), .int .u64 (lo (x * y) : Int)]] w (RetN (sat (x * y)) w)) := Lib.hid (fun w => near_v (x * y) w (by omega) (by omega))
  generalize sat (x + y) = s1 at C1 N1
  generalize sat (x - y) = s2 at C2 N2
  generalize sat (x * y) = s3 at C3 N3
  generalize hi (x + y) = h1 at W3 N1
  generalize lo (x + y) = l1 at W3 N1
  generalize hi (x - y) = h2 at W5 N2
  generalize lo (x - y) = l2 at W5 N2
  generalize hi (x * y) = h3 at W6 N3
  generalize lo (x * y) = l3 at W6 N3
  generalize hi (-y) = h4 at W4 W5
  generalize lo (-y) = l4 at W4 W5
  generalize hi x = hX at W1 W3 W5
  generalize lo x = lX at W1 W3 W5
  generalize hi y = hY at W2 W3 W4
  generalize lo y = lY at W2 W3 W4
  clear hx hy hxy
  go_enter Try.func14, Try.ntmps14
  go_wp2_with fail
  refine (head_any _).mono ?_
  rintro e w0 ⟨rfl, k, rfl⟩
  have BL : Hid (Below w.heap.size w (w.drewN k)) := Lib.hid ⟨rfl, rfl, rfl, Nat.le_refl _, fun _ _ => rfl⟩
  go_wp2_with fail
  refine (C1.out _).mono ?_
  rintro e w1 ⟨rfl, rfl⟩
  generalize w.drewN k = v0 at BL ⊢
  go_wp2_with fail
  refine (W1.out _).mono ?_
  intro e v1 hr
  obtain ⟨rfl, bl⟩ := hr.on BL.out
  have BL := Lib.hid bl
  clear bl hr
  go_wp2_with fail
  refine (W2.out _).mono ?_
  intro e v2 hr
  obtain ⟨rfl, bl⟩ := hr.on BL.out
  have BL := Lib.hid bl
  clear bl hr
  go_wp2_with fail
  refine (W3.out _).mono ?_
  intro e v3 hr
  obtain ⟨rfl, bl⟩ := hr.on BL.out
  have BL := Lib.hid bl
  clear bl hr
  go_wp2_with fail
  refine (N1.out _).mono ?_
  intro e v4 hr
  obtain ⟨rfl, bl⟩ := hr.on BL.out
  have BL := Lib.hid bl
  clear bl hr
  go_wp2_with fail
  refine (C2.out _).mono ?_
  rintro e w1 ⟨rfl, rfl⟩
  go_wp2_with fail
  refine (W1.out _).mono ?_
  intro e v5 hr
  obtain ⟨rfl, bl⟩ := hr.on BL.out
  have BL := Lib.hid bl
  clear bl hr
  go_wp2_with fail
  refine (W2.out _).mono ?_
  intro e v6 hr
  obtain ⟨rfl, bl⟩ := hr.on BL.out
  have BL := Lib.hid bl
  clear bl hr
  go_wp2_with fail
  refine (W4.out _).mono ?_
  intro e v7 hr
  obtain ⟨rfl, bl⟩ := hr.on BL.out
  have BL := Lib.hid bl
  clear bl hr
  go_wp2_with fail
  refine (W5.out _).mono ?_
  intro e v8 hr
  obtain ⟨rfl, bl⟩ := hr.on BL.out
  have BL := Lib.hid bl
  clear bl hr
  go_wp2_with fail
  refine (N2.out _).mono ?_
  intro e v9 hr
  obtain ⟨rfl, bl⟩ := hr.on BL.out
  have BL := Lib.hid bl
  clear bl hr
  go_wp2_with fail
  refine (C3.out _).mono ?_
  rintro e w1 ⟨rfl, rfl⟩
  go_wp2_with fail
  refine (W6.out _).mono ?_
  intro e v10 hr
  obtain ⟨rfl, bl⟩ := hr.on BL.out
  have BL := Lib.hid bl
  clear bl hr
  go_wp2_with fail
  refine (N3.out _).mono ?_
  intro e v11 hr
  obtain ⟨rfl, bl⟩ := hr.on BL.out
  have BL := Lib.hid bl
  clear bl hr
  go_wp2
  go_ret
  exact ⟨by simp, BL.out⟩

end Go.Proofs.Ytnhonhdomgmhgaa.Num
