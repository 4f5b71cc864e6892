/- Proved: what each function of package num answers, for all 64-bit numbers: sums, differences and products, or the nearer bound; parts of numbers; a number between bounds. -/
import Derived.Test.YtopbhdpfakjkjaaNumDivAll
namespace Go.Proofs.Ytopbhdpfakjkjaa.Num
open Go.RowKit

/-- A 64-bit number. -/
def In (x : Int) : Prop := -9223372036854775808 ≤ x ∧ x ≤ 9223372036854775807
/-- A number, or the nearer bound. -/
def sat (x : Int) : Int := if x > 9223372036854775807 then 9223372036854775807 else if x < -9223372036854775808 then -9223372036854775808 else x
theorem sat_in (x : Int) : In (sat x) := by unfold In sat; split <;> (try split) <;> omega
theorem sat_id {x : Int} (h : In x) : sat x = x := by unfold In at h; unfold sat; split <;> (try split) <;> omega

def RetI (r : Int) (w : World) (e : Ending) (w' : World) : Prop := e = .returned (.int .i64 r) ∧ w = w'
theorem RetI.mk {r r' : Int} {w : World} (h : r' = r) : RetI r w (.returned (.int .i64 r')) w := by subst h; exact ⟨rfl, rfl⟩

set_option maxHeartbeats 400000 in
theorem add_any (a b : Int) (w : World) (ha : In a) (hb : In b) : Calls Try.prog 43 #[.int .i64 a, .int .i64 b] w (RetI (sat (a + b)) w) := by
  unfold In at ha hb
  obtain ⟨a0, a1⟩ := ha
  obtain ⟨b0, b1⟩ := hb
  obtain ⟨s, hs⟩ : ∃ s, s = wrap64 (a + b) := ⟨_, rfl⟩
  have hsv : (a + b > 9223372036854775807 → s = a + b - 18446744073709551616) ∧ (a + b < -9223372036854775808 → s = a + b + 18446744073709551616) ∧ (-9223372036854775808 ≤ a + b → a + b ≤ 9223372036854775807 → s = a + b) := by
    rw [hs]; unfold wrap64; omega
  have Hv := Lib.hid hsv
  have e1 : wrap64 (a + b) = s := hs.symm
  have e2 : IntKind.i64.wrap (a + b) = s := by rw [IntWalk.i64_left]; exact e1
  clear hs hsv
  by_cases h1 : 0 < a
  · by_cases h2 : 0 < b
    · by_cases h3 : s ≤ 0
      · go_enter Try.func43, Try.ntmps43
        go_wp2
        go_ret
        exact RetI.mk (by have := Hv.out; unfold sat; split <;> (try split) <;> omega)
      · have h4 : ¬ a < 0 := by omega
        go_enter Try.func43, Try.ntmps43
        go_wp2
        go_ret
        exact RetI.mk (by have := Hv.out; unfold sat; split <;> (try split) <;> omega)
    · have h4 : ¬ a < 0 := by omega
      go_enter Try.func43, Try.ntmps43
      go_wp2
      go_ret
      exact RetI.mk (by have := Hv.out; unfold sat; split <;> (try split) <;> omega)
  · by_cases h2 : a < 0
    · by_cases h3 : b < 0
      · by_cases h4 : 0 ≤ s
        · go_enter Try.func43, Try.ntmps43
          go_wp2
          go_ret
          exact RetI.mk (by have := Hv.out; unfold sat; split <;> (try split) <;> omega)
        · go_enter Try.func43, Try.ntmps43
          go_wp2
          go_ret
          exact RetI.mk (by have := Hv.out; unfold sat; split <;> (try split) <;> omega)
      · go_enter Try.func43, Try.ntmps43
        go_wp2
        go_ret
        exact RetI.mk (by have := Hv.out; unfold sat; split <;> (try split) <;> omega)
    · go_enter Try.func43, Try.ntmps43
      go_wp2
      go_ret
      exact RetI.mk (by have := Hv.out; unfold sat; split <;> (try split) <;> omega)

set_option maxHeartbeats 400000 in
theorem clamp_any (n lo hi : Int) (w : World) : Calls Try.prog 40 #[.int .i64 n, .int .i64 lo, .int .i64 hi] w (RetI (max lo (min n hi)) w) := by
  go_enter Try.func40, Try.ntmps40
  go_wp2
  go_ret
  exact RetI.mk rfl

def RetU (r : Nat) (w : World) (e : Ending) (w' : World) : Prop := e = .returned (.int .u64 (r : Int)) ∧ w = w'
theorem RetU.mk {r : Nat} {r' : Int} {w : World} (h : r' = r) : RetU r w (.returned (.int .u64 r')) w := by subst h; exact ⟨rfl, rfl⟩

/-- A magnitude of 128 bits with a sign, or the bound that it would be beyond. -/
def sgn (hi lo : Nat) (neg : Bool) : Int := if neg = true then sat (-((hi * 18446744073709551616 + lo : Nat) : Int)) else sat ((hi * 18446744073709551616 + lo : Nat) : Int)

set_option maxHeartbeats 400000 in
theorem signed_pos (hi lo : Nat) (w : World) (hlo : lo ≤ 18446744073709551615) : Calls Try.prog 55 #[.int .u64 hi, .int .u64 lo, .bool false] w (RetI (sat ((hi * 18446744073709551616 + lo : Nat) : Int)) w) := by
  by_cases h : 0 < hi
  · have h' : (0 : Int) < (hi : Int) := by omega
    go_enter Try.func55, Try.ntmps55
    go_wp2
    go_ret
    exact RetI.mk (by unfold sat; rw [if_pos (by omega)])
  · obtain rfl : hi = 0 := by omega
    clear h
    obtain ⟨x, hx⟩ : ∃ x : Int, x = (lo : Int) := ⟨_, rfl⟩
    rw [← hx]
    have Hx := Lib.hid hx
    have x0 : 0 ≤ x := by omega
    have x1 : x ≤ 18446744073709551615 := by omega
    clear hx hlo
    by_cases h1 : 9223372036854775807 < x
    · go_enter Try.func55, Try.ntmps55
      go_wp2
      go_ret
      exact RetI.mk (by have := Hx.out; unfold sat; rw [if_pos (by omega)])
    · go_enter Try.func55, Try.ntmps55
      go_wp2
      go_ret
      exact RetI.mk (by have := Hx.out; unfold sat; rw [if_neg (by omega), if_neg (by omega)]; omega)

set_option maxHeartbeats 400000 in
theorem signed_neg (hi lo : Nat) (w : World) (hlo : lo ≤ 18446744073709551615) : Calls Try.prog 55 #[.int .u64 hi, .int .u64 lo, .bool true] w (RetI (sat (-((hi * 18446744073709551616 + lo : Nat) : Int))) w) := by
  by_cases h : 0 < hi
  · have h' : (0 : Int) < (hi : Int) := by omega
    go_enter Try.func55, Try.ntmps55
    go_wp2
    go_ret
    exact RetI.mk (by unfold sat; rw [if_neg (by omega), if_pos (by omega)])
  · obtain rfl : hi = 0 := by omega
    clear h
    obtain ⟨x, hx⟩ : ∃ x : Int, x = (lo : Int) := ⟨_, rfl⟩
    rw [← hx]
    have Hx := Lib.hid hx
    have x0 : 0 ≤ x := by omega
    have x1 : x ≤ 18446744073709551615 := by omega
    clear hx hlo
    by_cases h1 : 9223372036854775808 < x
    · go_enter Try.func55, Try.ntmps55
      go_wp2
      go_ret
      exact RetI.mk (by have := Hx.out; unfold sat; rw [if_neg (by omega), if_pos (by omega)])
    · obtain ⟨y, hy⟩ : ∃ y, y = IntKind.u64.wrap (-x) := ⟨_, rfl⟩
      have hyv : y = if x = 0 then 0 else 18446744073709551616 - x := by rw [hy, IntKind.wrap_u64]; split <;> omega
      have e1 : IntKind.u64.wrap (-x) = y := hy.symm
      obtain ⟨z, hz⟩ : ∃ z, z = wrap64 y := ⟨_, rfl⟩
      have hzv : z = -x := by rw [hz, hyv]; unfold wrap64; split <;> omega
      have e2 : wrap64 y = z := hz.symm
      have e3 : IntKind.i64.wrap y = z := by rw [IntWalk.i64_left]; exact e2
      have Hz := Lib.hid hzv
      clear hy hyv hz hzv
      go_enter Try.func55, Try.ntmps55
      go_wp2
      go_ret
      exact RetI.mk (by have := Hx.out; have := Hz.out; unfold sat; rw [if_neg (by omega), if_neg (by omega)]; omega)

end Go.Proofs.Ytopbhdpfakjkjaa.Num
