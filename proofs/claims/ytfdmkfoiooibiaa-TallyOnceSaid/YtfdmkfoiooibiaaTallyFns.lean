/- Proved: what the methods of tally.Count answer, in a run of one goroutine: the number in its one cell. -/
import Derived.Test.YtfdmkfoiooibiaaProg
import Derived.WalkKit
import Derived.WalkLawsBesides
import Derived.Lib.Hide
import Derived.IntWalk
import Derived.LoopN
import Derived.RowKit3
import Derived.Deep.LoopGhost
namespace Go.Proofs.Ytfdmkfoiooibiaa.Tally
open Go.RowKit

/-- A 64-bit number. -/
def In (x : Int) : Prop := -9223372036854775808 ≤ x ∧ x ≤ 9223372036854775807
/-- A number, or the nearer bound. -/
def sat (x : Int) : Int := if x > 9223372036854775807 then 9223372036854775807 else if x < -9223372036854775808 then -9223372036854775808 else x
theorem sat_in (x : Int) : In (sat x) := by unfold In sat; split <;> (try split) <;> omega

def RetI (r : Int) (w : World) (e : Ending) (w' : World) : Prop := e = .returned (.int .i64 r) ∧ w = w'
theorem RetI.mk {r r' : Int} {w : World} (h : r' = r) : RetI r w (.returned (.int .i64 r')) w := by subst h; exact ⟨rfl, rfl⟩

set_option maxHeartbeats 400000 in
theorem add_any (a b : Int) (w : World) (ha : In a) (hb : In b) : Calls Try.prog 18 #[.int .i64 a, .int .i64 b] w (RetI (sat (a + b)) w) := by
  unfold In at ha hb
  obtain ⟨a0, a1⟩ := ha
  obtain ⟨b0, b1⟩ := hb
  obtain ⟨s, hs⟩ : ∃ s, s = wrap64 (a + b) := ⟨_, rfl⟩
  have hsv : (a + b > 9223372036854775807 → s = a + b - 18446744073709551616) ∧ (a + b < -9223372036854775808 → s = a + b + 18446744073709551616) ∧ (-9223372036854775808 ≤ a + b → a + b ≤ 9223372036854775807 → s = a + b) := by
    rw [hs]; unfold wrap64; omega
  have Hv := Lib.hid hsv
  have e1 : wrap64 (a + b) = s := hs.symm
  have e2 : IntKind.i64.wrap (a + b) = s := by rw [IntWalk.i64_left]; exact e1
  clear hs hsv
  by_cases h1 : 0 < a
  · by_cases h2 : 0 < b
    · by_cases h3 : s ≤ 0
      · go_enter Try.func18, Try.ntmps18
        go_wp2
        go_ret
        exact RetI.mk (by have := Hv.out; unfold sat; split <;> (try split) <;> omega)
      · have h4 : ¬ a < 0 := by omega
        go_enter Try.func18, Try.ntmps18
        go_wp2
        go_ret
        exact RetI.mk (by have := Hv.out; unfold sat; split <;> (try split) <;> omega)
    · have h4 : ¬ a < 0 := by omega
      go_enter Try.func18, Try.ntmps18
      go_wp2
      go_ret
      exact RetI.mk (by have := Hv.out; unfold sat; split <;> (try split) <;> omega)
  · by_cases h2 : a < 0
    · by_cases h3 : b < 0
      · by_cases h4 : 0 ≤ s
        · go_enter Try.func18, Try.ntmps18
          go_wp2
          go_ret
          exact RetI.mk (by have := Hv.out; unfold sat; split <;> (try split) <;> omega)
        · go_enter Try.func18, Try.ntmps18
          go_wp2
          go_ret
          exact RetI.mk (by have := Hv.out; unfold sat; split <;> (try split) <;> omega)
      · go_enter Try.func18, Try.ntmps18
        go_wp2
        go_ret
        exact RetI.mk (by have := Hv.out; unfold sat; split <;> (try split) <;> omega)
    · go_enter Try.func18, Try.ntmps18
      go_wp2
      go_ret
      exact RetI.mk (by have := Hv.out; unfold sat; split <;> (try split) <;> omega)

theorem load_any (b off : Nat) (n : Int) (w : World) (hc : w.cell? ⟨b, off, none⟩ = some (.int .i64 n)) : Calls Try.prog 15 #[.pointer (some ⟨b, off, none⟩)] w (RetI n w) := by
  have hl := run_call_load (P := Try.prog) Try.func45 (by kernel_rfl) (by kernel_rfl) (by kernel_rfl) .i64 (by kernel_rfl) hc
  go_enter Try.func15, Try.ntmps15
  go_wp2
  go_ret
  exact RetI.mk rfl

theorem full_any (b off : Nat) (n : Int) (w : World) (hc : w.cell? ⟨b, off, none⟩ = some (.int .i64 n)) : Calls Try.prog 19 #[.pointer (some ⟨b, off, none⟩)] w fun e w' => e = .returned (.bool (n == 9223372036854775807)) ∧ w = w' := by
  go_enter Try.func19, Try.ntmps19
  go_wp2_with (go_at_call 15; refine (load_any b off n _ hc).mono ?_; rintro e w' ⟨rfl, rfl⟩)
  go_ret
  exact ⟨rfl, rfl⟩

set_option maxHeartbeats 400000 in
theorem put_any (b off : Nat) (n x : Int) (w : World) (hc : w.cell? ⟨b, off, none⟩ = some (.int .i64 n)) (hf : w.frozen? ⟨b, off, none⟩ = false) (hn : In n) (hx : In x) :
    Calls Try.prog 16 #[.pointer (some ⟨b, off, none⟩), .int .i64 x] w fun e w' => e = .returned (.int .i64 (sat (n + x))) ∧ w' = w.setCell ⟨b, off, none⟩ (.int .i64 (sat (n + x))) := by
  have hl := run_call_load (P := Try.prog) Try.func45 (by kernel_rfl) (by kernel_rfl) (by kernel_rfl) .i64 (by kernel_rfl) hc
  have ca := fun w => add_any n x w hn hx
  generalize sat (n + x) = s at *
  have hs := run_call_cas_hit (P := Try.prog) Try.func46 (by kernel_rfl) (by kernel_rfl) (by kernel_rfl) .i64 (by kernel_rfl) (y := s) hc hf
  have Ca := Lib.hid ca
  clear ca hn hx
  go_enter Try.func16, Try.ntmps16
  go_wp2
  refine wp_loop_rounds 1 ?_
  rw [rounds_succ]
  go_wp2_with (first | (go_at_call 18; refine (Ca.out _).mono ?_; rintro e w' ⟨rfl, rfl⟩) | go_in)
  go_ret
  exact ⟨rfl, rfl⟩

set_option maxHeartbeats 400000 in
theorem most_less (b off : Nat) (n x : Int) (w : World) (hc : w.cell? ⟨b, off, none⟩ = some (.int .i64 n)) (hf : w.frozen? ⟨b, off, none⟩ = false) (h : n < x) :
    Calls Try.prog 17 #[.pointer (some ⟨b, off, none⟩), .int .i64 x] w fun e w' => e = .returned (.int .i64 x) ∧ w' = w.setCell ⟨b, off, none⟩ (.int .i64 x) := by
  have hl := run_call_load (P := Try.prog) Try.func45 (by kernel_rfl) (by kernel_rfl) (by kernel_rfl) .i64 (by kernel_rfl) hc
  have hs := run_call_cas_hit (P := Try.prog) Try.func46 (by kernel_rfl) (by kernel_rfl) (by kernel_rfl) .i64 (by kernel_rfl) (y := x) hc hf
  go_enter Try.func17, Try.ntmps17
  go_wp2
  refine wp_loop_rounds 1 ?_
  rw [rounds_succ]
  go_wp2
  go_ret
  exact ⟨rfl, rfl⟩
theorem most_more (b off : Nat) (n x : Int) (w : World) (hc : w.cell? ⟨b, off, none⟩ = some (.int .i64 n)) (h : ¬ n < x) :
    Calls Try.prog 17 #[.pointer (some ⟨b, off, none⟩), .int .i64 x] w fun e w' => e = .returned (.int .i64 n) ∧ w' = w := by
  have hl := run_call_load (P := Try.prog) Try.func45 (by kernel_rfl) (by kernel_rfl) (by kernel_rfl) .i64 (by kernel_rfl) hc
  go_enter Try.func17, Try.ntmps17
  go_wp2
  refine wp_loop_rounds 1 ?_
  rw [rounds_succ]
  go_wp2
  go_ret
  exact ⟨rfl, rfl⟩

end Go.Proofs.Ytfdmkfoiooibiaa.Tally
