/- Proved: the walk of the law NumSums of package num: it answers true, for all 64-bit numbers. -/
import Derived.Test.YtnhonhdomgmhgaaNumParts
namespace Go.Proofs.Ytnhonhdomgmhgaa.Num
open Go.RowKit

theorem add64_run (x y c : Nat) (hc : c ≤ 1) (w : World) : (callFunc 36 #[.int .u64 x, .int .u64 y, .int .u64 c]).run Try.prog w =
      .ok (.value (.tuple #[.int .u64 (((x + y + c) % 18446744073709551616 : Nat) : Int), .int .u64 (((x + y + c) / 18446744073709551616 : Nat) : Int)])) w := by
  rw [run_callFunc_extern Try.func36 (by kernel_rfl) (by kernel_rfl) (by kernel_rfl) (e := add64Entry) (by kernel_rfl), run_add64 x y c (by omega) (by omega) (by omega) (by omega)]
  simp only [Result.andThen]
  congr 5 <;> omega

def RetW (h l : Nat) (w : World) (e : Ending) (w' : World) : Prop := e = .returned (.agg #[.int .u64 (h : Int), .int .u64 (l : Int)]) ∧ Below w.heap.size w w'

set_option maxHeartbeats 400000 in
theorem of_any (a : Int) (h l : Nat) (w : World) (h1 : a < 0 → h = 18446744073709551615) (h2 : 0 ≤ a → h = 0) (e1 : IntKind.u64.wrap a = (l : Int)) : Calls Try.prog 30 #[.int .i64 a] w (RetW h l w) := by
  by_cases hs : a < 0
  · have := h1 hs
    subst this
    clear h1 h2
    go_enter Try.func30, Try.ntmps30
    go_wp2
    exact bodyPost_ret (v := .agg #[.int .u64 18446744073709551615, .int .u64 (l : Int)]) (by simp [results, Try.results30, go_sem]) rfl ⟨rfl, ((Below.refl _ _).alloc (Nat.le_refl _) _)⟩
  · have := h2 (by omega)
    subst this
    clear h1 h2
    go_enter Try.func30, Try.ntmps30
    go_wp2
    exact bodyPost_ret (v := .agg #[.int .u64 0, .int .u64 (l : Int)]) (by simp [results, Try.results30, go_sem]) rfl ⟨rfl, ((Below.refl _ _).alloc (Nat.le_refl _) _)⟩

set_option maxHeartbeats 400000 in
theorem wadd_any (h1 l1 h2 l2 l c h d : Nat) (w : World) (e1 : ∀ w, (callFunc 36 #[.int .u64 l1, .int .u64 l2, .int .u64 0]).run Try.prog w = .ok (.value (.tuple #[.int .u64 (l : Int), .int .u64 (c : Int)])) w)
    (e2 : ∀ w, (callFunc 36 #[.int .u64 h1, .int .u64 h2, .int .u64 c]).run Try.prog w = .ok (.value (.tuple #[.int .u64 (h : Int), .int .u64 (d : Int)])) w) :
    Calls Try.prog 29 #[.agg #[.int .u64 h1, .int .u64 l1], .agg #[.int .u64 h2, .int .u64 l2]] w (RetW h l w) := by
  go_enter Try.func29, Try.ntmps29
  go_wp2
  exact bodyPost_ret (v := .agg #[.int .u64 (h : Int), .int .u64 (l : Int)]) (by simp [results, Try.results29, go_sem]) rfl ⟨rfl, ((((Below.refl _ _).alloc (Nat.le_refl _) _).alloc (by simp) _).alloc (by simp; omega) _)⟩

def RetN (r : Int) (w : World) (e : Ending) (w' : World) : Prop := e = .returned (.int .i64 r) ∧ Below w.heap.size w w'
theorem RetN.mk {r r' : Int} {w w' : World} (h : r' = r) (hb : Below w.heap.size w w') : RetN r w (.returned (.int .i64 r')) w' := by subst h; exact ⟨rfl, hb⟩

/-- The number that is nearest to one of 128 bits. -/
def nearS (h l : Int) : Int := if (h = 0 ∧ l ≤ 9223372036854775807) then l else if h = 18446744073709551615 ∧ 9223372036854775808 ≤ l then l - 18446744073709551616 else if 9223372036854775808 ≤ h then -9223372036854775808 else 9223372036854775807

set_option maxHeartbeats 1000000 in
theorem near_any (h l : Int) (w : World) (h0 : 0 ≤ h) (h1 : h ≤ 18446744073709551615) (l0 : 0 ≤ l) (l1 : l ≤ 18446744073709551615) : Calls Try.prog 28 #[.agg #[.int .u64 h, .int .u64 l]] w (RetN (nearS h l) w) := by
  obtain ⟨z, hz⟩ : ∃ z, z = wrap64 l := ⟨_, rfl⟩
  have hzv : (l ≤ 9223372036854775807 → z = l) ∧ (9223372036854775808 ≤ l → z = l - 18446744073709551616) := by rw [hz]; unfold wrap64; omega
  have e1 : wrap64 l = z := hz.symm
  have e2 : IntKind.i64.wrap l = z := by rw [IntWalk.i64_left]; exact e1
  have Hz := Lib.hid hzv
  clear hz hzv
  have top : Hid (h / 9223372036854775808 = 1 ↔ 9223372036854775808 ≤ h) := Lib.hid (by omega)
  by_cases a1 : h = 0
  · have b1 := bq a1
    have b1' : ¬ h = 18446744073709551615 := by omega
    have b2 := nq b1'
    have b3 : (h / 9223372036854775808 == 1) = false := nq (by omega)
    have A := Lib.hid a1
    clear a1 b1'
    by_cases a2 : l ≤ 9223372036854775807
    · have d1 : decide (l ≤ 9223372036854775807) = true := decide_eq_true a2
      go_enter Try.func28, Try.ntmps28
      go_wp2
      go_ret
      exact RetN.mk (by unfold nearS; rw [if_pos ⟨A.out, a2⟩]; exact Hz.out.1 a2) ((Below.refl _ _).alloc (Nat.le_refl _) _)
    · have d1 : decide (l ≤ 9223372036854775807) = false := decide_eq_false a2
      go_enter Try.func28, Try.ntmps28
      go_wp2
      go_ret
      exact RetN.mk (by have := A.out; unfold nearS; rw [if_neg (by omega), if_neg (by omega), if_neg (by omega)]) ((Below.refl _ _).alloc (Nat.le_refl _) _)
  · have b1 := nq a1
    by_cases a2 : h = 18446744073709551615
    · have b2 := bq a2
      have b3 : (h / 9223372036854775808 == 1) = true := bq (by omega)
      have A := Lib.hid a2
      clear a1 a2
      by_cases a3 : 9223372036854775808 ≤ l
      · have d1 : decide (9223372036854775808 ≤ l) = true := decide_eq_true a3
        go_enter Try.func28, Try.ntmps28
        go_wp2
        go_ret
        exact RetN.mk (by have := A.out; unfold nearS; rw [if_neg (by omega), if_pos ⟨by omega, a3⟩]; exact Hz.out.2 a3) ((Below.refl _ _).alloc (Nat.le_refl _) _)
      · have d1 : decide (9223372036854775808 ≤ l) = false := decide_eq_false a3
        go_enter Try.func28, Try.ntmps28
        go_wp2
        go_ret
        exact RetN.mk (by have := A.out; unfold nearS; rw [if_neg (by omega), if_neg (by omega), if_pos (by omega)]) ((Below.refl _ _).alloc (Nat.le_refl _) _)
    · have b2 := nq a2
      have A1 := Lib.hid a1
      have A2 := Lib.hid a2
      clear a1 a2
      by_cases a3 : 9223372036854775808 ≤ h
      · have b3 : (h / 9223372036854775808 == 1) = true := bq (by omega)
        go_enter Try.func28, Try.ntmps28
        go_wp2
        go_ret
        exact RetN.mk (by have := A1.out; have := A2.out; unfold nearS; rw [if_neg (by omega), if_neg (by omega), if_pos (by omega)]) ((Below.refl _ _).alloc (Nat.le_refl _) _)
      · have b3 : (h / 9223372036854775808 == 1) = false := nq (by omega)
        go_enter Try.func28, Try.ntmps28
        go_wp2
        go_ret
        exact RetN.mk (by have := A1.out; have := A2.out; unfold nearS; rw [if_neg (by omega), if_neg (by omega), if_neg (by omega)]) ((Below.refl _ _).alloc (Nat.le_refl _) _)

theorem xor_max (x : Nat) (hx : x ≤ 18446744073709551615) : bits .xor .u64 IntKind.u64.max (x : Int) = ((18446744073709551615 - x : Nat) : Int) := by
  have e1 : IntKind.u64.max = 18446744073709551615 := rfl
  have e2 : BitVec.ofInt 64 18446744073709551615 = BitVec.allOnes 64 := by decide
  have e3 : (BitVec.ofInt 64 (x : Int)).toNat = x := by rw [BitVec.ofInt_natCast, BitVec.toNat_ofNat]; exact Nat.mod_eq_of_lt (by omega)
  show IntKind.u64.wrap ((BitVec.ofInt 64 IntKind.u64.max ^^^ BitVec.ofInt 64 (x : Int)).toNat : Int) = _
  rw [e1, e2, BitVec.allOnes_xor, BitVec.toNat_not, e3, IntKind.wrap_u64]
  omega

set_option maxHeartbeats 400000 in
theorem neg_any (h l x y : Nat) (w : World) (hx : x ≤ 18446744073709551615) (hy : y ≤ 18446744073709551615) (c : ∀ w, Calls Try.prog 29 #[.agg #[.int .u64 ((18446744073709551615 - x : Nat) : Int), .int .u64 ((18446744073709551615 - y : Nat) : Int)], .agg #[.int .u64 0, .int .u64 1]] w (RetW h l w)) : Calls Try.prog 31 #[.agg #[.int .u64 (x : Int), .int .u64 (y : Int)]] w (RetW h l w) := by
  have ex := xor_max x hx
  have ey := xor_max y hy
  generalize (18446744073709551615 - x : Nat) = x' at *
  generalize (18446744073709551615 - y : Nat) = y' at *
  have hs : IntKind.u64.signed = false := rfl
  have C := Lib.hid c
  clear c hx hy
  go_enter Try.func31, Try.ntmps31
  go_wp2_with fail
  refine (C.out _).mono ?_
  rintro e w1 ⟨rfl, hb1⟩
  have c0 : w1.cell? ⟨w.heap.size + 1, 0, none⟩ = some (.int .u64 0) := (hb1.cell (p := ⟨w.heap.size + 1, 0, none⟩) (by simp)).trans (by simp)
  have c1 : w1.cell? ⟨w.heap.size + 1, 1, none⟩ = some (.int .u64 0) := (hb1.cell (p := ⟨w.heap.size + 1, 1, none⟩) (by simp)).trans (by simp)
  have f0 : w1.frozen? ⟨w.heap.size + 1, 0, none⟩ = false := (hb1.frozen (p := ⟨w.heap.size + 1, 0, none⟩) (by simp)).trans (by simp)
  have f1 : w1.frozen? ⟨w.heap.size + 1, 1, none⟩ = false := (hb1.frozen (p := ⟨w.heap.size + 1, 1, none⟩) (by simp)).trans (by simp)
  have hz : w.heap.size + 1 < w1.heap.size := by have := hb1.size; simp at this; omega
  go_wp2
  refine bodyPost_ret (v := .agg #[.int .u64 (h : Int), .int .u64 (l : Int)]) (by simp [results, Try.results31, go_sem, c0, c1]) rfl ⟨rfl, ?_⟩
  exact ((((((Below.refl _ _).alloc (Nat.le_refl _) _).alloc (by simp) _).trans (hb1.mono (by simp; omega))).setCell (by simp) _).setCell (by simp) _)
end Go.Proofs.Ytnhonhdomgmhgaa.Num
