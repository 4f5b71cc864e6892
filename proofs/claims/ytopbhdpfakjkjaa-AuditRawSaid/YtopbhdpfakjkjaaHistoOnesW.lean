/- Proved: the walk of the law HistoOnes: it answers true, for all numbers. -/
import Derived.Test.YtopbhdpfakjkjaaHistoHead
namespace Go.Proofs.Ytopbhdpfakjkjaa.Histo
open Go.RowKit
set_option linter.unusedVariables false

theorem i64_mask (n m : Int) (j : Nat) (h : (BitVec.ofInt 64 m).toNat = 2 ^ j - 1) : Go.bits .and .i64 n m = IntKind.i64.wrap (((n % ((2 ^ 64 : Nat) : Int)).toNat % 2 ^ j : Nat) : Int) := by
  have key : (BitVec.ofInt 64 n &&& BitVec.ofInt 64 m).toNat = (n % ((2 ^ 64 : Nat) : Int)).toNat % 2 ^ j := by
    rw [BitVec.toNat_and, BitVec.toNat_ofInt, h, Nat.and_two_pow_sub_one_eq_mod]
  show IntKind.i64.wrap ((BitVec.ofInt 64 n &&& BitVec.ofInt 64 m).toNat : Nat) = _
  rw [key]
theorem and_255 (n : Int) : Go.bits .and .i64 n 255 = n % 256 := by rw [i64_mask n 255 8 (by decide), IntKind.wrap_i64]; omega
theorem and_127 (n : Int) : Go.bits .and .i64 n 127 = n % 128 := by rw [i64_mask n 127 7 (by decide), IntKind.wrap_i64]; omega
theorem and_63 (n : Int) : Go.bits .and .i64 n 63 = n % 64 := by rw [i64_mask n 63 6 (by decide), IntKind.wrap_i64]; omega
theorem and_31 (n : Int) : Go.bits .and .i64 n 31 = n % 32 := by rw [i64_mask n 31 5 (by decide), IntKind.wrap_i64]; omega
theorem and_15 (n : Int) : Go.bits .and .i64 n 15 = n % 16 := by rw [i64_mask n 15 4 (by decide), IntKind.wrap_i64]; omega
theorem and_7 (n : Int) : Go.bits .and .i64 n 7 = n % 8 := by rw [i64_mask n 7 3 (by decide), IntKind.wrap_i64]; omega
theorem and_4095 (n : Int) : Go.bits .and .i64 n 4095 = n % 4096 := by rw [i64_mask n 4095 12 (by decide), IntKind.wrap_i64]; omega
theorem and_u16 (n : Int) : Go.bits .and .i64 n 65535 = n % 65536 := by rw [i64_mask n 65535 16 (by decide), IntKind.wrap_i64]; omega
theorem bq {x y : Int} (h : x = y) : (x == y) = true := beq_iff_eq.2 h
theorem nq {x y : Int} (h : ¬ x = y) : (x == y) = false := beq_eq_false_iff_ne.2 h

/-- So many idle times alike behind others. -/
def S.addN (s : S) (t : Int) : Nat → S | 0 => s | k + 1 => (s.addN t k).add t
theorem Ok.addN {s : S} (h : Ok s) (t : Int) : ∀ k, Ok (s.addN t k)
  | 0 => h
  | k + 1 => (h.addN t k).add t
def zeros : List Int := List.replicate 240 0
theorem zeros_len : zeros.length = 240 := List.length_replicate
theorem zeros_get (i : Nat) : zeros.getD i 0 = 0 := by
  unfold zeros
  rw [List.getD_eq_getElem?_getD, List.getElem?_replicate]
  split <;> rfl
theorem one_bin {t : Nat} (ht : t < 240) : ∀ k, k < 4096 → S.empty.addN t k = ⟨zeros.set t k, k, 0⟩
  | 0, _ => by
    show S.empty = _
    unfold S.empty
    congr 1
    apply List.ext_getElem?
    intro i
    rw [List.getElem?_set]
    split
    · next h =>
      subst h
      rw [if_pos (by rw [zeros_len]; exact ht), List.getElem?_replicate, if_pos ht]; rfl
    · rfl
  | k + 1, hk => by
    have ih := one_bin ht k (by omega)
    have hr : (S.mk (zeros.set t k) k 0).raw t = ⟨zeros.set t ((k + 1 : Nat) : Int), ((k + 1 : Nat) : Int), 0⟩ := by
      unfold S.raw
      rw [if_pos (by omega)]
      simp only [Int.toNat_natCast]
      rw [List.set_set, List.getD_eq_getElem?_getD, List.getElem?_set_self (by rw [zeros_len]; exact ht)]
      simp
    show (S.empty.addN t k).add t = _
    rw [ih]
    unfold S.add
    rw [if_neg (by omega), hr]
    simp only
    rw [if_neg (by omega)]
theorem out_bin {t : Int} (ht : 240 ≤ t) : ∀ k, k < 4096 → S.empty.addN t k = ⟨zeros, 0, k⟩
  | 0, _ => rfl
  | k + 1, hk => by
    have ih := out_bin ht k (by omega)
    have hr : (S.mk zeros 0 k).raw t = ⟨zeros, 0, ((k + 1 : Nat) : Int)⟩ := by
      unfold S.raw
      rw [if_neg (by omega)]
      simp
    show (S.empty.addN t k).add t = _
    rw [ih]
    unfold S.add
    rw [if_neg (by omega), hr]
    simp only
    rw [if_neg (by omega)]
theorem ps_one {t : Nat} (ht : t < 240) (x : Int) (k : Nat) : ps (zeros.set t x) k = if t < k then x else 0 := by
  unfold ps
  rw [List.take_set]
  have hz : ∀ m, ((zeros.take m).sum : Int) = 0 := fun m => by unfold zeros; rw [List.take_replicate]; exact sum_zeros _
  split
  · next h =>
    rw [sum_set _ _ _ (by rw [List.length_take, zeros_len]; omega), hz]
    have : (zeros.take k).getD t 0 = 0 := by
      rw [List.getD_eq_getElem?_getD, List.getElem?_take, if_pos h, ← List.getD_eq_getElem?_getD]; exact zeros_get t
    omega
  · next h =>
    rw [List.set_eq_of_length_le (by rw [List.length_take]; omega), hz]
theorem cut_one {t : Nat} (ht : t < 240) {n : Nat} (hn : 0 < n) (p : Int) : (S.mk (zeros.set t n) n 0).cut p = t := by
  refine cut_of ⟨ht, ⟨?_, ?_⟩, fun j hj hs => ?_⟩
  · simp only; rw [ps_one ht, if_pos (by omega)]; omega
  · simp only; rw [ps_one ht, if_pos (by omega), Int.mul_comm (n : Int) 100]; exact Int.mul_le_mul_of_nonneg_right (by unfold pc; omega) (by omega)
  · have := hs.1
    simp only at this
    rw [ps_one ht, if_neg (by omega)] at this
    omega

end Go.Proofs.Ytopbhdpfakjkjaa.Histo
