/- Proved: the walk of the law HistoOnes: it answers true, for all numbers. -/
import Derived.Test.YtfdmkfoiooibiaaHistoHead
namespace Go.Proofs.Ytfdmkfoiooibiaa.Histo
open Go.RowKit

theorem i64_mask (n m : Int) (j : Nat) (h : (BitVec.ofInt 64 m).toNat = 2 ^ j - 1) : Go.bits .and .i64 n m = IntKind.i64.wrap (((n % ((2 ^ 64 : Nat) : Int)).toNat % 2 ^ j : Nat) : Int) := by
  have key : (BitVec.ofInt 64 n &&& BitVec.ofInt 64 m).toNat = (n % ((2 ^ 64 : Nat) : Int)).toNat % 2 ^ j := by
    rw [BitVec.toNat_and, BitVec.toNat_ofInt, h, Nat.and_two_pow_sub_one_eq_mod]
  show IntKind.i64.wrap ((BitVec.ofInt 64 n &&& BitVec.ofInt 64 m).toNat : Nat) = _
  rw [key]
theorem and_255 (n : Int) : Go.bits .and .i64 n 255 = n % 256 := by rw [i64_mask n 255 8 (by decide), IntKind.wrap_i64]; omega
theorem and_127 (n : Int) : Go.bits .and .i64 n 127 = n % 128 := by rw [i64_mask n 127 7 (by decide), IntKind.wrap_i64]; omega
theorem and_63 (n : Int) : Go.bits .and .i64 n 63 = n % 64 := by rw [i64_mask n 63 6 (by decide), IntKind.wrap_i64]; omega
theorem and_31 (n : Int) : Go.bits .and .i64 n 31 = n % 32 := by rw [i64_mask n 31 5 (by decide), IntKind.wrap_i64]; omega
theorem and_15 (n : Int) : Go.bits .and .i64 n 15 = n % 16 := by rw [i64_mask n 15 4 (by decide), IntKind.wrap_i64]; omega
theorem and_7 (n : Int) : Go.bits .and .i64 n 7 = n % 8 := by rw [i64_mask n 7 3 (by decide), IntKind.wrap_i64]; omega
theorem and_4095 (n : Int) : Go.bits .and .i64 n 4095 = n % 4096 := by rw [i64_mask n 4095 12 (by decide), IntKind.wrap_i64]; omega
theorem and_u16 (n : Int) : Go.bits .and .i64 n 65535 = n % 65536 := by rw [i64_mask n 65535 16 (by decide), IntKind.wrap_i64]; omega
theorem bq {x y : Int} (h : x = y) : (x == y) = true := beq_iff_eq.2 h
theorem nq {x y : Int} (h : ¬ x = y) : (x == y) = false := beq_eq_false_iff_ne.2 h

/-- So many idle times alike behind others. -/
def S.addN (s : S) (t : Int) : Nat → S | 0 => s | k + 1 => (s.addN t k).add t
theorem Ok.addN {s : S} (h : Ok s) (t : Int) : ∀ k, Ok (s.addN t k)
  | 0 => h
  | k + 1 => (h.addN t k).add t
def zeros : List Int := List.replicate 240 0
theorem zeros_len : zeros.length = 240 := List.length_replicate
theorem zeros_get (i : Nat) : zeros.getD i 0 = 0 := by
  unfold zeros
  rw [List.getD_eq_getElem?_getD, List.getElem?_replicate]
  split <;> rfl
theorem one_bin {t : Nat} (ht : t < 240) : ∀ k, k < 4096 → S.empty.addN t k = ⟨zeros.set t k, k, 0⟩
  | 0, _ => by
    show S.empty = _
    unfold S.empty
    congr 1
    apply List.ext_getElem?
    intro i
    rw [List.getElem?_set]
    split
    · next h =>
      subst h
      rw [if_pos (by rw [zeros_len]; exact ht), List.getElem?_replicate, if_pos ht]; rfl
    · rfl
  | k + 1, hk => by
    have ih := one_bin ht k (by omega)
    have hr : (S.mk (zeros.set t k) k 0).raw t = ⟨zeros.set t ((k + 1 : Nat) : Int), ((k + 1 : Nat) : Int), 0⟩ := by
      unfold S.raw
      rw [if_pos (by omega)]
      simp only [Int.toNat_natCast]
      rw [List.set_set, List.getD_eq_getElem?_getD, List.getElem?_set_self (by rw [zeros_len]; exact ht)]
      simp
    show (S.empty.addN t k).add t = _
    rw [ih]
    unfold S.add
    rw [if_neg (by omega), hr]
    simp only
    rw [if_neg (by omega)]
theorem out_bin {t : Int} (ht : 240 ≤ t) : ∀ k, k < 4096 → S.empty.addN t k = ⟨zeros, 0, k⟩
  | 0, _ => rfl
  | k + 1, hk => by
    have ih := out_bin ht k (by omega)
    have hr : (S.mk zeros 0 k).raw t = ⟨zeros, 0, ((k + 1 : Nat) : Int)⟩ := by
      unfold S.raw
      rw [if_neg (by omega)]
      simp
    show (S.empty.addN t k).add t = _
    rw [ih]
    unfold S.add
    rw [if_neg (by omega), hr]
    simp only
    rw [if_neg (by omega)]
theorem ps_one {t : Nat} (ht : t < 240) (x : Int) (k : Nat) : ps (zeros.set t x) k = if t < k then x else 0 := by
  unfold ps
  rw [List.take_set]
  have hz : ∀ m, ((zeros.take m).sum : Int) = 0 := fun m => by unfold zeros; rw [List.take_replicate]; exact sum_zeros _
  split
  · next h =>
    rw [sum_set _ _ _ (by rw [List.length_take, zeros_len]; omega), hz]
    have : (zeros.take k).getD t 0 = 0 := by
      rw [List.getD_eq_getElem?_getD, List.getElem?_take, if_pos h, ← List.getD_eq_getElem?_getD]; exact zeros_get t
    omega
  · next h =>
    rw [List.set_eq_of_length_le (by rw [List.length_take]; omega), hz]
theorem cut_one {t : Nat} (ht : t < 240) {n : Nat} (hn : 0 < n) (p : Int) : (S.mk (zeros.set t n) n 0).cut p = t := by
  refine cut_of ⟨ht, ⟨?_, ?_⟩, fun j hj hs => ?_⟩
  · simp only; rw [ps_one ht, if_pos (by omega)]; omega
  · simp only; rw [ps_one ht, if_pos (by omega), Int.mul_comm (n : Int) 100]; exact Int.mul_le_mul_of_nonneg_right (by unfold pc; omega) (by omega)
  · have := hs.1
    simp only at this
    rw [ps_one ht, if_neg (by omega)] at this
    omega

set_option maxRecDepth 100000 in
set_option maxHeartbeats 4000000 in
theorem ones_walk (t0 n0 p : Int) (w : World) : Calls Try.prog 10 #[.int .i64 t0, .int .i64 n0, .int .i64 p] w (Yes w) := by
  obtain ⟨T, hT⟩ : ∃ T : Nat, (T : Int) = t0 % 256 := ⟨(t0 % 256).toNat, by omega⟩
  obtain ⟨M, hM⟩ : ∃ M : Nat, (M : Int) = n0 % 256 := ⟨(n0 % 256).toNat, by omega⟩
  obtain ⟨N, hN⟩ : ∃ N : Nat, N = 1 + M := ⟨_, rfl⟩
  have e1 : Go.bits .and .i64 t0 255 = (T : Int) := by rw [and_255, hT]
  have e2 : Go.bits .and .i64 n0 255 = (M : Int) := by rw [and_255, hM]
  have e3 : 1 + (M : Int) = (N : Int) := by omega
  have hN0 : 0 < N := by omega
  have hN1 : N ≤ 256 := by omega
  have hTb : T ≤ 255 := by omega
  clear hT hM hN
  go_enter Try.func10, Try.ntmps10
  go_wp2_with fail
  refine (head_any _).mono ?_
  rintro e w1 ⟨rfl, hb1⟩
  have k0 := HW.first w w1 hb1
  have nw := new_any w1
  obtain ⟨g, hg⟩ : ∃ g, g = w1.heap.size := ⟨_, rfl⟩
  rw [← hg] at k0 nw
  generalize w1.alloc (.cells (hc (List.replicate 240 0) 0 0) 68) = w0 at k0 nw
  have K0 := Lib.hid k0
  have NW := Lib.hid nw
  clear k0 nw hg hb1
  go_wp2_with fail
  refine (NW.out).mono ?_
  rintro e w0 ⟨rfl, rfl⟩
  go_wp2_with fail
  go_loopw [8] (fun iv wr => ∃ k : Nat, k ≤ N ∧ iv = .int .i64 k ∧ HW w g (S.empty.addN T k) wr) (fun iv _ => N - (intOf iv).toNat)
  case atStart => exact ⟨0, by omega, rfl, K0.out⟩
  case round =>
    obtain ⟨k, hk, rfl, hM⟩ := hrel
    have ok := Ok.none.addN T k
    by_cases hlt : k < N
    · have A := Lib.hid (add_any g T _ wr hM.b ok)
      have HM := Lib.hid hM
      clear hM ok
      go_wp2_with fail
      refine (A.out).mono ?_
      intro e w2 ha
      have k2 : HW w g (S.empty.addN T (k + 1)) w2 := HM.out.adds ha
      obtain ⟨rfl, -, -⟩ := ha
      have K2 := Lib.hid k2
      clear k2
      go_wp2
      go_roundw
      case rel => exact ⟨k + 1, by omega, by go_num, K2.out⟩
      case measure => simp [intOf]; omega
    · obtain rfl : k = N := by omega
      by_cases hT : T < 240
      · have es := one_bin hT k (by omega)
        rw [es] at hM ok
        have c1 := fun n => cut_any g _ p (wr.drewN n) (hM.drewN n).b ok
        have c2 := fun n => in_any g _ _ _ (wr.drewN n) (hM.drewN n).b ok.len
        have c3 := fun n => bin_in g T _ (wr.drewN n) (hM.drewN n).b ok hT
        rw [cut_one hT hN0] at c1
        simp only at c1 c2 c3
        have hget : (zeros.set T (k : Int)).getD T 0 = k := by rw [List.getD_eq_getElem?_getD, List.getElem?_set_self (by rw [zeros_len]; exact hT)]; rfl
        rw [hget] at c3
        have hd : decide (0 < (k : Int)) = true := by simp; exact hN0
        rw [hd] at c1
        have hT' : ¬ (240 : Int) ≤ (T : Int) := by omega
        have C1 := Lib.hid c1
        have C2 := Lib.hid c2
        have C3 := Lib.hid c3
        have HM := Lib.hid hM
        clear c1 c2 c3 hM ok es hd hget
        go_wp2_with fail
        refine (C1.out 0).mono ?_
        rintro e w' ⟨rfl, n1, rfl⟩
        go_wp2_with (first
          | (go_at_call 23; ((with_reducible refine (C2.out _).mono ?_); rintro e w' ⟨rfl, n2, rfl⟩))
          | (go_at_call 28; ((with_reducible refine (C3.out _).mono ?_); rintro e w' ⟨rfl, n3, rfl⟩)))
        go_ret
        exact Yes.mk (by simp) (HM.out.drewN _).below
      · have es := out_bin (t := T) (by omega) k (by omega)
        rw [es] at hM ok
        have c1 := fun n => cut_any g _ p (wr.drewN n) (hM.drewN n).b ok
        have c2 := fun n => in_any g _ _ _ (wr.drewN n) (hM.drewN n).b ok.len
        have c3 := fun n => over_any g _ _ _ (wr.drewN n) (hM.drewN n).b ok.len
        rw [cut_zero ok p rfl] at c1
        have hT' : (240 : Int) ≤ (T : Int) := by omega
        have c1' : ∀ n, Calls Try.prog 26 #[.pointer (some ⟨g, 0, none⟩), .int .i64 p] (wr.drewN n) (RetC 0 false (wr.drewN n)) := c1
        have C1 := Lib.hid c1'
        have C2 := Lib.hid c2
        have C3 := Lib.hid c3
        have HM := Lib.hid hM
        clear c1 c2 c3 c1' hM ok es
        go_wp2_with fail
        refine (C1.out 0).mono ?_
        rintro e w' ⟨rfl, n1, rfl⟩
        go_wp2_with (first
          | (go_at_call 23; ((with_reducible refine (C2.out _).mono ?_); rintro e w' ⟨rfl, n2, rfl⟩))
          | (go_at_call 24; ((with_reducible refine (C3.out _).mono ?_); rintro e w' ⟨rfl, n3, rfl⟩)))
        go_ret
        exact Yes.mk (by simp) (HM.out.drewN _).below

end Go.Proofs.Ytfdmkfoiooibiaa.Histo
