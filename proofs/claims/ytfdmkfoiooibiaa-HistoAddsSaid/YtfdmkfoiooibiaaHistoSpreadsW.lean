/- Proved: the walk of the law HistoSpreads: it answers true, for all numbers. -/
import Derived.Test.YtfdmkfoiooibiaaHistoOnesW
namespace Go.Proofs.Ytfdmkfoiooibiaa.Histo
open Go.RowKit

theorem sq_zero (l : List Int) (h : ∀ i, l.getD i 0 = 0) : ∀ k, sq l k = 0
  | 0 => rfl
  | k + 1 => by simp only [sq, sq_zero l h k, h k]; omega
theorem sq_one {t : Nat} (ht : t < 240) (x : Int) : ∀ k, sq (zeros.set t x) k = if t < k then x * x else 0
  | 0 => by simp [sq]
  | k + 1 => by
    have hg : (zeros.set t x).getD k 0 = if t = k then x else 0 := by
      rw [List.getD_eq_getElem?_getD, List.getElem?_set]
      split
      · rw [if_pos (by rw [zeros_len]; omega)]; rfl
      · rw [← List.getD_eq_getElem?_getD]; exact zeros_get k
    simp only [sq, sq_one ht x k, hg]
    by_cases h1 : t < k
    · rw [if_pos h1, if_neg (by omega), if_pos (by omega)]; omega
    · by_cases h2 : t = k
      · rw [if_neg h1, if_pos h2, if_pos (by omega)]; omega
      · rw [if_neg h1, if_neg h2, if_neg (by omega)]; omega
theorem spread_one {t n : Nat} (ht : t < 240) (hn : 0 < n) : (S.mk (zeros.set t n) n 0).spread = true := by
  unfold S.spread
  simp only [sq_one ht, if_pos ht]
  have h1 : 5 * (n : Int) * n ≤ 240 * ((n : Int) * n) := by
    rw [Int.mul_assoc]; exact Int.mul_le_mul_of_nonneg_right (by omega) (Int.mul_nonneg (by omega) (by omega))
  simp [h1, hn]

/-- Each bin e times, the first b once more. -/
def S2 (e b : Nat) : S := ⟨(List.range 240).map fun i => (e : Int) + if i < b then 1 else 0, e * 240 + b, 0⟩
theorem S.ext_ {s t : S} (h1 : s.bs = t.bs) (h2 : s.a = t.a) (h3 : s.o = t.o) : s = t := by
  cases s; cases t; simp only at h1 h2 h3; subst h1 h2 h3; rfl
theorem S2_len (e b : Nat) : (S2 e b).bs.length = 240 := by simp [S2]
theorem S2_0 : S2 0 0 = S.empty := S.ext_ (by decide +kernel) (by simp [S2, S.empty]) rfl
theorem S2_up (e : Nat) : S2 e 240 = S2 (e + 1) 0 := by
  refine S.ext_ ?_ ?_ rfl
  · unfold S2
    simp only
    apply List.map_congr_left
    intro i hi
    rw [List.mem_range] at hi
    rw [if_pos hi, if_neg (by omega)]
    omega
  · show (e : Int) * 240 + ((240 : Nat) : Int) = ((e + 1 : Nat) : Int) * 240 + ((0 : Nat) : Int)
    omega
theorem S2_get (e b i : Nat) (hi : i < 240) : (S2 e b).bs.getD i 0 = (e : Int) + if i < b then 1 else 0 := by
  unfold S2
  rw [List.getD_eq_getElem?_getD, List.getElem?_map, List.getElem?_range hi]; rfl
theorem S2_next (e b : Nat) (hb : b < 240) (he : e < 8) : (S2 e b).add b = S2 e (b + 1) := by
  have hr : (S2 e b).raw b = S2 e (b + 1) := by
    unfold S.raw
    rw [if_pos (by omega)]
    have hs : (S2 e b).bs.set b ((S2 e b).bs.getD b 0 + 1) = (S2 e (b + 1)).bs := by
      apply List.ext_getElem?
      intro i
      rw [List.getElem?_set]
      split
      · next h =>
        subst h
        rw [if_pos (by rw [S2_len]; exact hb), S2_get e b b hb, if_neg (by omega)]
        show _ = ((List.range 240).map fun i : Nat => (e : Int) + if i < b + 1 then 1 else 0)[b]?
        rw [List.getElem?_map, List.getElem?_range hb]
        simp only [Option.map_some]
        rw [if_pos (by omega)]
        congr 1
      · next h =>
        show ((List.range 240).map fun i : Nat => (e : Int) + if i < b then 1 else 0)[i]? = ((List.range 240).map fun i : Nat => (e : Int) + if i < b + 1 then 1 else 0)[i]?
        rw [List.getElem?_map, List.getElem?_map]
        by_cases hi : i < 240
        · simp only [List.getElem?_range hi, Option.map_some]
          by_cases h2 : i < b
          · rw [if_pos h2, if_pos (by omega)]
          · rw [if_neg h2, if_neg (by omega)]
        · rw [List.getElem?_eq_none (by simpa using hi)]; rfl
    refine S.ext_ ?_ ?_ rfl
    · simp only [Int.toNat_natCast]; exact hs
    · show (e : Int) * 240 + (b : Int) + 1 = (e : Int) * 240 + ((b + 1 : Nat) : Int)
      omega
  unfold S.add
  rw [if_neg (by omega), hr]
  have : (S2 e (b + 1)).a + (S2 e (b + 1)).o < 4096 := by
    show (e : Int) * 240 + ((b + 1 : Nat) : Int) + 0 < 4096
    omega
  rw [if_neg (by omega)]
theorem S2_row (e : Nat) (he : e < 8) (h : Ok (S2 e 0)) : ∀ b, b ≤ 240 → Ok (S2 e b)
  | 0, _ => h
  | b + 1, hb => by rw [← S2_next e b (by omega) he]; exact (S2_row e he h b (by omega)).add _
theorem S2_ok0 : ∀ e, e ≤ 8 → Ok (S2 e 0)
  | 0, _ => by rw [S2_0]; exact Ok.none
  | e + 1, he => by rw [← S2_up]; exact S2_row e (by omega) (S2_ok0 e (by omega)) 240 (Nat.le_refl _)
theorem S2_sq (e : Nat) : ∀ k, k ≤ 240 → sq (S2 e 0).bs k = k * ((e : Int) * e)
  | 0, _ => by simp [sq]
  | k + 1, h => by
    simp only [sq, S2_sq e k (by omega), S2_get e 0 k (by omega)]
    rw [if_neg (by omega)]
    grind
theorem S2_spread (e : Nat) (he : 0 < e) : (S2 e 0).spread = false := by
  unfold S.spread
  rw [S2_sq e 240 (by omega)]
  have h0 : (0 : Int) < (e : Int) * e := Int.mul_pos (by omega) (by omega)
  have h1 : 5 * (S2 e 0).a * (S2 e 0).a = 288000 * ((e : Int) * e) := by unfold S2; simp only; grind
  rw [h1]
  have h2 : ¬ 288000 * ((e : Int) * e) ≤ 240 * (((240 : Nat) : Int) * ((e : Int) * e)) := by omega
  rw [decide_eq_false h2, Bool.and_false]

theorem spread_empty : S.empty.spread = false := rfl

set_option maxRecDepth 100000 in
set_option maxHeartbeats 8000000 in
theorem spreads_walk (t0 n0 c0 : Int) (w : World) : Calls Try.prog 9 #[.int .i64 t0, .int .i64 n0, .int .i64 c0] w (Yes w) := by
  obtain ⟨T, hT⟩ : ∃ T : Nat, (T : Int) = t0 % 128 := ⟨(t0 % 128).toNat, by omega⟩
  obtain ⟨M, hM⟩ : ∃ M : Nat, (M : Int) = n0 % 64 := ⟨(n0 % 64).toNat, by omega⟩
  obtain ⟨C, hC⟩ : ∃ C : Nat, (C : Int) = c0 % 8 := ⟨(c0 % 8).toNat, by omega⟩
  obtain ⟨N, hN⟩ : ∃ N : Nat, N = 1 + M := ⟨_, rfl⟩
  obtain ⟨E, hE⟩ : ∃ E : Nat, E = 1 + C := ⟨_, rfl⟩
  have e1 : Go.bits .and .i64 t0 127 = (T : Int) := by rw [and_127, hT]
  have e2 : Go.bits .and .i64 n0 63 = (M : Int) := by rw [and_63, hM]
  have e3 : 1 + (M : Int) = (N : Int) := by omega
  have e4 : Go.bits .and .i64 c0 7 = (C : Int) := by rw [and_7, hC]
  have e5 : 1 + (C : Int) = (E : Int) := by omega
  have hN0 : 0 < N := by omega
  have hN1 : N ≤ 64 := by omega
  have hTb : T < 240 := by omega
  have hE0 : 0 < E := by omega
  have hE1 : E ≤ 8 := by omega
  clear hT hM hN hC hE
  go_enter Try.func9, Try.ntmps9
  go_wp2_with fail
  refine (head_any _).mono ?_
  rintro e w1 ⟨rfl, hb1⟩
  have k0 := HW.first w w1 hb1
  have nw := new_any w1
  obtain ⟨g, hg⟩ : ∃ g, g = w1.heap.size := ⟨_, rfl⟩
  rw [← hg] at k0 nw
  generalize w1.alloc (.cells (hc (List.replicate 240 0) 0 0) 68) = w0 at k0 nw
  have K0 := Lib.hid k0
  have NW := Lib.hid nw
  clear k0 nw hg hb1
  go_wp2_with fail
  refine (NW.out).mono ?_
  rintro e w0 ⟨rfl, rfl⟩
  go_wp2_with fail
  go_loopw [8] (fun iv wr => ∃ k : Nat, k ≤ N ∧ iv = .int .i64 k ∧ HW w g (S.empty.addN T k) wr) (fun iv _ => N - (intOf iv).toNat)
  case atStart => exact ⟨0, by omega, rfl, K0.out⟩
  case round =>
    obtain ⟨k, hk, rfl, hM⟩ := hrel
    have ok := Ok.none.addN T k
    by_cases hlt : k < N
    · have A := Lib.hid (add_any g T _ wr hM.b ok)
      have HM := Lib.hid hM
      clear hM ok
      go_wp2_with fail
      refine (A.out).mono ?_
      intro e w2 ha
      have k2 : HW w g (S.empty.addN T (k + 1)) w2 := HM.out.adds ha
      obtain ⟨rfl, -, -⟩ := ha
      have K2 := Lib.hid k2
      clear k2
      go_wp2
      go_roundw
      case rel => exact ⟨k + 1, by omega, by go_num, K2.out⟩
      case measure => simp [intOf]; omega
    · obtain rfl : k = N := by omega
      have es := one_bin hTb k (by omega)
      rw [es] at hM ok
      have hsp := spread_one hTb hN0
      obtain ⟨s1, hs1⟩ : ∃ s1, s1 = S.mk (zeros.set T (k : Int)) k 0 := ⟨_, rfl⟩
      rw [← hs1] at hM ok hsp
      obtain ⟨w3, hw3⟩ : ∃ w3, w3 = wr := ⟨_, rfl⟩
      rw [← hw3] at hM ⊢
      have q0 := HW.first w w3 hM.below
      have nw2 := new_any w3
      have hglt := hM.b.lt
      have hM0 : HW w g s1 (w3.alloc (.cells (hc (List.replicate 240 0) 0 0) 68)) := ⟨hM.b.alloc _, q0.below, hM.new⟩
      obtain ⟨g2, hg2⟩ : ∃ g2, g2 = w3.heap.size := ⟨_, rfl⟩
      rw [← hg2] at q0 nw2 hglt
      generalize w3.alloc (.cells (hc (List.replicate 240 0) 0 0) 68) = w4 at q0 nw2 hM0
      rw [← S2_0] at q0
      have Q0 := Lib.hid q0
      have HM0 := Lib.hid hM0
      have NW2 := Lib.hid nw2
      have OK1 := Lib.hid ok
      have SP1 := Lib.hid hsp
      clear q0 hM0 nw2 hM ok hsp hs1 es hg2 hw3 hlt hk
      go_wp2_with fail
      refine (NW2.out).mono ?_
      rintro e w4 ⟨rfl, rfl⟩
      go_wp2_with fail
      go_loopw [10] (fun iv wr => ∃ e : Nat, e ≤ E ∧ iv = .int .i64 e ∧ HW w g2 (S2 e 0) wr ∧ HW w g s1 wr) (fun iv _ => E - (intOf iv).toNat)
      case atStart => exact ⟨0, by omega, rfl, Q0.out, HM0.out⟩
      case round =>
        obtain ⟨e, he, rfl, hA, hB⟩ := hrel
        by_cases hle : e < E
        · obtain ⟨wo, hwo⟩ : ∃ wo : World, wo = wr := ⟨_, rfl⟩
          rw [← hwo] at hA hB ⊢
          have HA := Lib.hid hA
          have HB := Lib.hid hB
          clear hA hB hwo
          go_wp2_with fail
          go_loopw [11] (fun iv wr => ∃ b : Nat, b ≤ 240 ∧ iv = .int .i64 b ∧ HW w g2 (S2 e b) wr ∧ HW w g s1 wr) (fun iv _ => 240 - (intOf iv).toNat)
          case atStart => exact ⟨0, by omega, rfl, HA.out, HB.out⟩
          case round =>
            obtain ⟨b, hb, rfl, hA, hB⟩ := hrel
            by_cases hlb : b < 240
            · have okb := S2_row e (by omega) (S2_ok0 e (by omega)) b hb
              have A := Lib.hid (add_any g2 b _ wr hA.b okb)
              have HA := Lib.hid hA
              have HB := Lib.hid hB
              clear hA hB okb
              go_wp2_with fail
              refine (A.out).mono ?_
              intro e' w5 ha
              have kA := HA.out.adds ha
              have kB := HB.out.other HA.out ha (by omega)
              rw [S2_next e b hlb (by omega)] at kA
              obtain ⟨rfl, -, -⟩ := ha
              have KA := Lib.hid kA
              have KB := Lib.hid kB
              clear kA kB
              go_wp2
              go_roundw
              case rel => exact ⟨b + 1, by omega, by go_num, KA.out, KB.out⟩
              case measure => simp [intOf]; omega
            · obtain rfl : b = 240 := by omega
              rw [S2_up] at hA
              have HA := Lib.hid hA
              have HB := Lib.hid hB
              clear hA hB hlb hb
              go_wp2
              go_roundw
              case rel => exact ⟨e + 1, by omega, by go_num, HA.out, HB.out⟩
              case measure => simp [intOf]; omega
        · obtain rfl : e = E := by omega
          have okE := S2_ok0 e (by omega)
          obtain ⟨w6, hw6⟩ : ∃ w6 : World, w6 = wr := ⟨_, rfl⟩
          rw [← hw6] at hA hB ⊢
          have c1 := fun n => spread_any g s1 (w6.drewN n) (hB.drewN n).b OK1.out
          have c2 := fun n => spread_any g2 _ (w6.drewN n) (hA.drewN n).b okE
          rw [SP1.out] at c1
          rw [S2_spread e hE0] at c2
          have nw3 := fun n => new_any (w6.drewN n)
          have c3 := fun n m => spread_any (w6.drewN n).heap.size S.empty (((w6.drewN n).alloc (.cells (hc (List.replicate 240 0) 0 0) 68)).drewN m) (Blk.new (w6.drewN n) 68 _) Ok.none
          rw [spread_empty] at c3
          have hbl : ∀ n m, Below w.heap.size w (((w6.drewN n).alloc (.cells (hc (List.replicate 240 0) 0 0) 68)).drewN m) := fun n m =>
            ((HW.first w (w6.drewN n) (hB.drewN n).below).drewN m).below
          have C1 := Lib.hid c1
          have C2 := Lib.hid c2
          have C3 := Lib.hid c3
          have NW3 := Lib.hid nw3
          have HBL := Lib.hid hbl
          clear c1 c2 c3 nw3 hbl hA hB okE hw6 hle he
          go_wp2_with fail
          refine (C1.out 0).mono ?_
          rintro e w' ⟨rfl, n1, rfl⟩
          go_wp2_with fail
          refine (C2.out _).mono ?_
          rintro e w' ⟨rfl, n2, rfl⟩
          go_wp2_with fail
          refine (NW3.out _).mono ?_
          rintro e w' ⟨rfl, rfl⟩
          go_wp2_with fail
          refine (C3.out _ 0).mono ?_
          rintro e w' ⟨rfl, n3, rfl⟩
          go_wp2
          go_ret
          exact Yes.mk rfl (HBL.out _ _)

end Go.Proofs.Ytfdmkfoiooibiaa.Histo
