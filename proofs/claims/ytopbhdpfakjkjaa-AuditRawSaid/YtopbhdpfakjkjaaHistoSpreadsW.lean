/- Proved: the walk of the law HistoSpreads: it answers true, for all numbers. -/
import Derived.Test.YtopbhdpfakjkjaaHistoOnesW
namespace Go.Proofs.Ytopbhdpfakjkjaa.Histo
open Go.RowKit
set_option linter.unusedVariables false

theorem sq_zero (l : List Int) (h : ∀ i, l.getD i 0 = 0) : ∀ k, sq l k = 0
  | 0 => rfl
  | k + 1 => by simp only [sq, sq_zero l h k, h k]; omega
theorem sq_one {t : Nat} (ht : t < 240) (x : Int) : ∀ k, sq (zeros.set t x) k = if t < k then x * x else 0
  | 0 => by simp [sq]
  | k + 1 => by
    have hg : (zeros.set t x).getD k 0 = if t = k then x else 0 := by
      rw [List.getD_eq_getElem?_getD, List.getElem?_set]
      split
      · rw [if_pos (by rw [zeros_len]; omega)]; rfl
      · rw [← List.getD_eq_getElem?_getD]; exact zeros_get k
    simp only [sq, sq_one ht x k, hg]
    by_cases h1 : t < k
    · rw [if_pos h1, if_neg (by omega), if_pos (by omega)]; omega
    · by_cases h2 : t = k
      · rw [if_neg h1, if_pos h2, if_pos (by omega)]; omega
      · rw [if_neg h1, if_neg h2, if_neg (by omega)]; omega
theorem spread_one {t n : Nat} (ht : t < 240) (hn : 0 < n) : (S.mk (zeros.set t n) n 0).spread = true := by
  unfold S.spread
  simp only [sq_one ht, if_pos ht]
  have h1 : 5 * (n : Int) * n ≤ 240 * ((n : Int) * n) := by
    rw [Int.mul_assoc]; exact Int.mul_le_mul_of_nonneg_right (by omega) (Int.mul_nonneg (by omega) (by omega))
  simp [h1, hn]

/-- Each bin e times, the first b once more. -/
def S2 (e b : Nat) : S := ⟨(List.range 240).map fun i => (e : Int) + if i < b then 1 else 0, e * 240 + b, 0⟩
theorem S.ext_ {s t : S} (h1 : s.bs = t.bs) (h2 : s.a = t.a) (h3 : s.o = t.o) : s = t := by
  cases s; cases t; simp only at h1 h2 h3; subst h1 h2 h3; rfl
theorem S2_len (e b : Nat) : (S2 e b).bs.length = 240 := by simp [S2]
theorem S2_0 : S2 0 0 = S.empty := S.ext_ (by decide +kernel) (by simp [S2, S.empty]) rfl
theorem S2_up (e : Nat) : S2 e 240 = S2 (e + 1) 0 := by
  refine S.ext_ ?_ ?_ rfl
  · unfold S2
    simp only
    apply List.map_congr_left
    intro i hi
    rw [List.mem_range] at hi
    rw [if_pos hi, if_neg (by omega)]
    omega
  · show (e : Int) * 240 + ((240 : Nat) : Int) = ((e + 1 : Nat) : Int) * 240 + ((0 : Nat) : Int)
    omega
theorem S2_get (e b i : Nat) (hi : i < 240) : (S2 e b).bs.getD i 0 = (e : Int) + if i < b then 1 else 0 := by
  unfold S2
  rw [List.getD_eq_getElem?_getD, List.getElem?_map, List.getElem?_range hi]; rfl
theorem S2_next (e b : Nat) (hb : b < 240) (he : e < 8) : (S2 e b).add b = S2 e (b + 1) := by
  have hr : (S2 e b).raw b = S2 e (b + 1) := by
    unfold S.raw
    rw [if_pos (by omega)]
    have hs : (S2 e b).bs.set b ((S2 e b).bs.getD b 0 + 1) = (S2 e (b + 1)).bs := by
      apply List.ext_getElem?
      intro i
      rw [List.getElem?_set]
      split
      · next h =>
        subst h
        rw [if_pos (by rw [S2_len]; exact hb), S2_get e b b hb, if_neg (by omega)]
        show _ = ((List.range 240).map fun i : Nat => (e : Int) + if i < b + 1 then 1 else 0)[b]?
        rw [List.getElem?_map, List.getElem?_range hb]
        simp only [Option.map_some]
        rw [if_pos (by omega)]
        congr 1
      · next h =>
        show ((List.range 240).map fun i : Nat => (e : Int) + if i < b then 1 else 0)[i]? = ((List.range 240).map fun i : Nat => (e : Int) + if i < b + 1 then 1 else 0)[i]?
        rw [List.getElem?_map, List.getElem?_map]
        by_cases hi : i < 240
        · simp only [List.getElem?_range hi, Option.map_some]
          by_cases h2 : i < b
          · rw [if_pos h2, if_pos (by omega)]
          · rw [if_neg h2, if_neg (by omega)]
        · rw [List.getElem?_eq_none (by simpa using hi)]; rfl
    refine S.ext_ ?_ ?_ rfl
    · simp only [Int.toNat_natCast]; exact hs
    · show (e : Int) * 240 + (b : Int) + 1 = (e : Int) * 240 + ((b + 1 : Nat) : Int)
      omega
  unfold S.add
  rw [if_neg (by omega), hr]
  have : (S2 e (b + 1)).a + (S2 e (b + 1)).o < 4096 := by
    show (e : Int) * 240 + ((b + 1 : Nat) : Int) + 0 < 4096
    omega
  rw [if_neg (by omega)]
theorem S2_row (e : Nat) (he : e < 8) (h : Ok (S2 e 0)) : ∀ b, b ≤ 240 → Ok (S2 e b)
  | 0, _ => h
  | b + 1, hb => by rw [← S2_next e b (by omega) he]; exact (S2_row e he h b (by omega)).add _
theorem S2_ok0 : ∀ e, e ≤ 8 → Ok (S2 e 0)
  | 0, _ => by rw [S2_0]; exact Ok.none
  | e + 1, he => by rw [← S2_up]; exact S2_row e (by omega) (S2_ok0 e (by omega)) 240 (Nat.le_refl _)
theorem S2_sq (e : Nat) : ∀ k, k ≤ 240 → sq (S2 e 0).bs k = k * ((e : Int) * e)
  | 0, _ => by simp [sq]
  | k + 1, h => by
    simp only [sq, S2_sq e k (by omega), S2_get e 0 k (by omega)]
    rw [if_neg (by omega)]
    grind
theorem S2_spread (e : Nat) (he : 0 < e) : (S2 e 0).spread = false := by
  unfold S.spread
  rw [S2_sq e 240 (by omega)]
  have h0 : (0 : Int) < (e : Int) * e := Int.mul_pos (by omega) (by omega)
  have h1 : 5 * (S2 e 0).a * (S2 e 0).a = 288000 * ((e : Int) * e) := by unfold S2; simp only; grind
  rw [h1]
  have h2 : ¬ 288000 * ((e : Int) * e) ≤ 240 * (((240 : Nat) : Int) * ((e : Int) * e)) := by omega
  rw [decide_eq_false h2, Bool.and_false]

theorem spread_empty : S.empty.spread = false := rfl

end Go.Proofs.Ytopbhdpfakjkjaa.Histo
