/- Proved: the walk of the law HistoTurns: it answers true, for all slices and places. -/
import Derived.Test.YtopbhdpfakjkjaaHistoCounts
import Derived.BigQuiet
namespace Go.Proofs.Ytopbhdpfakjkjaa.Histo
open Go.RowKit

/-- A sum of f at 0, 1, .., k - 1; the same, begun at r, round and round. -/
def sumTo (f : Nat → Int) : Nat → Int | 0 => 0 | k + 1 => sumTo f k + f k
theorem sumTo_step (f : Nat → Int) (n r : Nat) : ∀ k, sumTo (fun i => f ((i + (r + 1)) % n)) k + f (r % n) = sumTo (fun i => f ((i + r) % n)) (k + 1)
  | 0 => by simp [sumTo]
  | k + 1 => by
    have h := sumTo_step f n r k
    have e1 : sumTo (fun i => f ((i + (r + 1)) % n)) (k + 1) = sumTo (fun i => f ((i + (r + 1)) % n)) k + f ((k + (r + 1)) % n) := rfl
    have e2 : sumTo (fun i => f ((i + r) % n)) (k + 1 + 1) = sumTo (fun i => f ((i + r) % n)) (k + 1) + f ((k + 1 + r) % n) := rfl
    rw [e1, e2, ← h, show k + (r + 1) = k + 1 + r by omega]
    omega
theorem sumTo_turn (f : Nat → Int) (n : Nat) : ∀ r, sumTo (fun i => f ((i + r) % n)) n = sumTo (fun i => f (i % n)) n
  | 0 => rfl
  | r + 1 => by
    have h := sumTo_step f n r n
    have e2 : sumTo (fun i => f ((i + r) % n)) (n + 1) = sumTo (fun i => f ((i + r) % n)) n + f ((n + r) % n) := rfl
    rw [e2, Nat.add_mod_left, sumTo_turn f n r] at h
    omega
theorem sumTo_congr (f g : Nat → Int) : ∀ n, (∀ i, i < n → f i = g i) → sumTo f n = sumTo g n
  | 0, _ => rfl
  | n + 1, h => by simp only [sumTo]; rw [sumTo_congr f g n (fun i hi => h i (by omega)), h n (by omega)]
theorem sumTo_same (f : Nat → Int) (n r : Nat) : sumTo (fun i => f ((i + r) % n)) n = sumTo f n := by
  rw [sumTo_turn]
  exact sumTo_congr _ _ n fun i hi => by rw [Nat.mod_eq_of_lt hi]

theorem raw_over {s : S} (t : Int) : (s.raw t).o = s.o + if 240 ≤ t then 1 else 0 := by
  unfold S.raw
  split
  · rw [if_neg (by omega)]; simp
  · rw [if_pos (by omega)]
theorem st_bins (xs : Nat → Int) (v : Nat) (hv : v < 240) : ∀ k, k ≤ 4000 → (st xs k).bs.getD v 0 = sumTo (fun i => if xs i = v then 1 else 0) k
  | 0, _ => zeros_get v
  | k + 1, h => by
    rw [st_next xs k (by omega)]
    simp only [sumTo]
    rw [← st_bins xs v hv k (by omega)]
    by_cases h0 : xs k < 0
    · rw [if_pos h0, if_neg (by omega)]; omega
    · rw [if_neg h0, raw_get (st_ok xs k) (by omega) v hv]
theorem st_over (xs : Nat → Int) : ∀ k, k ≤ 4000 → (st xs k).o = sumTo (fun i => if 240 ≤ xs i then 1 else 0) k
  | 0, _ => rfl
  | k + 1, h => by
    rw [st_next xs k (by omega)]
    simp only [sumTo]
    rw [← st_over xs k (by omega)]
    by_cases h0 : xs k < 0
    · rw [if_pos h0, if_neg (by omega)]; omega
    · rw [if_neg h0, raw_over]
/-- Turned round, the same idle times leave the same histogram. -/
theorem st_turn (xs : Nat → Int) (r n : Nat) (hn : n ≤ 4000) : st (fun i => xs ((i + r) % n)) n = st xs n := by
  have ok := st_ok xs n
  have ok2 := st_ok (fun i => xs ((i + r) % n)) n
  have hb : (st (fun i => xs ((i + r) % n)) n).bs = (st xs n).bs := by
    apply List.ext_getElem
    · rw [ok.len, ok2.len]
    · intro i h1 h2
      have hi : i < 240 := by rw [ok.len] at h2; exact h2
      have e : (st (fun i => xs ((i + r) % n)) n).bs.getD i 0 = (st xs n).bs.getD i 0 := by
        rw [st_bins _ i hi n hn, st_bins _ i hi n hn]
        exact sumTo_same (fun j => if xs j = i then 1 else 0) n r
      rw [List.getD_eq_getElem?_getD, List.getD_eq_getElem?_getD, List.getElem?_eq_getElem h1, List.getElem?_eq_getElem h2] at e
      exact e
  refine S.ext_ hb (by rw [ok.sum, ok2.sum, hb]) ?_
  rw [st_over _ n hn, st_over _ n hn]
  exact sumTo_same (fun j => if 240 ≤ xs j then 1 else 0) n r

theorem HW.grown {w wr w' : World} {g : Nat} {s : S} (h : HW w g s wr) (a : wr.grownBy w' none) : HW w g s w' :=
  ⟨h.b.grown a (by simp), h.below.grown a h.below.size (fun _ e => by cases e), h.new⟩
theorem add_none (s : S) {t : Int} (h : t < 0) : s.add t = s := by unfold S.add; rw [if_pos h]

end Go.Proofs.Ytopbhdpfakjkjaa.Histo
