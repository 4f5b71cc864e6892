/- Proved: the walk of the law PolicySteady: it answers true, for all numbers. -/
import Derived.Test.YtopbhdpfakjkjaaPolicyHead
namespace Go.Proofs.Ytopbhdpfakjkjaa.Policy
open Go.RowKit Go.Proofs.Ytopbhdpfakjkjaa.Histo Go.Proofs.Ytopbhdpfakjkjaa.Ring Go.Proofs.Ytopbhdpfakjkjaa.Cast

theorem last8_rep (n : Nat) (t : Int) : last8 (List.replicate n t) = List.replicate (min n 8) t := by
  unfold last8
  rw [List.drop_replicate, List.length_replicate]
  congr 1
  omega
theorem rd_rep {m : Nat} {t : Int} {i : Nat} (h : i < m) : rd (List.replicate m t) i = t := by
  unfold rd
  rw [List.getD_eq_getElem?_getD, List.getElem?_replicate, if_pos h]; rfl
theorem Y_rep (m : Nat) (t : Int) : ∀ i, i ≤ m → Y (List.replicate m t) i = i * cl t
  | 0, _ => by simp [Y]
  | i + 1, h => by simp only [Y]; rw [Y_rep m t i (by omega), rd_rep (by omega)]; grind
theorem XY_rep (m : Nat) (t : Int) : ∀ i, i ≤ m → XY (List.replicate m t) i = X i * cl t
  | 0, _ => by simp [XY, X]
  | i + 1, h => by simp only [XY, X]; rw [XY_rep m t i (by omega), rd_rep (by omega)]; grind
theorem nx_rep (m : Nat) (t : Int) (h1 : 1 ≤ m) (h8 : m ≤ 8) : nx (List.replicate m t) = cl t := by
  unfold nx
  rw [List.length_replicate, Y_rep m t m (Nat.le_refl _), XY_rep m t m (Nat.le_refl _)]
  have h0 := cl_lo t
  have h2 := cl_hi t
  generalize cl t = c at *
  have hc : m = 1 ∨ m = 2 ∨ m = 3 ∨ m = 4 ∨ m = 5 ∨ m = 6 ∨ m = 7 ∨ m = 8 := by omega
  rcases hc with rfl | rfl | rfl | rfl | rfl | rfl | rfl | rfl <;> unfold G <;> simp [X] <;> omega
theorem and_u24 (n : Int) : Go.bits .and .i64 n 16777215 = n % 16777216 := by rw [i64_mask n 16777215 24 (by decide), IntKind.wrap_i64]; omega

/-- The window of n idle times alike. -/
theorem win_few_n (t n : Nat) (hn : n < 4) (ts : List Int) : win (S.empty.addN t n) ts = wfix := by
  apply win_few
  by_cases h : t < 240
  · rw [one_bin h n (by omega)]; simp only; omega
  · rw [out_bin (by omega) n (by omega)]; simp only; omega
theorem win_near (t n : Nat) (hn : 4 ≤ n) (hn1 : n < 4000) (ht : t < 240) (ts : List Int) : win (S.empty.addN t n) ts = whist t t := by
  rw [one_bin ht n (by omega)]
  have c5 := cut_one ht (n := n) (by omega) 5
  have c99 := cut_one ht (n := n) (by omega) 99
  have sp := spread_one ht (n := n) (by omega)
  unfold win
  rw [sp, c5, c99]
  simp only
  rw [if_neg (by omega), if_neg (by omega)]
  rfl
theorem win_far (t n : Nat) (hn : 4 ≤ n) (hn1 : n < 4000) (ht : 240 ≤ t) : win (S.empty.addN t n) (List.replicate n (t : Int)) = wcast (cl t) := by
  rw [out_bin (by omega) n (by omega)]
  unfold win
  simp only
  rw [if_neg (by omega), if_pos (by omega), last8_rep, nx_rep _ _ (by omega) (by omega)]

set_option maxRecDepth 100000 in
set_option maxHeartbeats 8000000 in
theorem steady_walk (t0 n0 : Int) (w : World) : Calls Try.prog 4 #[.int .i64 t0, .int .i64 n0] w (Yes w) := by
  obtain ⟨T, hT⟩ : ∃ T : Nat, (T : Int) = t0 % 16777216 := ⟨(t0 % 16777216).toNat, by omega⟩
  obtain ⟨N, hN⟩ : ∃ N : Nat, (N : Int) = n0 % 64 := ⟨(n0 % 64).toNat, by omega⟩
  have e1 : Go.bits .and .i64 t0 16777215 = (T : Int) := by rw [and_u24, hT]
  have e2 : Go.bits .and .i64 n0 63 = (N : Int) := by rw [and_63, hN]
  have hTb : T ≤ 16777215 := by omega
  have hNb : N ≤ 63 := by omega
  clear hT hN
  go_enter Try.func4, Try.ntmps4
  go_wp2_with fail
  refine (head_any _).mono ?_
  rintro e w0 ⟨rfl, hb⟩
  have st := PW.start hb
  have n1 := Histo.new_any w0
  generalize hw1 : w0.alloc (.cells (hc (List.replicate 240 0) 0 0) 62) = w1 at st n1
  have n2 := Ring.new_any w1
  generalize hw2 : w1.alloc (.cells (rc (List.replicate 8 0) 0) 65) = w2 at st n2
  obtain ⟨g, hg⟩ : ∃ g, g = w0.heap.size := ⟨_, rfl⟩
  obtain ⟨k, hk⟩ : ∃ g, g = w1.heap.size := ⟨_, rfl⟩
  have st' : PW w g k S.empty [] w2 := by rw [hg, hk]; exact st
  rw [← hg] at n1
  rw [← hk] at n2
  have ST := Lib.hid st'
  have N1 := Lib.hid n1
  have N2 := Lib.hid n2
  clear st st' n1 n2 hw1 hw2 hg hk hb
  go_wp2_with fail
  refine (N1.out).mono ?_
  rintro e w' ⟨rfl, rfl⟩
  go_wp2_with fail
  refine (N2.out).mono ?_
  rintro e w' ⟨rfl, rfl⟩
  go_wp2_with fail
  go_loopw [7] (fun iv wr => ∃ j : Nat, j ≤ N ∧ iv = .int .i64 j ∧ PW w g k (S.empty.addN T j) (List.replicate j (T : Int)) wr) (fun iv _ => N - (intOf iv).toNat)
  case atStart => exact ⟨0, by omega, rfl, ST.out⟩
  case round =>
    obtain ⟨j, hj, rfl, hM⟩ := hrel
    by_cases hlt : j < N
    · have A := Lib.hid (add_any g T _ wr hM.b hM.ok)
      have HM := Lib.hid hM
      clear hM
      go_wp2_with fail
      refine (A.out).mono ?_
      intro e w2 ha
      have h2 := HM.out.add ha
      obtain ⟨rfl, -, -⟩ := ha
      have B := Lib.hid (push_any k _ T w2 h2.rg)
      have HM2 := Lib.hid h2
      clear h2
      go_wp2_with fail
      refine (B.out).mono ?_
      intro e w3 hb
      have h3 : PW w g k (S.empty.addN T (j + 1)) (List.replicate (j + 1) (T : Int)) w3 := by
        rw [List.replicate_succ']
        exact HM2.out.push hb
      obtain ⟨rfl, -, -⟩ := hb
      have HM3 := Lib.hid h3
      clear h3
      go_wp2
      go_roundw
      case rel => exact ⟨j + 1, by omega, by go_num, HM3.out⟩
      case measure => simp [intOf]; omega
    · obtain rfl : N = j := by omega
      have A := of_any g k _ _ wr hM.b hM.ok hM.rg
      have HM := Lib.hid hM
      clear hM
      by_cases h4 : N < 4
      · rw [win_few_n T N h4] at A
        have HA := Lib.hid A
        clear A
        go_wp2_with fail
        refine (HA.out).mono ?_
        intro e w2 ha
        have h2 := Lib.hid (HM.out.next ha.2)
        obtain ⟨rfl, -⟩ := ha
        unfold Win.val wfix
        simp only
        go_wp2
        go_ret
        exact Yes.mk rfl (h2.out.below.alloc h2.out.below.size _)
      · by_cases hn : T < 240
        · rw [win_near T N (by omega) (by omega) hn] at A
          have HA := Lib.hid A
          clear A
          go_wp2_with fail
          refine (HA.out).mono ?_
          intro e w2 ha
          have h2 := Lib.hid (HM.out.next ha.2)
          obtain ⟨rfl, -⟩ := ha
          unfold Win.val whist
          simp only
          obtain ⟨p, hp⟩ : ∃ p, p = (T : Int) * 9 / 10 := ⟨_, rfl⟩
          obtain ⟨q, hq⟩ : ∃ p, p = ((T : Int) * 11 + 20) / 10 := ⟨_, rfl⟩
          rw [← hp, ← hq]
          have p1 : p ≤ (T : Int) := by omega
          have q1 : (T : Int) < q := by omega
          clear hp hq
          go_wp2
          go_ret
          exact Yes.mk rfl (h2.out.below.alloc h2.out.below.size _)
        · rw [win_far T N (by omega) (by omega) (by omega), cl_in (by omega) (by omega)] at A
          have HA := Lib.hid A
          clear A
          go_wp2_with fail
          refine (HA.out).mono ?_
          intro e w2 ha
          have h2 := Lib.hid (HM.out.next ha.2)
          obtain ⟨rfl, -⟩ := ha
          unfold Win.val wcast
          simp only
          obtain ⟨p, hp⟩ : ∃ p, p = (T : Int) * 85 / 100 := ⟨_, rfl⟩
          obtain ⟨q, hq⟩ : ∃ q, q = max (((T : Int) * 115 + 99) / 100) (p + 1) := ⟨_, rfl⟩
          rw [← hp, ← hq]
          have p1 : p ≤ (T : Int) := by omega
          have q1 : (T : Int) ≤ q := by omega
          clear hp hq
          go_wp2
          go_ret
          exact Yes.mk rfl (h2.out.below.alloc h2.out.below.size _)
end Go.Proofs.Ytopbhdpfakjkjaa.Policy
