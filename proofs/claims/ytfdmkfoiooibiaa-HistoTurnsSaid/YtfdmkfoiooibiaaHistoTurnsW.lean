/- Proved: the walk of the law HistoTurns: it answers true, for all slices and places. -/
import Derived.Test.YtfdmkfoiooibiaaHistoCounts
import Derived.BigQuiet
namespace Go.Proofs.Ytfdmkfoiooibiaa.Histo
open Go.RowKit

/-- A sum of f at 0, 1, .., k - 1; the same, begun at r, round and round. -/
def sumTo (f : Nat → Int) : Nat → Int | 0 => 0 | k + 1 => sumTo f k + f k
theorem sumTo_step (f : Nat → Int) (n r : Nat) : ∀ k, sumTo (fun i => f ((i + (r + 1)) % n)) k + f (r % n) = sumTo (fun i => f ((i + r) % n)) (k + 1)
  | 0 => by simp [sumTo]
  | k + 1 => by
    have h := sumTo_step f n r k
    have e1 : sumTo (fun i => f ((i + (r + 1)) % n)) (k + 1) = sumTo (fun i => f ((i + (r + 1)) % n)) k + f ((k + (r + 1)) % n) := rfl
    have e2 : sumTo (fun i => f ((i + r) % n)) (k + 1 + 1) = sumTo (fun i => f ((i + r) % n)) (k + 1) + f ((k + 1 + r) % n) := rfl
    rw [e1, e2, ← h, show k + (r + 1) = k + 1 + r by omega]
    omega
theorem sumTo_turn (f : Nat → Int) (n : Nat) : ∀ r, sumTo (fun i => f ((i + r) % n)) n = sumTo (fun i => f (i % n)) n
  | 0 => rfl
  | r + 1 => by
    have h := sumTo_step f n r n
    have e2 : sumTo (fun i => f ((i + r) % n)) (n + 1) = sumTo (fun i => f ((i + r) % n)) n + f ((n + r) % n) := rfl
    rw [e2, Nat.add_mod_left, sumTo_turn f n r] at h
    omega
theorem sumTo_congr (f g : Nat → Int) : ∀ n, (∀ i, i < n → f i = g i) → sumTo f n = sumTo g n
  | 0, _ => rfl
  | n + 1, h => by simp only [sumTo]; rw [sumTo_congr f g n (fun i hi => h i (by omega)), h n (by omega)]
theorem sumTo_same (f : Nat → Int) (n r : Nat) : sumTo (fun i => f ((i + r) % n)) n = sumTo f n := by
  rw [sumTo_turn]
  exact sumTo_congr _ _ n fun i hi => by rw [Nat.mod_eq_of_lt hi]

theorem raw_over {s : S} (t : Int) : (s.raw t).o = s.o + if 240 ≤ t then 1 else 0 := by
  unfold S.raw
  split
  · rw [if_neg (by omega)]; simp
  · rw [if_pos (by omega)]
theorem st_bins (xs : Nat → Int) (v : Nat) (hv : v < 240) : ∀ k, k ≤ 4000 → (st xs k).bs.getD v 0 = sumTo (fun i => if xs i = v then 1 else 0) k
  | 0, _ => zeros_get v
  | k + 1, h => by
    rw [st_next xs k (by omega)]
    simp only [sumTo]
    rw [← st_bins xs v hv k (by omega)]
    by_cases h0 : xs k < 0
    · rw [if_pos h0, if_neg (by omega)]; omega
    · rw [if_neg h0, raw_get (st_ok xs k) (by omega) v hv]
theorem st_over (xs : Nat → Int) : ∀ k, k ≤ 4000 → (st xs k).o = sumTo (fun i => if 240 ≤ xs i then 1 else 0) k
  | 0, _ => rfl
  | k + 1, h => by
    rw [st_next xs k (by omega)]
    simp only [sumTo]
    rw [← st_over xs k (by omega)]
    by_cases h0 : xs k < 0
    · rw [if_pos h0, if_neg (by omega)]; omega
    · rw [if_neg h0, raw_over]
/-- Turned round, the same idle times leave the same histogram. -/
theorem st_turn (xs : Nat → Int) (r n : Nat) (hn : n ≤ 4000) : st (fun i => xs ((i + r) % n)) n = st xs n := by
  have ok := st_ok xs n
  have ok2 := st_ok (fun i => xs ((i + r) % n)) n
  have hb : (st (fun i => xs ((i + r) % n)) n).bs = (st xs n).bs := by
    apply List.ext_getElem
    · rw [ok.len, ok2.len]
    · intro i h1 h2
      have hi : i < 240 := by rw [ok.len] at h2; exact h2
      have e : (st (fun i => xs ((i + r) % n)) n).bs.getD i 0 = (st xs n).bs.getD i 0 := by
        rw [st_bins _ i hi n hn, st_bins _ i hi n hn]
        exact sumTo_same (fun j => if xs j = i then 1 else 0) n r
      rw [List.getD_eq_getElem?_getD, List.getD_eq_getElem?_getD, List.getElem?_eq_getElem h1, List.getElem?_eq_getElem h2] at e
      exact e
  refine S.ext_ hb (by rw [ok.sum, ok2.sum, hb]) ?_
  rw [st_over _ n hn, st_over _ n hn]
  exact sumTo_same (fun j => if 240 ≤ xs j then 1 else 0) n r

theorem HW.grown {w wr w' : World} {g : Nat} {s : S} (h : HW w g s wr) (a : wr.grownBy w' none) : HW w g s w' :=
  ⟨h.b.grown a (by simp), h.below.grown a h.below.size (fun _ e => by cases e), h.new⟩
theorem add_none (s : S) {t : Int} (h : t < 0) : s.add t = s := by unfold S.add; rw [if_pos h]

set_option maxRecDepth 100000 in
set_option maxHeartbeats 8000000 in
theorem turns_few (a : Option Addr) (len cap : Nat) (xs : Nat → Int) (p : Int) (w : World) (hl : len ≤ 200) (h : Elems w a len xs) : Calls Try.prog 7 #[.slice a len cap, .int .i64 p] w (Yes w) := by
  obtain ⟨r, hr⟩ : ∃ r : Nat, (r : Int) = p % 65536 := ⟨(p % 65536).toNat, by omega⟩
  have er : Go.bits .and .i64 p 65535 = (r : Int) := by rw [and_u16, hr]
  have hr' : r ≤ 65535 := by omega
  have hll : ¬ 200 < (len : Int) := by omega
  obtain ⟨ys, hys⟩ : ∃ ys : Nat → Int, ys = fun i => xs ((i + r) % len) := ⟨_, rfl⟩
  have ht := st_turn xs r len (by omega)
  rw [← hys] at ht
  have HT := Lib.hid ht
  have HY := Lib.hid hys
  have HE := Lib.hid h
  clear h hr ht hys
  go_enter Try.func7, Try.ntmps7
  go_wp2_with fail
  refine (head_any _).mono ?_
  rintro e w1 ⟨rfl, hb1⟩
  have k0 := HW.first w w1 hb1
  have nw := new_any w1
  obtain ⟨g, hg⟩ : ∃ g, g = w1.heap.size := ⟨_, rfl⟩
  rw [← hg] at k0 nw
  generalize w1.alloc (.cells (hc (List.replicate 240 0) 0 0) 68) = w0 at k0 nw
  have q0 := HW.first w w0 k0.below
  have nw2 := new_any w0
  have hlt := k0.b.lt
  have k0 : HW w g S.empty (w0.alloc (.cells (hc (List.replicate 240 0) 0 0) 68)) := ⟨k0.b.alloc _, q0.below, k0.new⟩
  obtain ⟨g2, hg2⟩ : ∃ g, g = w0.heap.size := ⟨_, rfl⟩
  rw [← hg2] at q0 nw2 hlt
  generalize w0.alloc (.cells (hc (List.replicate 240 0) 0 0) 68) = w2 at q0 nw2 k0
  have hne : g ≠ g2 := by omega
  have K0 := Lib.hid k0
  have Q0 := Lib.hid q0
  have NW := Lib.hid nw
  have NW2 := Lib.hid nw2
  have HNE := Lib.hid hne
  clear k0 nw hg hb1 q0 nw2 hlt hg2 hne
  go_wp2_with fail
  refine (NW.out).mono ?_
  rintro e w0 ⟨rfl, rfl⟩
  go_wp2_with fail
  refine (NW2.out).mono ?_
  rintro e w2 ⟨rfl, rfl⟩
  go_wp2_with fail
  go_loopw [23] (fun iv wr => ∃ k : Nat, k ≤ len ∧ iv = .int .i64 k ∧ HW w g (st xs k) wr ∧ HW w g2 (st ys k) wr) (fun iv _ => len - (intOf iv).toNat)
  case atStart => exact ⟨0, by omega, rfl, K0.out, Q0.out⟩
  case round =>
    obtain ⟨k, hk, rfl, hM, hM2⟩ := hrel
    by_cases hlt : k < len
    · obtain ⟨b, off, rfl, hb, hc⟩ := HE.out k hlt
      obtain ⟨j, hj⟩ : ∃ j, j = (k + r) % len := ⟨_, rfl⟩
      have hjn : j < len := by rw [hj]; exact Nat.mod_lt _ (by omega)
      have c1 : wr.cell? ⟨b, off + k, none⟩ = some (.int .i64 (xs k)) := by rw [hM.below.cell (p := ⟨b, off + k, none⟩) hb]; exact hc k hlt
      have yj : ys k = xs j := by rw [HY.out, hj]
      have A := Lib.hid (add_any g (xs k) _ wr hM.b (st_ok xs k))
      obtain ⟨v, hv⟩ : ∃ v, v = xs k := ⟨_, rfl⟩
      obtain ⟨u, hu⟩ : ∃ v, v = xs j := ⟨_, rfl⟩
      obtain ⟨v2, hv2⟩ : ∃ v2, v2 = v % 256 := ⟨_, rfl⟩
      have a1 : Go.bits .and .i64 v 255 = v2 := by rw [and_255, hv2]
      have b1 : 0 ≤ v2 := by omega
      have b2 : v2 ≤ 255 := by omega
      rw [← hv] at A c1
      have ej : ((k : Int) + (r : Int)) % (len : Int) = (j : Int) := by rw [hj]; simp
      have ej2 : ((k : Int) + (r : Int)).tmod (len : Int) = (j : Int) := by rw [Int.tmod_eq_emod_of_nonneg (by omega)]; exact ej
      have hn0 : ¬ (len : Int) = 0 := by omega
      have hn1 : ¬ len = 0 := by omega
      have HC := Lib.hid (hc j hjn)
      have HU := Lib.hid hu
      have YJ := Lib.hid yj
      have HV := Lib.hid hv
      have HM := Lib.hid hM
      have HM2 := Lib.hid hM2
      have HBL := Lib.hid hb
      clear hM hM2 hv hb hc hj yj hu hv2
      go_wp2_with fail
      refine (A.out).mono ?_
      intro e w2 ha
      rw [HV.out] at ha
      have k2 : HW w g (st xs (k + 1)) w2 := HM.out.adds ha
      have q2 := HM2.out.other HM.out ha (fun h => HNE.out h.symm)
      obtain ⟨rfl, -, -⟩ := ha
      have c2 : w2.cell? ⟨b, off + j, none⟩ = some (.int .i64 u) := by rw [k2.below.cell (p := ⟨b, off + j, none⟩) HBL.out, HU.out]; exact HC.out
      have c3 : w2.cell? ⟨b, off + k, none⟩ = some (.int .i64 v) := by rw [k2.below.cell (p := ⟨b, off + k, none⟩) HBL.out, ← HM.out.below.cell (p := ⟨b, off + k, none⟩) HBL.out]; exact c1
      clear c1
      have A2 := Lib.hid (add_any g2 u _ w2 q2.b (st_ok ys k))
      have K2 := Lib.hid k2
      have Q2 := Lib.hid q2
      clear k2 q2
      go_wp2_with fail
      refine (A2.out).mono ?_
      intro e w3 ha
      rw [HU.out, ← YJ.out] at ha
      have k3 := K2.out.other Q2.out ha HNE.out
      have q3 : HW w g2 (st ys (k + 1)) w3 := Q2.out.adds ha
      obtain ⟨rfl, -, -⟩ := ha
      have c4 : w3.cell? ⟨b, off + k, none⟩ = some (.int .i64 v) := by rw [k3.below.cell (p := ⟨b, off + k, none⟩) HBL.out, ← K2.out.below.cell (p := ⟨b, off + k, none⟩) HBL.out]; exact c3
      clear c2 c3
      have A3 := add_any g2 (-1 - v2) _ w3 q3.b (st_ok ys (k + 1))
      rw [add_none _ (show -1 - v2 < 0 by omega)] at A3
      have A3 := Lib.hid A3
      have K3 := Lib.hid k3
      have Q3 := Lib.hid q3
      clear k3 q3
      go_wp2_with fail
      refine (A3.out).mono ?_
      intro e w4 ha
      have k4 := K3.out.other Q3.out ha HNE.out
      have q4 := Q3.out.adds ha
      obtain ⟨rfl, -, -⟩ := ha
      have K4 := Lib.hid k4
      have Q4 := Lib.hid q4
      clear k4 q4 c4
      go_wp2
      go_roundw
      case rel => exact ⟨k + 1, by omega, by go_num, K4.out, Q4.out⟩
      case measure => simp [intOf]; omega
    · obtain rfl : k = len := by omega
      have ok := st_ok xs k
      rw [HT.out] at hM2
      obtain ⟨s, hs⟩ : ∃ s, s = st xs k := ⟨_, rfl⟩
      rw [← hs] at hM hM2 ok
      have P1 := Lib.hid (counts_any g s wr hM.b ok)
      have HM := Lib.hid hM
      have HM2 := Lib.hid hM2
      have OK := Lib.hid ok
      clear hM hM2 ok hs hlt hk
      go_wp2_with fail
      refine (P1.out).mono ?_
      rintro e w4 ⟨rfl, hB, hG⟩
      have k4 := HM.out.grown hG
      have q4 := HM2.out.grown hG
      have P2 := Lib.hid (counts_any g2 s w4 q4.b OK.out)
      obtain ⟨l1, hl1⟩ : ∃ l1, l1 = wr.heap.size := ⟨_, rfl⟩
      rw [← hl1] at hB ⊢
      obtain ⟨l2, hl2⟩ : ∃ l1, l1 = w4.heap.size := ⟨_, rfl⟩
      have HB1 := Lib.hid hB
      have HL := Lib.hid hl2
      have K4 := Lib.hid k4
      have Q4 := Lib.hid q4
      clear k4 q4 hB hG hl1 hl2
      go_wp2_with fail
      refine (P2.out).mono ?_
      rintro e w5 ⟨rfl, hB, hG⟩
      have k5 := K4.out.grown hG
      have q5 := Q4.out.grown hG
      have hB1 := HB1.out.grown hG (by simp)
      rw [← HL.out] at hB ⊢
      have c1 := fun n => over_any g _ _ _ (w5.drewN n) (k5.drewN n).b OK.out.len
      have c2 := fun n => over_any g2 _ _ _ (w5.drewN n) (q5.drewN n).b OK.out.len
      have c3 := fun n => in_any g _ _ _ (w5.drewN n) (k5.drewN n).b OK.out.len
      have c4 := fun n => in_any g2 _ _ _ (w5.drewN n) (q5.drewN n).b OK.out.len
      obtain ⟨X, hX⟩ : ∃ X : Int, X = s.a := ⟨_, rfl⟩
      obtain ⟨Y, hY⟩ : ∃ X : Int, X = s.o := ⟨_, rfl⟩
      rw [← hX] at c3 c4
      rw [← hY] at c1 c2
      have hbl : ∀ n, Blk (w5.drewN n) l1 3 (bc s.bs).toArray ∧ Blk (w5.drewN n) l2 3 (bc s.bs).toArray ∧ Below w.heap.size w (w5.drewN n) := fun n => ⟨hB1.drewN n, hB.drewN n, (k5.drewN n).below⟩
      have C1 := Lib.hid c1
      have C2 := Lib.hid c2
      have C3 := Lib.hid c3
      have C4 := Lib.hid c4
      have HBL := Lib.hid hbl
      clear c1 c2 c3 c4 hbl hB hB1 k5 q5 hG hX hY
      go_wp2_with fail
      refine (C1.out 0).mono ?_
      rintro e w' ⟨rfl, n1, rfl⟩
      go_wp2_with fail
      refine (C2.out _).mono ?_
      rintro e w' ⟨rfl, n2, rfl⟩
      go_wp2_with fail
      refine (C3.out _).mono ?_
      rintro e w' ⟨rfl, n3, rfl⟩
      go_wp2_with fail
      refine (C4.out _).mono ?_
      rintro e w' ⟨rfl, n4, rfl⟩
      go_wp2_with fail
      go_loopw [77] (fun iv wr => ∃ j : Nat, j ≤ 240 ∧ iv = .int .i64 j ∧ Blk wr l1 3 (bc s.bs).toArray ∧ Blk wr l2 3 (bc s.bs).toArray ∧ Below w.heap.size w wr) (fun iv _ => 240 - (intOf iv).toNat)
      case atStart => exact ⟨0, by omega, rfl, HBL.out _⟩
      case round =>
        obtain ⟨j, hj, rfl, h1, h2, h3⟩ := hrel
        by_cases hlt : j < 240
        · have g1 := bc_get (show j < s.bs.length by rw [OK.out.len]; exact hlt)
          obtain ⟨v, hv⟩ : ∃ v, v = s.bs.getD j 0 := ⟨_, rfl⟩
          rw [← hv] at g1
          have d1 : wr.cell? ⟨l1, j, none⟩ = some (.int .i64 v) := by rw [h1.cell, List.getElem?_toArray]; exact g1
          have d2 : wr.cell? ⟨l2, j, none⟩ = some (.int .i64 v) := by rw [h2.cell, List.getElem?_toArray]; exact g1
          have HH := Lib.hid (fun n => (⟨h1.drewN n, h2.drewN n, ⟨h3.os, h3.tape, h3.output, h3.size, h3.block⟩⟩ : Blk (wr.drewN n) l1 3 (bc s.bs).toArray ∧ Blk (wr.drewN n) l2 3 (bc s.bs).toArray ∧ Below w.heap.size w (wr.drewN n)))
          clear h1 h2 h3 g1 hv
          go_wp2_with fail
          go_quiet (fail)
          go_wp2
          go_roundw
          case rel => exact ⟨j + 1, by omega, by go_num, HH.out _⟩
          case measure => simp [intOf]; omega
        · obtain rfl : j = 240 := by omega
          have HB := Lib.hid h3
          clear h1 h2 h3
          go_wp2
          go_ret
          exact Yes.mk rfl HB.out

set_option maxRecDepth 100000 in
set_option maxHeartbeats 8000000 in
theorem turns_many (a : Option Addr) (len cap : Nat) (x : Int) (w : World) (hl : 200 < len) (_ : len ≤ maxLen) : Calls Try.prog 7 #[.slice a len cap, .int .i64 x] w (Yes w) := by
  have hll : 200 < (len : Int) := by omega
  go_enter Try.func7, Try.ntmps7
  go_wp2_with fail
  refine (head_any _).mono ?_
  rintro e w1 ⟨rfl, hb1⟩
  have HB := Lib.hid hb1
  clear hb1
  go_wp2
  go_ret
  exact Yes.mk rfl HB.out

theorem turns_walk (a : Option Addr) (len cap : Nat) (zs : List Int) (x : Int) (w : World) (h : IsRow w a len cap zs) : Calls Try.prog 7 #[.slice a len cap, .int .i64 x] w (Yes w) := by
  by_cases hl : 200 < len
  · exact turns_many a len cap x w hl h.le
  · exact turns_few a len cap _ x w (by omega) h.elems

end Go.Proofs.Ytfdmkfoiooibiaa.Histo
