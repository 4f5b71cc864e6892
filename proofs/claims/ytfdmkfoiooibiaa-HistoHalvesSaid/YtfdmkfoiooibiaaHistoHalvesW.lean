/- Proved: the walk of the law HistoHalves: it answers true, for all numbers. -/
import Derived.Test.YtfdmkfoiooibiaaHistoRow
namespace Go.Proofs.Ytfdmkfoiooibiaa.Histo
open Go.RowKit

/-- How many of these numbers are odd. -/
def odd (l : List Int) : Int := (l.map (· % 2)).sum
theorem odd_set : ∀ (l : List Int) (i : Nat) (v : Int), odd (l.set i v) ≤ odd l + 1
  | [], i, v => by simp [odd]
  | x :: l, 0, v => by simp only [odd, List.set_cons_zero, List.map_cons, List.sum_cons]; omega
  | x :: l, i + 1, v => by
    have ih := odd_set l i v
    simp only [odd, List.set_cons_succ, List.map_cons, List.sum_cons] at ih ⊢; omega
theorem odd_nn : ∀ l : List Int, 0 ≤ odd l
  | [] => by simp [odd]
  | x :: l => by have ih := odd_nn l; simp only [odd, List.map_cons, List.sum_cons] at ih ⊢; omega
theorem odd_sum : ∀ l : List Int, l.sum = 2 * (l.map (· / 2)).sum + odd l
  | [] => by simp [odd]
  | x :: l => by have ih := odd_sum l; simp only [odd, List.map_cons, List.sum_cons] at ih ⊢; omega
theorem odd_zeros : odd zeros = 0 := by decide +kernel

/-- None but two of the bins were counted. -/
def Two (x y : Int) (s : S) : Prop := ∃ p q, s.bs = (zeros.set x.toNat p).set y.toNat q
theorem Two.odd {x y : Int} {s : S} (h : Two x y s) : odd s.bs ≤ 2 := by
  obtain ⟨p, q, e⟩ := h
  rw [e]
  have h1 := odd_set (zeros.set x.toNat p) y.toNat q
  have h2 := odd_set zeros x.toNat p
  have := odd_zeros
  omega
theorem Two.raw_y {x y : Int} {s : S} (h : Two x y s) : Two x y (s.raw y) := by
  obtain ⟨p, q, e⟩ := h
  unfold S.raw
  split
  · exact ⟨p, s.bs.getD y.toNat 0 + 1, by show s.bs.set y.toNat _ = _; rw [e, List.set_set]⟩
  · exact ⟨p, q, e⟩
theorem Two.raw_x {x y : Int} {s : S} (h : Two x y s) : Two x y (s.raw x) := by
  obtain ⟨p, q, e⟩ := h
  unfold S.raw
  split
  · by_cases hxy : x.toNat = y.toNat
    · exact ⟨p, s.bs.getD x.toNat 0 + 1, by show s.bs.set x.toNat _ = _; rw [e, hxy, List.set_set]⟩
    · exact ⟨s.bs.getD x.toNat 0 + 1, q, by show s.bs.set x.toNat _ = _; rw [e, List.set_comm _ _ (by omega), List.set_set]⟩
  · exact ⟨p, q, e⟩
/-- So many idle times of the one kind, and the rest of the other. -/
def hv (x y : Int) (sh : Nat) : Nat → S | 0 => S.empty | k + 1 => (hv x y sh k).add (if k < sh then x else y)
theorem hv_ok (x y : Int) (sh : Nat) : ∀ k, Ok (hv x y sh k)
  | 0 => Ok.none
  | k + 1 => (hv_ok x y sh k).add _
theorem hv_two {x y : Int} (hx : 0 ≤ x) (hy : 0 ≤ y) (sh : Nat) : ∀ k, k ≤ 4095 → Two x y (hv x y sh k) ∧ (hv x y sh k).a + (hv x y sh k).o = k
  | 0, _ => ⟨⟨0, 0, by
      have hz : ∀ i : Nat, zeros.set i 0 = zeros := fun i => by
        apply List.ext_getElem?
        intro j
        rw [List.getElem?_set]
        split
        · next e =>
          subst e
          unfold zeros
          rw [List.length_replicate, List.getElem?_replicate]
        · rfl
      rw [hz, hz]; rfl⟩, by simp [hv, S.empty]⟩
  | k + 1, hk => by
    have ih := hv_two hx hy sh k (by omega)
    have ok := hv_ok x y sh k
    show Two x y ((hv x y sh k).add _) ∧ ((hv x y sh k).add _).a + ((hv x y sh k).add _).o = _
    by_cases h : k < sh
    · have h2 := ok.raw_all x
      rw [if_pos h, ok.add_few (by omega), if_neg (by omega)]
      exact ⟨ih.1.raw_x, by omega⟩
    · have h2 := ok.raw_all y
      rw [if_neg h, ok.add_few (by omega), if_neg (by omega)]
      exact ⟨ih.1.raw_y, by omega⟩
theorem hv_all {x y : Int} (hx : 0 ≤ x) (hy : 0 ≤ y) (sh : Nat) : (hv x y sh 4096).a + (hv x y sh 4096).o ≤ 2048 ∧ 2046 ≤ (hv x y sh 4096).a + (hv x y sh 4096).o := by
  have ih := hv_two hx hy sh 4095 (by omega)
  have ok := hv_ok x y sh 4095
  have key : ∀ z : Int, 0 ≤ z → Two x y ((hv x y sh 4095).raw z) → ((hv x y sh 4095).add z).a + ((hv x y sh 4095).add z).o ≤ 2048 ∧ 2046 ≤ ((hv x y sh 4095).add z).a + ((hv x y sh 4095).add z).o := by
    intro z hz ht
    have h2 := ok.raw_all z
    unfold S.add
    rw [if_neg (by omega), if_pos (by omega)]
    have h3 := odd_sum ((hv x y sh 4095).raw z).bs
    have h4 := odd_nn ((hv x y sh 4095).raw z).bs
    have h5 := ht.odd
    have h6 : ((hv x y sh 4095).raw z).a = ((hv x y sh 4095).raw z).bs.sum := ok.raw_sum hz
    unfold S.half
    simp only
    omega
  show ((hv x y sh 4095).add _).a + ((hv x y sh 4095).add _).o ≤ _ ∧ _ ≤ ((hv x y sh 4095).add _).a + ((hv x y sh 4095).add _).o
  by_cases h : 4095 < sh
  · rw [if_pos h]; exact key x hx ih.1.raw_x
  · rw [if_neg h]; exact key y hy ih.1.raw_y
theorem addN_all {s : S} (ok : Ok s) {t : Int} (ht : 0 ≤ t) (h : s.a + s.o ≤ 2048) : ∀ j : Nat, j ≤ 100 → (s.addN t j).a + (s.addN t j).o = s.a + s.o + j
  | 0, _ => by show s.a + s.o = _; omega
  | j + 1, hj => by
    have ih := addN_all ok ht h j (by omega)
    have okj := ok.addN t j
    have h2 := okj.raw_all t
    show ((s.addN t j).add t).a + ((s.addN t j).add t).o = _
    rw [okj.add_few (by omega), if_neg (by omega)]
    omega

set_option maxRecDepth 100000 in
set_option maxHeartbeats 8000000 in
theorem halves_walk (x0 y0 h0 m0 : Int) (w : World) : Calls Try.prog 6 #[.int .i64 x0, .int .i64 y0, .int .i64 h0, .int .i64 m0] w (Yes w) := by
  obtain ⟨x, hx⟩ : ∃ x : Int, x = x0 % 256 := ⟨_, rfl⟩
  obtain ⟨y, hy⟩ : ∃ x : Int, x = y0 % 256 := ⟨_, rfl⟩
  obtain ⟨N, hN⟩ : ∃ M : Nat, (M : Int) = h0 % 4096 := ⟨(h0 % 4096).toNat, by omega⟩
  obtain ⟨M, hM⟩ : ∃ M : Nat, (M : Int) = m0 % 16 := ⟨(m0 % 16).toNat, by omega⟩
  have e1 : Go.bits .and .i64 x0 255 = x := by rw [and_255, hx]
  have e2 : Go.bits .and .i64 y0 255 = y := by rw [and_255, hy]
  have e3 : Go.bits .and .i64 h0 4095 = (N : Int) := by rw [and_4095, hN]
  have e4 : Go.bits .and .i64 m0 15 = (M : Int) := by rw [and_15, hM]
  have x1 : 0 ≤ x := by omega
  have y1 : 0 ≤ y := by omega
  have x2 : x ≤ 255 := by omega
  have y2 : y ≤ 255 := by omega
  have hN1 : N < 4096 := by omega
  have hM1 : M < 16 := by omega
  clear hx hy hN hM
  go_enter Try.func6, Try.ntmps6
  go_wp2_with fail
  refine (head_any _).mono ?_
  rintro e w1 ⟨rfl, hb1⟩
  have k0 := HW.first w w1 hb1
  have nw := new_any w1
  obtain ⟨g, hg⟩ : ∃ g, g = w1.heap.size := ⟨_, rfl⟩
  rw [← hg] at k0 nw
  generalize w1.alloc (.cells (hc (List.replicate 240 0) 0 0) 68) = w0 at k0 nw
  have K0 := Lib.hid k0
  have NW := Lib.hid nw
  clear k0 nw hg hb1
  go_wp2_with fail
  refine (NW.out).mono ?_
  rintro e w0 ⟨rfl, rfl⟩
  go_wp2_with fail
  go_loopw [10] (fun iv wr => ∃ k : Nat, k ≤ 4096 ∧ iv = .int .i64 k ∧ HW w g (hv x y N k) wr) (fun iv _ => 4096 - (intOf iv).toNat)
  case atStart => exact ⟨0, by omega, rfl, K0.out⟩
  case round =>
    obtain ⟨k, hk, rfl, hM⟩ := hrel
    by_cases hlt : k < 4096
    · by_cases hs : k < N
      · have A := add_any g x _ wr hM.b (hv_ok x y N k)
        have eS : (hv x y N k).add x = hv x y N (k + 1) := by show _ = (hv x y N k).add (if k < N then x else y); rw [if_pos hs]
        rw [eS] at A
        have A := Lib.hid A
        have HM := Lib.hid hM
        clear hM eS
        go_wp2_with fail
        refine (A.out).mono ?_
        intro e w2 ha
        have k2 := HM.out.adds ha
        obtain ⟨rfl, -, -⟩ := ha
        have K2 := Lib.hid k2
        clear k2
        go_wp2
        go_roundw
        case rel => exact ⟨k + 1, by omega, by go_num, K2.out⟩
        case measure => simp [intOf]; omega
      · have A := add_any g y _ wr hM.b (hv_ok x y N k)
        have eS : (hv x y N k).add y = hv x y N (k + 1) := by show _ = (hv x y N k).add (if k < N then x else y); rw [if_neg hs]
        rw [eS] at A
        have A := Lib.hid A
        have HM := Lib.hid hM
        clear hM eS
        go_wp2_with fail
        refine (A.out).mono ?_
        intro e w2 ha
        have k2 := HM.out.adds ha
        obtain ⟨rfl, -, -⟩ := ha
        have K2 := Lib.hid k2
        clear k2
        go_wp2
        go_roundw
        case rel => exact ⟨k + 1, by omega, by go_num, K2.out⟩
        case measure => simp [intOf]; omega
    · obtain rfl : k = 4096 := by omega
      have hall := hv_all x1 y1 N
      have ok := hv_ok x y N 4096
      have hmany := addN_all ok x1 hall.1
      obtain ⟨s, hs⟩ : ∃ s, s = hv x y N 4096 := ⟨_, rfl⟩
      rw [← hs] at hall ok hmany hM
      have b0 := ok.a0
      have b1 := ok.over
      have c1 := fun n => in_any g _ _ _ (wr.drewN n) (hM.drewN n).b ok.len
      have c2 := fun n => over_any g _ _ _ (wr.drewN n) (hM.drewN n).b ok.len
      obtain ⟨X, hX⟩ : ∃ X : Int, X = s.a := ⟨_, rfl⟩
      obtain ⟨Y, hY⟩ : ∃ X : Int, X = s.o := ⟨_, rfl⟩
      obtain ⟨Z, hZ⟩ : ∃ Z : Int, X + Y = Z := ⟨_, rfl⟩
      rw [← hX, ← hY] at hall hmany
      rw [hZ] at hall hmany
      rw [← hX] at c1 b0
      rw [← hY] at c2 b1
      obtain ⟨z1, z2⟩ := hall
      have hX1 : X ≤ 2048 := by omega
      have hY1 : Y ≤ 2048 := by omega
      have HMA := Lib.hid hmany
      have OK := Lib.hid ok
      have C1 := Lib.hid c1
      have C2 := Lib.hid c2
      have h00 : HW w g (s.addN x 0) wr := hM
      obtain ⟨w6, hw6⟩ : ∃ w6 : World, w6 = wr := ⟨_, rfl⟩
      rw [← hw6] at C1 C2 h00 ⊢
      have HM0 := Lib.hid (fun n => h00.drewN n)
      clear c1 c2 ok hmany hM hs hX hY hw6 h00 hlt hk
      go_wp2_with fail
      refine (C1.out 0).mono ?_
      rintro e w' ⟨rfl, n1, rfl⟩
      go_wp2_with fail
      refine (C2.out _).mono ?_
      rintro e w' ⟨rfl, n2, rfl⟩
      go_wp2_with fail
      refine (C1.out _).mono ?_
      rintro e w' ⟨rfl, n3, rfl⟩
      go_wp2_with fail
      refine (C2.out _).mono ?_
      rintro e w' ⟨rfl, n4, rfl⟩
      go_wp2_with fail
      refine (C1.out _).mono ?_
      rintro e w' ⟨rfl, n5, rfl⟩
      go_wp2_with fail
      refine (C2.out _).mono ?_
      rintro e w' ⟨rfl, n6, rfl⟩
      go_wp2_with fail
      go_loopw [12] (fun iv wr => ∃ j : Nat, j ≤ M ∧ iv = .int .i64 j ∧ HW w g (s.addN x j) wr) (fun iv _ => M - (intOf iv).toNat)
      case atStart => exact ⟨0, by omega, rfl, HM0.out _⟩
      case round =>
        obtain ⟨j, hj, rfl, hM⟩ := hrel
        by_cases hlt : j < M
        · have A : Calls Try.prog 22 _ _ (Adds wr g (s.addN x (j + 1))) := add_any g x _ wr hM.b (OK.out.addN x j)
          have A := Lib.hid A
          have HM := Lib.hid hM
          clear hM
          go_wp2_with fail
          refine (A.out).mono ?_
          intro e w2 ha
          have k2 := HM.out.adds ha
          obtain ⟨rfl, -, -⟩ := ha
          have K2 := Lib.hid k2
          clear k2
          go_wp2
          go_roundw
          case rel => exact ⟨j + 1, by omega, by go_num, K2.out⟩
          case measure => simp [intOf]; omega
        · obtain rfl : j = M := by omega
          have hall := HMA.out j (by omega)
          have ok := OK.out.addN x j
          have b0 := ok.a0
          have b1 := ok.over
          have c1 := fun n => in_any g _ _ _ (wr.drewN n) (hM.drewN n).b ok.len
          have c2 := fun n => over_any g _ _ _ (wr.drewN n) (hM.drewN n).b ok.len
          obtain ⟨X2, hX⟩ : ∃ X : Int, X = (s.addN x j).a := ⟨_, rfl⟩
          obtain ⟨Y2, hY⟩ : ∃ X : Int, X = (s.addN x j).o := ⟨_, rfl⟩
          obtain ⟨Z2, hZ2⟩ : ∃ Z2 : Int, Z + (j : Int) = Z2 := ⟨_, rfl⟩
          rw [← hX, ← hY, hZ2] at hall
          rw [← hX] at c1 b0
          rw [← hY] at c2 b1
          have u1 : X2 ≤ 4095 := by omega
          have u2 : Y2 ≤ 4095 := by omega
          have u3 : Z2 ≤ 4095 := by omega
          have u4 : 0 ≤ Z2 := by omega
          have C1 := Lib.hid c1
          have C2 := Lib.hid c2
          have HM := Lib.hid hM
          clear c1 c2 ok hX hY hM hlt hj
          go_wp2_with fail
          refine (C1.out 0).mono ?_
          rintro e w' ⟨rfl, n7, rfl⟩
          go_wp2_with fail
          refine (C2.out _).mono ?_
          rintro e w' ⟨rfl, n8, rfl⟩
          go_wp2
          go_ret
          exact Yes.mk (by simp) (HM.out.drewN _).below

end Go.Proofs.Ytfdmkfoiooibiaa.Histo
