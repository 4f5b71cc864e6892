/- Proved: the walk of the law PolicyHolds: it answers true, for all slices. -/
import Derived.Test.YtopbhdpfakjkjaaPolicyWindowsW
namespace Go.Proofs.Ytopbhdpfakjkjaa.Policy
open Go.RowKit Go.Proofs.Ytopbhdpfakjkjaa.Histo Go.Proofs.Ytopbhdpfakjkjaa.Ring Go.Proofs.Ytopbhdpfakjkjaa.Cast

theorem sumTo_add (f g : Nat → Int) : ∀ n, sumTo (fun i => f i + g i) n = sumTo f n + sumTo g n
  | 0 => rfl
  | n + 1 => by simp only [sumTo]; rw [sumTo_add f g n]; omega
theorem sumTo_le (f g : Nat → Int) : ∀ n, (∀ i, i < n → f i ≤ g i) → sumTo f n ≤ sumTo g n
  | 0, _ => Int.le_refl _
  | n + 1, h => by simp only [sumTo]; have := sumTo_le f g n (fun i hi => h i (by omega)); have := h n (by omega); omega
theorem sumTo_zero : ∀ n, sumTo (fun _ => 0) n = 0
  | 0 => rfl
  | n + 1 => by simp only [sumTo]; rw [sumTo_zero n]; rfl
/-- How many of the first n lie from 0 on below a number. -/
def cnt (xs : Nat → Int) (m : Int) (n : Nat) : Int := sumTo (fun i => if 0 ≤ xs i ∧ xs i < m then 1 else 0) n
theorem ps_cnt (xs : Nat → Int) (n : Nat) (hn : n ≤ 4000) : ∀ m : Nat, m ≤ 240 → ps (st xs n).bs m = cnt xs m n
  | 0, _ => by
    unfold cnt
    rw [sumTo_congr _ (fun _ => 0) n (fun i _ => if_neg (by omega)), sumTo_zero]
    simp [ps]
  | m + 1, h => by
    rw [ps_next (by rw [(st_ok xs n).len]; omega), ps_cnt xs n hn m (by omega), st_bins xs m (by omega) n hn]
    unfold cnt
    rw [← sumTo_add]
    refine sumTo_congr _ _ n fun i _ => ?_
    by_cases h1 : 0 ≤ xs i ∧ xs i < m
    · rw [if_pos h1, if_neg (by omega), if_pos (by omega)]; rfl
    · rw [if_neg h1]
      by_cases h2 : xs i = m
      · rw [if_pos h2, if_pos (by omega)]; rfl
      · rw [if_neg h2, if_neg (by omega)]; rfl
def early (xs : Nat → Int) (p : Int) (n : Nat) : Int := sumTo (fun i => if 0 ≤ xs i ∧ xs i < 240 ∧ xs i < p then 1 else 0) n
def late (xs : Nat → Int) (f : Int) (n : Nat) : Int := sumTo (fun i => if f ≤ xs i ∧ xs i < 240 then 1 else 0) n
theorem sumTo_bd (f : Nat → Int) (h : ∀ i, 0 ≤ f i ∧ f i ≤ 1) : ∀ n : Nat, 0 ≤ sumTo f n ∧ sumTo f n ≤ n
  | 0 => by simp [sumTo]
  | n + 1 => by have := sumTo_bd f h n; have := h n; simp only [sumTo]; omega
theorem early_bd (xs : Nat → Int) (p : Int) (n : Nat) : 0 ≤ early xs p n ∧ early xs p n ≤ n := sumTo_bd _ (fun i => by split <;> omega) n
theorem late_bd (xs : Nat → Int) (p : Int) (n : Nat) : 0 ≤ late xs p n ∧ late xs p n ≤ n := sumTo_bd _ (fun i => by split <;> omega) n
theorem holds_pure (xs : Nat → Int) (n : Nat) (hn : n ≤ 4000) (ha : 0 < (st xs n).a) :
    100 * early xs (((st xs n).cut 5 : Int) * 9 / 10) n ≤ 5 * (st xs n).a ∧ 100 * late xs ((((st xs n).cut 99 : Int) * 11 + 20) / 10) n ≤ (st xs n).a := by
  have ok := st_ok xs n
  have e5 : pc 5 = 5 := by decide
  have e99 : pc 99 = 99 := by decide
  have a := cut_first ok 5 ha
  have b := cut_first ok 99 ha
  rw [e5] at a
  rw [e99] at b
  have l1 := a.lt
  have l2 := b.lt
  constructor
  · have h1 : early xs (((st xs n).cut 5 : Int) * 9 / 10) n ≤ ps (st xs n).bs ((st xs n).cut 5) := by
      rw [ps_cnt xs n hn _ (by omega)]
      refine sumTo_le _ _ n fun i _ => ?_
      by_cases h : 0 ≤ xs i ∧ xs i < 240 ∧ xs i < ((st xs n).cut 5 : Int) * 9 / 10
      · rw [if_pos h, if_pos (by omega)]; exact Int.le_refl _
      · rw [if_neg h]; split <;> omega
    have h2 : 100 * ps (st xs n).bs ((st xs n).cut 5) ≤ 5 * (st xs n).a := by
      have hm := ps_mono ok ((st xs n).cut 5)
      by_cases h0 : (st xs n).cut 5 = 0
      · rw [h0]
        have : ps (st xs n).bs 0 = 0 := by simp [ps]
        omega
      · have := a.no ((st xs n).cut 5 - 1) (by omega)
        unfold Stop at this
        rw [show (st xs n).cut 5 - 1 + 1 = (st xs n).cut 5 by omega] at this
        omega
    omega
  · have h1 : late xs ((((st xs n).cut 99 : Int) * 11 + 20) / 10) n + ps (st xs n).bs ((st xs n).cut 99 + 1) ≤ ps (st xs n).bs 240 := by
      rw [ps_cnt xs n hn _ (by omega), ps_cnt xs n hn _ (by omega)]
      unfold late cnt
      rw [← sumTo_add]
      refine sumTo_le _ _ n fun i _ => ?_
      by_cases h : (((st xs n).cut 99 : Int) * 11 + 20) / 10 ≤ xs i ∧ xs i < 240
      · rw [if_pos h, if_neg (by omega), if_pos (by omega)]; exact Int.le_refl _
      · rw [if_neg h]
        by_cases h3 : 0 ≤ xs i ∧ xs i < (((st xs n).cut 99 + 1 : Nat) : Int)
        · rw [if_pos h3, if_pos (by omega)]; exact Int.le_refl _
        · rw [if_neg h3]; split <;> omega
    rw [ps_all ok] at h1
    have := b.yes.2
    omega

theorem holds_many (a : Option Addr) (len cap : Nat) (w : World) (hl : 200 < len) (hm : len ≤ maxLen) : Calls Try.prog 5 #[.slice a len cap] w (Yes w) := by
  unfold maxLen at hm
  have hll : (200 : Int) < (len : Int) := by omega
  go_enter Try.func5, Try.ntmps5
  go_wp2_with fail
  refine (head_any _).mono ?_
  rintro e w1 ⟨rfl, hb1⟩
  have HB := Lib.hid hb1
  clear hb1
  go_wp2
  go_ret
  exact Yes.mk rfl HB.out

set_option maxRecDepth 100000 in
set_option maxHeartbeats 8000000 in
theorem holds_few (a : Option Addr) (len cap : Nat) (xs : Nat → Int) (w : World) (hl : len ≤ 200) (h : Elems w a len xs) : Calls Try.prog 5 #[.slice a len cap] w (Yes w) := by
  have hll : ¬ 200 < (len : Int) := by omega
  have HE := Lib.hid h
  clear h
  go_enter Try.func5, Try.ntmps5
  go_wp2_with fail
  refine (head_any _).mono ?_
  rintro e w0 ⟨rfl, hb⟩
  go_wp2_with fail
  have st := PW.start hb
  have n1 := Histo.new_any w0
  generalize hw1 : w0.alloc (.cells (hc (List.replicate 240 0) 0 0) 62) = w1 at st n1
  have n2 := Ring.new_any w1
  generalize hw2 : w1.alloc (.cells (rc (List.replicate 8 0) 0) 65) = w2 at st n2
  obtain ⟨g, hg⟩ : ∃ g, g = w0.heap.size := ⟨_, rfl⟩
  obtain ⟨k, hk⟩ : ∃ g, g = w1.heap.size := ⟨_, rfl⟩
  have st' : PW w g k S.empty [] w2 := by rw [hg, hk]; exact st
  rw [← hg] at n1
  rw [← hk] at n2
  have ST := Lib.hid st'
  have N1 := Lib.hid n1
  have N2 := Lib.hid n2
  clear st st' n1 n2 hw1 hw2 hg hk hb
  go_wp2_with fail
  refine (N1.out).mono ?_
  rintro e w' ⟨rfl, rfl⟩
  go_wp2_with fail
  refine (N2.out).mono ?_
  rintro e w' ⟨rfl, rfl⟩
  go_wp2_with fail
  go_loopw [21] (fun iv wr => ∃ j : Nat, j ≤ len ∧ iv = .int .i64 j ∧ PW w g k (st xs j) (tsOf xs j) wr) (fun iv _ => len - (intOf iv).toNat)
  case atStart => exact ⟨0, by omega, rfl, ST.out⟩
  case round =>
    obtain ⟨j, hj, rfl, hM⟩ := hrel
    by_cases hlt : j < len
    · obtain ⟨b, off, rfl, hb, hc⟩ := HE.out j hlt
      obtain ⟨x, hx⟩ : ∃ v, v = xs j := ⟨_, rfl⟩
      have c1 : wr.cell? ⟨b, off + j, none⟩ = some (.int .i64 x) := by rw [hM.below.cell (p := ⟨b, off + j, none⟩) hb, hx]; exact hc j hlt
      have nx1 : st xs (j + 1) = (st xs j).add x := by rw [hx]; rfl
      have nt1 : tsOf xs (j + 1) = tsOf xs j ++ [x] := by rw [hx]; exact tsOf_next _ _
      have A := Lib.hid (add_any g x _ wr hM.b hM.ok)
      have HM := Lib.hid hM
      have NX := Lib.hid (And.intro nx1 nt1)
      clear hM nx1 nt1 hb hx hc
      go_wp2_with fail
      refine (A.out).mono ?_
      intro e w2 ha
      have h2 := HM.out.add ha
      obtain ⟨rfl, -, -⟩ := ha
      have B := Lib.hid (push_any k _ x w2 h2.rg)
      have HM2 := Lib.hid h2
      clear h2
      go_wp2_with fail
      refine (B.out).mono ?_
      intro e w3 hb
      have h3 : PW w g k (st xs (j + 1)) (tsOf xs (j + 1)) w3 := by rw [NX.out.1, NX.out.2]; exact HM2.out.push hb
      obtain ⟨rfl, -, -⟩ := hb
      have HM3 := Lib.hid h3
      clear h3
      go_wp2
      go_roundw
      case rel => exact ⟨j + 1, by omega, by go_num, HM3.out⟩
      case measure => simp [intOf]; omega
    · obtain rfl : len = j := by omega
      have D := Lib.hid (of_any g k _ _ wr hM.b hM.ok hM.rg)
      have HM := Lib.hid hM
      clear hM
      go_wp2_with fail
      refine (D.out).mono ?_
      intro e w5 hd
      have h5 := HM.out.next hd.2
      obtain ⟨rfl, -⟩ := hd
      obtain ⟨s, hs⟩ : ∃ s, s = st xs len := ⟨_, rfl⟩
      have hpure := holds_pure xs len (by omega)
      rw [← hs] at h5 hpure ⊢
      have h6 := h5.next ((Below.refl _ _).alloc (Nat.le_refl _) (.cells #[.int .i64 (win s (tsOf xs len)).how, .int .i64 (win s (tsOf xs len)).pre, .int .i64 (win s (tsOf xs len)).fin] 35))
      have b6 := Blk.new w5 35 #[.int .i64 (win s (tsOf xs len)).how, .int .i64 (win s (tsOf xs len)).pre, .int .i64 (win s (tsOf xs len)).fin]
      obtain ⟨r, hr⟩ : ∃ r, r = w5.heap.size := ⟨_, rfl⟩
      rw [← hr] at b6
      have hok := h5.ok
      have a0 := hok.a0
      have o0 := hok.over
      have few := hok.few
      have hcell : Blk w5 g 62 (hc s.bs s.a s.o) := h5.b
      obtain ⟨ia, hia⟩ : ∃ a, a = s.a := ⟨_, rfl⟩
      obtain ⟨io, hio⟩ : ∃ a, a = s.o := ⟨_, rfl⟩
      have win0 : win s (tsOf xs len) = wfix ∨ (s.a + s.o < 2 * s.o ∧ ∃ x, win s (tsOf xs len) = wcast x) ∨ (0 < s.a ∧ win s (tsOf xs len) = whist (s.cut 5) (s.cut 99)) := by
        unfold win
        by_cases h : s.a + s.o < 4
        · rw [if_pos h]; exact .inl rfl
        · rw [if_neg h]
          by_cases h2 : s.a + s.o < 2 * s.o
          · rw [if_pos h2]; exact .inr (.inl ⟨h2, _, rfl⟩)
          · rw [if_neg h2]
            by_cases h3 : s.spread = false
            · rw [if_pos h3]; exact .inl rfl
            · rw [if_neg h3]; exact .inr (.inr ⟨spread_pos (by simpa using h3), rfl⟩)
      generalize win s (tsOf xs len) = W at *
      rw [← hia] at a0 few hpure win0
      rw [← hio] at o0 few win0
      unfold Win.val
      rcases win0 with rfl | ⟨h2, x, rfl⟩ | ⟨h2, rfl⟩
      · have HB := Lib.hid h5
        clear hs h5 h6 b6 hr hok hcell hia hio few hpure D
        unfold wfix
        simp only
        go_wp2
        go_ret
        exact Yes.mk rfl (HB.out.below.alloc HB.out.below.size _)
      · have CI : ∀ W : World, Below w5.heap.size w5 W → ∀ n, Calls Try.prog 20 #[.pointer (some ⟨g, 0, none⟩)] (W.drewN n) (RetI ia (W.drewN n)) := fun W hb n => by rw [hia]; exact in_any g s.bs s.a s.o _ ((hcell.below hb hcell.lt).drewN n) hok.len
        have CO : ∀ W : World, Below w5.heap.size w5 W → ∀ n, Calls Try.prog 19 #[.pointer (some ⟨g, 0, none⟩)] (W.drewN n) (RetI io (W.drewN n)) := fun W hb n => by rw [hio]; exact over_any g s.bs s.a s.o _ ((hcell.below hb hcell.lt).drewN n) hok.len
        have HCI := Lib.hid CI
        have HCO := Lib.hid CO
        have HB := Lib.hid h5
        clear hs h5 h6 b6 hr hok hcell hia hio hpure CI CO D
        unfold wcast
        simp only
        obtain ⟨p, hp⟩ : ∃ p, p = x * 85 / 100 := ⟨_, rfl⟩
        obtain ⟨q, hq⟩ : ∃ q, q = max ((x * 115 + 99) / 100) (p + 1) := ⟨_, rfl⟩
        rw [← hp, ← hq]
        clear hp hq
        have d1 : decide (ia + io < 2 * io) = true := decide_eq_true h2
        go_wp2_with fail
        generalize hW : w5.alloc _ = W
        have BW : Below w5.heap.size w5 W := by rw [← hW]; exact (Below.refl _ _).alloc (Nat.le_refl _) _
        have HBW := Lib.hid BW
        clear hW BW
        refine (HCO.out W HBW.out 0).mono ?_
        rintro e w' ⟨rfl, n1, rfl⟩
        go_wp2_with fail
        refine (HCI.out W HBW.out _).mono ?_
        rintro e w' ⟨rfl, n2, rfl⟩
        go_wp2_with fail
        refine (HCO.out W HBW.out _).mono ?_
        rintro e w' ⟨rfl, n3, rfl⟩
        go_wp2
        go_ret
        exact Yes.mk (by simp) (HB.out.next (below_drewN HBW.out _)).below
      · have HP := Lib.hid (hpure h2)
        have CI : ∀ W : World, Below w5.heap.size w5 W → ∀ n, Calls Try.prog 20 #[.pointer (some ⟨g, 0, none⟩)] (W.drewN n) (RetI ia (W.drewN n)) := fun W hb n => by rw [hia]; exact in_any g s.bs s.a s.o _ ((hcell.below hb hcell.lt).drewN n) hok.len
        have HCI := Lib.hid CI
        have l1 := cut_lt s 5
        have l2 := cut_lt s 99
        have HB := Lib.hid h5
        have HB6 := Lib.hid b6
        have HH6 := Lib.hid h6
        have HR := Lib.hid hr
        clear hs h5 h6 b6 hr hok hcell hia hio hpure CI D
        unfold whist
        simp only
        obtain ⟨p, hp⟩ : ∃ p, p = (s.cut 5 : Int) * 9 / 10 := ⟨_, rfl⟩
        obtain ⟨q, hq⟩ : ∃ q, q = ((s.cut 99 : Int) * 11 + 20) / 10 := ⟨_, rfl⟩
        have p0 : 0 ≤ p := by omega
        have p1 : p ≤ 240 := by omega
        have q0 : 0 < q := by omega
        have q1 : q ≤ 300 := by omega
        rw [← hp, ← hq] at HP ⊢
        clear hp hq l1 l2
        have ha5 : ia ≤ 4096 := by omega
        go_wp2_with fail
        generalize hW : w5.alloc _ = W
        have BW : Below w5.heap.size w5 W := by rw [← hW]; exact (Below.refl _ _).alloc (Nat.le_refl _) _
        have b7 : Blk W w5.heap.size 35 #[.int .i64 1, .int .i64 p, .int .i64 q] := by rw [← hW]; exact Blk.new _ _ _
        obtain ⟨r', hr'⟩ : ∃ r, r = w5.heap.size := ⟨_, rfl⟩
        rw [← hr'] at b7 ⊢
        have cc1 : W.cell? ⟨r', 1, none⟩ = some (.int .i64 p) := b7.cell 1
        have cc2 : W.cell? ⟨r', 2, none⟩ = some (.int .i64 q) := b7.cell 2
        have HBW := Lib.hid BW
        have hbw2 := (HB.out.next BW).below
        have HBW2 := Lib.hid hbw2
        clear hW BW b7 hr' hbw2
        go_loop [8, 9, 69] (fun ev lv iv => ∃ j : Nat, j ≤ len ∧ iv = .int .i64 j ∧ ev = .int .i64 (early xs p j) ∧ lv = .int .i64 (late xs q j)) (fun _ _ iv => len - (intOf iv).toNat)
        case atStart => exact ⟨0, by omega, rfl, rfl, rfl⟩
        case round =>
          obtain ⟨j, hj, rfl, rfl, rfl⟩ := hrel
          by_cases hlt : j < len
          · obtain ⟨b, off, rfl, hb, hc⟩ := HE.out j hlt
            obtain ⟨x, hx⟩ : ∃ v, v = xs j := ⟨_, rfl⟩
            have c1 : W.cell? ⟨b, off + j, none⟩ = some (.int .i64 x) := by rw [HBW2.out.cell (p := ⟨b, off + j, none⟩) hb, hx]; exact hc j hlt
            have be := early_bd xs p j
            have bl := late_bd xs q j
            have ne : early xs p (j + 1) = early xs p j + (if 0 ≤ x ∧ x < 240 ∧ x < p then 1 else 0) := by rw [hx]; rfl
            have nl : late xs q (j + 1) = late xs q j + (if q ≤ x ∧ x < 240 then 1 else 0) := by rw [hx]; rfl
            have NE := Lib.hid ne
            have NL := Lib.hid nl
            generalize early xs p j = E at *
            generalize late xs q j = L at *
            obtain ⟨be0, be1⟩ := be
            obtain ⟨bl0, bl1⟩ := bl
            clear hx hc ne nl hb
            have hE2 : E ≤ 200 := by omega
            have hL2 : L ≤ 200 := by omega
            clear be1 bl1
            by_cases t1 : 0 ≤ x
            · have d1 : decide (0 ≤ x) = true := decide_eq_true t1
              by_cases t2 : x < 240
              · have d2 : decide (x < 240) = true := decide_eq_true t2
                by_cases t3 : x < p
                · have d3 : decide (x < p) = true := decide_eq_true t3
                  by_cases t4 : q ≤ x
                  · have d4 : decide (q ≤ x) = true := decide_eq_true t4
                    go_wp2
                    go_round
                    case rel => exact ⟨j + 1, by omega, by go_num, vi (by rw [NE.out, if_pos ⟨t1, t2, t3⟩]), vi (by rw [NL.out, if_pos ⟨t4, t2⟩])⟩
                    case measure => simp [intOf]; omega
                  · have d4 : decide (q ≤ x) = false := decide_eq_false t4
                    go_wp2
                    go_round
                    case rel => exact ⟨j + 1, by omega, by go_num, vi (by rw [NE.out, if_pos ⟨t1, t2, t3⟩]), vi (by rw [NL.out, if_neg (fun h => t4 h.1)]; omega)⟩
                    case measure => simp [intOf]; omega
                · have d3 : decide (x < p) = false := decide_eq_false t3
                  by_cases t4 : q ≤ x
                  · have d4 : decide (q ≤ x) = true := decide_eq_true t4
                    go_wp2
                    go_round
                    case rel => exact ⟨j + 1, by omega, by go_num, vi (by rw [NE.out, if_neg (fun h => t3 h.2.2)]; omega), vi (by rw [NL.out, if_pos ⟨t4, t2⟩])⟩
                    case measure => simp [intOf]; omega
                  · have d4 : decide (q ≤ x) = false := decide_eq_false t4
                    go_wp2
                    go_round
                    case rel => exact ⟨j + 1, by omega, by go_num, vi (by rw [NE.out, if_neg (fun h => t3 h.2.2)]; omega), vi (by rw [NL.out, if_neg (fun h => t4 h.1)]; omega)⟩
                    case measure => simp [intOf]; omega
              · have d2 : decide (x < 240) = false := decide_eq_false t2
                by_cases t4 : q ≤ x
                · have d4 : decide (q ≤ x) = true := decide_eq_true t4
                  go_wp2
                  go_round
                  case rel => exact ⟨j + 1, by omega, by go_num, vi (by rw [NE.out, if_neg (fun h => t2 h.2.1)]; omega), vi (by rw [NL.out, if_neg (fun h => t2 h.2)]; omega)⟩
                  case measure => simp [intOf]; omega
                · have d4 : decide (q ≤ x) = false := decide_eq_false t4
                  go_wp2
                  go_round
                  case rel => exact ⟨j + 1, by omega, by go_num, vi (by rw [NE.out, if_neg (fun h => t2 h.2.1)]; omega), vi (by rw [NL.out, if_neg (fun h => t4 h.1)]; omega)⟩
                  case measure => simp [intOf]; omega
            · have d1 : decide (0 ≤ x) = false := decide_eq_false t1
              have t4 : ¬ q ≤ x := by omega
              have d4 : decide (q ≤ x) = false := decide_eq_false t4
              go_wp2
              go_round
              case rel => exact ⟨j + 1, by omega, by go_num, vi (by rw [NE.out, if_neg (fun h => t1 h.1)]; omega), vi (by rw [NL.out, if_neg (fun h => t4 h.1)]; omega)⟩
              case measure => simp [intOf]; omega
          · obtain rfl : len = j := by omega
            have be := early_bd xs p len
            have bl := late_bd xs q len
            have hp := HP.out
            generalize early xs p len = E at *
            generalize late xs q len = L at *
            obtain ⟨be0, be1⟩ := be
            obtain ⟨bl0, bl1⟩ := bl
            have hE2 : E ≤ 200 := by omega
            have hL2 : L ≤ 200 := by omega
            obtain ⟨hp1, hp2⟩ := hp
            have d1 : decide (100 * E ≤ 5 * ia) = true := decide_eq_true hp1
            have d2 : decide (100 * L ≤ ia) = true := decide_eq_true hp2
            clear be1 bl1
            go_wp2_with fail
            refine (HCI.out W HBW.out 0).mono ?_
            rintro e w' ⟨rfl, n1, rfl⟩
            go_wp2_with fail
            refine (HCI.out W HBW.out _).mono ?_
            rintro e w' ⟨rfl, n2, rfl⟩
            go_wp2
            go_ret
            exact Yes.mk (by simp) (below_drewN HBW2.out _)
theorem holds_walk (a : Option Addr) (len cap : Nat) (zs : List Int) (w : World) (h : IsRow w a len cap zs) : Calls Try.prog 5 #[.slice a len cap] w (Yes w) := by
  by_cases hl : 200 < len
  · exact holds_many a len cap w hl h.le
  · exact holds_few a len cap _ w (by omega) h.elems
end Go.Proofs.Ytopbhdpfakjkjaa.Policy
