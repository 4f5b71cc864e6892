/- Proved: the walk of the law HistoCuts: it answers true, for all slices and percentages. -/
import Derived.Test.YtfdmkfoiooibiaaHistoRow
import Derived.Lib.MinMax
namespace Go.Proofs.Ytfdmkfoiooibiaa.Histo
open Go.RowKit

set_option maxRecDepth 100000 in
set_option maxHeartbeats 8000000 in
theorem cuts_few (a : Option Addr) (len cap : Nat) (xs : Nat → Int) (x y P Q : Int) (w : World) (hp : (y < x ∧ P = y ∧ Q = x) ∨ (x ≤ y ∧ P = x ∧ Q = y)) (hl : len ≤ 200) (h : Elems w a len xs) : Calls Try.prog 8 #[.slice a len cap, .int .i64 x, .int .i64 y] w (Yes w) := by
  have hll : ¬ 200 < (len : Int) := by omega
  have HP := Lib.hid hp
  have HE := Lib.hid h
  clear hp h
  go_enter Try.func8, Try.ntmps8
  go_wp2_with fail
  refine (head_any _).mono ?_
  rintro e w1 ⟨rfl, hb1⟩
  have k0 := HW.first w w1 hb1
  have nw := new_any w1
  obtain ⟨g, hg⟩ : ∃ g, g = w1.heap.size := ⟨_, rfl⟩
  rw [← hg] at k0 nw
  generalize w1.alloc (.cells (hc (List.replicate 240 0) 0 0) 68) = w0 at k0 nw
  have K0 := Lib.hid k0
  have NW := Lib.hid nw
  clear k0 nw hg hb1
  go_wp2_with fail
  refine (NW.out).mono ?_
  rintro e w0 ⟨rfl, rfl⟩
  go_wp2_with fail
  go_loopw [8, 9, 28] (fun vl vm iv wr => ∃ k : Nat, k ≤ len ∧ vl = .int .i64 (le xs k) ∧ vm = .int .i64 (mo xs k) ∧ iv = .int .i64 k ∧ HW w g (st xs k) wr) (fun _ _ iv _ => len - (intOf iv).toNat)
  case atStart => exact ⟨0, by omega, rfl, rfl, rfl, K0.out⟩
  case round =>
    obtain ⟨k, hk, rfl, rfl, rfl, hM⟩ := hrel
    have ok := st_ok xs k
    by_cases hlt : k < len
    · obtain ⟨b, off, rfl, hb, hc⟩ := HE.out k hlt
      have c1 : wr.cell? ⟨b, off + k, none⟩ = some (.int .i64 (xs k)) := by rw [hM.below.cell (p := ⟨b, off + k, none⟩) hb]; exact hc k hlt
      have eL : le xs (k + 1) = if 0 ≤ xs k ∧ xs k < 240 then min (le xs k) (xs k) else le xs k := rfl
      have eM : mo xs (k + 1) = if 0 ≤ xs k ∧ xs k < 240 then max (mo xs k) (xs k) else mo xs k := rfl
      have A := Lib.hid (add_any g (xs k) _ wr hM.b ok)
      obtain ⟨v, hv⟩ : ∃ v, v = xs k := ⟨_, rfl⟩
      obtain ⟨L, hL⟩ : ∃ v, v = le xs k := ⟨_, rfl⟩
      obtain ⟨M, hM'⟩ : ∃ v, v = mo xs k := ⟨_, rfl⟩
      rw [← hv, ← hL] at eL
      rw [← hv, ← hM'] at eM
      rw [← hL, ← hM']
      rw [← hv] at A c1
      have EL := Lib.hid eL
      have EM := Lib.hid eM
      have HV := Lib.hid hv
      have HM := Lib.hid hM
      clear hM ok hv hL hM' eL eM hb hc
      by_cases h0 : 0 ≤ v
      · by_cases h1 : v < 240
        · go_wp2_with fail
          refine (A.out).mono ?_
          intro e w2 ha
          rw [HV.out] at ha
          have k2 : HW w g (st xs (k + 1)) w2 := HM.out.adds ha
          obtain ⟨rfl, -, -⟩ := ha
          have K2 := Lib.hid k2
          clear k2
          go_wp2
          go_roundw
          case rel => exact ⟨k + 1, by omega, by rw [EL.out, if_pos ⟨h0, h1⟩], by rw [EM.out, if_pos ⟨h0, h1⟩], by go_num, K2.out⟩
          case measure => simp [intOf]; omega
        · go_wp2_with fail
          refine (A.out).mono ?_
          intro e w2 ha
          rw [HV.out] at ha
          have k2 : HW w g (st xs (k + 1)) w2 := HM.out.adds ha
          obtain ⟨rfl, -, -⟩ := ha
          have K2 := Lib.hid k2
          clear k2
          go_wp2
          go_roundw
          case rel => exact ⟨k + 1, by omega, by rw [EL.out, if_neg (by omega)], by rw [EM.out, if_neg (by omega)], by go_num, K2.out⟩
          case measure => simp [intOf]; omega
      · go_wp2_with fail
        refine (A.out).mono ?_
        intro e w2 ha
        rw [HV.out] at ha
        have k2 : HW w g (st xs (k + 1)) w2 := HM.out.adds ha
        obtain ⟨rfl, -, -⟩ := ha
        have K2 := Lib.hid k2
        clear k2
        go_wp2
        go_roundw
        case rel => exact ⟨k + 1, by omega, by rw [EL.out, if_neg (by omega)], by rw [EM.out, if_neg (by omega)], by go_num, K2.out⟩
        case measure => simp [intOf]; omega
    · obtain rfl : k = len := by omega
      have hm := lm xs k (by omega)
      obtain ⟨s, hs⟩ : ∃ s, s = st xs k := ⟨_, rfl⟩
      rw [← hs] at hm hM ok
      obtain ⟨L, hL⟩ : ∃ v, v = le xs k := ⟨_, rfl⟩
      obtain ⟨M, hM'⟩ : ∃ v, v = mo xs k := ⟨_, rfl⟩
      rw [← hL, ← hM'] at hm
      rw [← hL, ← hM']
      have c1 := fun n => cut_any g s P (wr.drewN n) (hM.drewN n).b ok
      have c2 := fun n => cut_any g s Q (wr.drewN n) (hM.drewN n).b ok
      clear hL hM' hs
      have hPQ : P ≤ Q := by have := HP.out; omega
      by_cases hn : M < 0
      · have ha := (hm.non hn).2.2
        have c3 := fun n => spread_any g s (wr.drewN n) (hM.drewN n).b ok
        rw [cut_zero ok P ha, decide_eq_false (by omega)] at c1
        rw [cut_zero ok Q ha, decide_eq_false (by omega)] at c2
        rw [spread_none ha] at c3
        have C1 := Lib.hid c1
        have C2 := Lib.hid c2
        have C3 := Lib.hid c3
        have HM := Lib.hid hM
        clear c1 c2 c3 hM ok ha hm hlt hPQ
        rcases HP.out with ⟨hxy, rfl, rfl⟩ | ⟨hxy, rfl, rfl⟩ <;>
        · go_wp2_with fail
          refine (C1.out 0).mono ?_
          rintro e w' ⟨rfl, n1, rfl⟩
          go_wp2_with fail
          refine (C2.out _).mono ?_
          rintro e w' ⟨rfl, n2, rfl⟩
          go_wp2_with fail
          refine (C3.out _).mono ?_
          rintro e w' ⟨rfl, n3, rfl⟩
          go_wp2
          go_ret
          exact Yes.mk (by simp) (HM.out.drewN _).below
      · have ha := hm.pos ok (by omega)
        have c3 := fun n => cut_any g s 0 (wr.drewN n) (hM.drewN n).b ok
        have c4 := fun n => cut_any g s 100 (wr.drewN n) (hM.drewN n).b ok
        have q1 := cut_mono ok hPQ ha
        have q2 := cut_ge0 ok P ha
        have q3 := cut_le100 ok Q ha
        have q4 := hm.cut0 ok (by omega)
        have q5 := hm.cut100 ok (by omega)
        rw [decide_eq_true ha] at c1 c2 c3 c4
        rw [q4] at c3
        rw [q5] at c4
        obtain ⟨X, hX⟩ : ∃ X : Int, X = (s.cut P : Int) := ⟨_, rfl⟩
        obtain ⟨Y, hY⟩ : ∃ X : Int, X = (s.cut Q : Int) := ⟨_, rfl⟩
        rw [← hX] at c1
        rw [← hY] at c2
        have r1 : X ≤ Y := by omega
        have r2 : L ≤ X := by omega
        have r3 : Y ≤ M := by omega
        have C1 := Lib.hid c1
        have C2 := Lib.hid c2
        have C3 := Lib.hid c3
        have C4 := Lib.hid c4
        have HM := Lib.hid hM
        clear c1 c2 c3 c4 hM ok ha hm hlt hPQ q1 q2 q3 q4 q5 hX hY
        rcases HP.out with ⟨hxy, rfl, rfl⟩ | ⟨hxy, rfl, rfl⟩ <;>
        · go_wp2_with fail
          refine (C1.out 0).mono ?_
          rintro e w' ⟨rfl, n1, rfl⟩
          go_wp2_with fail
          refine (C2.out _).mono ?_
          rintro e w' ⟨rfl, n2, rfl⟩
          go_wp2_with fail
          refine (C3.out _).mono ?_
          rintro e w' ⟨rfl, n3, rfl⟩
          go_wp2_with fail
          refine (C4.out _).mono ?_
          rintro e w' ⟨rfl, n4, rfl⟩
          go_wp2
          go_ret
          exact Yes.mk (by simp) (HM.out.drewN _).below

set_option maxRecDepth 100000 in
set_option maxHeartbeats 8000000 in
theorem cuts_many (a : Option Addr) (len cap : Nat) (x y : Int) (w : World) (hl : 200 < len) (hm : len ≤ maxLen) : Calls Try.prog 8 #[.slice a len cap, .int .i64 x, .int .i64 y] w (Yes w) := by
  have hll : 200 < (len : Int) := by omega
  go_enter Try.func8, Try.ntmps8
  go_wp2_with fail
  refine (head_any _).mono ?_
  rintro e w1 ⟨rfl, hb1⟩
  have HB := Lib.hid hb1
  clear hb1
  go_wp2
  go_ret
  exact Yes.mk rfl HB.out

theorem cuts_walk (a : Option Addr) (len cap : Nat) (zs : List Int) (x y : Int) (w : World) (h : IsRow w a len cap zs) : Calls Try.prog 8 #[.slice a len cap, .int .i64 x, .int .i64 y] w (Yes w) := by
  by_cases hl : 200 < len
  · exact cuts_many a len cap x y w hl h.le
  · by_cases hxy : y < x
    · exact cuts_few a len cap _ x y y x w (.inl ⟨hxy, rfl, rfl⟩) (by omega) h.elems
    · exact cuts_few a len cap _ x y x y w (.inr ⟨by omega, rfl, rfl⟩) (by omega) h.elems

end Go.Proofs.Ytfdmkfoiooibiaa.Histo
