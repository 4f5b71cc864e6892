/- Proved: the walk of the law HistoOvers: it answers true, for all slices and numbers. -/
import Derived.Test.YtfdmkfoiooibiaaHistoRow
namespace Go.Proofs.Ytfdmkfoiooibiaa.Histo
open Go.RowKit

theorem cut_same {s t : S} (ok : Ok s) (ok2 : Ok t) (h1 : t.bs = s.bs) (h2 : t.a = s.a) (p : Int) : t.cut p = s.cut p := by
  by_cases ha : 0 < s.a
  · have f := cut_first ok p ha
    have key : ∀ j, Stop t (pc p) j ↔ Stop s (pc p) j := fun j => by unfold Stop; rw [h1, h2]
    exact cut_of ⟨f.lt, (key _).2 f.yes, fun j hj hs => f.no j hj ((key j).1 hs)⟩
  · have h0 : s.a = 0 := by have := ok.a0; omega
    rw [cut_zero ok p h0, cut_zero ok2 p (by omega)]
theorem spread_same {s t : S} (h1 : t.bs = s.bs) (h2 : t.a = s.a) : t.spread = s.spread := by unfold S.spread; rw [h1, h2]

/-- A histogram behind those of the first k idle times that are counted one by one. -/
def ot (xs : Nat → Int) : Nat → S | 0 => S.empty | k + 1 => if 0 ≤ xs k ∧ xs k < 240 then (ot xs k).add (xs k) else ot xs k
theorem ot_ok (xs : Nat → Int) : ∀ k, Ok (ot xs k)
  | 0 => Ok.none
  | k + 1 => by
    show Ok (if _ then _ else _)
    split
    · exact (ot_ok xs k).add _
    · exact ot_ok xs k
theorem ot_few (xs : Nat → Int) : ∀ k, k ≤ 4000 → (ot xs k).o = 0 ∧ (ot xs k).a ≤ k
  | 0, _ => by simp [ot, S.empty]
  | k + 1, h => by
    have h1 := ot_few xs k (by omega)
    have h2 := (ot_ok xs k).raw_all (xs k)
    show (if _ then _ else _ : S).o = 0 ∧ (if _ then _ else _ : S).a ≤ _
    by_cases hx : 0 ≤ xs k ∧ xs k < 240
    · rw [if_pos hx, (ot_ok xs k).add_few (by omega), if_neg (by omega)]
      unfold S.raw at h2 ⊢
      rw [if_pos (by omega)] at h2 ⊢
      simp only at h2 ⊢
      omega
    · rw [if_neg hx]; omega
/-- The same with j idle times beyond the bins. -/
def S.beyond (s : S) (j : Nat) : S := ⟨s.bs, s.a, j⟩
theorem Ok.beyond_next {s : S} {j : Nat} (h : Ok (s.beyond j)) (ha : s.a ≤ 200) (hj : j < 300) : (s.beyond j).add (240 + (j : Int)) = s.beyond (j + 1) := by
  rw [h.add_few (by show s.a + (j : Int) < _; omega), if_neg (by omega)]
  unfold S.raw
  rw [if_neg (by omega)]
  rfl
theorem beyond_ok {s : S} (h : Ok s) (ho : s.o = 0) (ha : s.a ≤ 200) : ∀ j, j ≤ 300 → Ok (s.beyond j)
  | 0, _ => by
    have e : s.beyond 0 = s := by cases s; simp only at ho; subst ho; rfl
    rw [e]; exact h
  | j + 1, hj => by
    have ih := beyond_ok h ho ha j (by omega)
    rw [← ih.beyond_next ha (by omega)]
    exact ih.add _

set_option maxRecDepth 100000 in
set_option maxHeartbeats 8000000 in
theorem overs_few (a : Option Addr) (len cap : Nat) (xs : Nat → Int) (n0 p : Int) (w : World) (hl : len ≤ 200) (h : Elems w a len xs) : Calls Try.prog 11 #[.slice a len cap, .int .i64 n0, .int .i64 p] w (Yes w) := by
  obtain ⟨N, hN⟩ : ∃ M : Nat, (M : Int) = n0 % 256 := ⟨(n0 % 256).toNat, by omega⟩
  have e1 : Go.bits .and .i64 n0 255 = (N : Int) := by rw [and_255, hN]
  have hN1 : N ≤ 255 := by omega
  have hll : ¬ 200 < (len : Int) := by omega
  have HE := Lib.hid h
  clear h hN
  go_enter Try.func11, Try.ntmps11
  go_wp2_with fail
  refine (head_any _).mono ?_
  rintro e w1 ⟨rfl, hb1⟩
  have k0 := HW.first w w1 hb1
  have nw := new_any w1
  obtain ⟨g, hg⟩ : ∃ g, g = w1.heap.size := ⟨_, rfl⟩
  rw [← hg] at k0 nw
  generalize w1.alloc (.cells (hc (List.replicate 240 0) 0 0) 68) = w0 at k0 nw
  have q0 := HW.first w w0 k0.below
  have nw2 := new_any w0
  have hlt := k0.b.lt
  have k0 : HW w g S.empty (w0.alloc (.cells (hc (List.replicate 240 0) 0 0) 68)) := ⟨k0.b.alloc _, q0.below, k0.new⟩
  obtain ⟨g2, hg2⟩ : ∃ g, g = w0.heap.size := ⟨_, rfl⟩
  rw [← hg2] at q0 nw2 hlt
  generalize w0.alloc (.cells (hc (List.replicate 240 0) 0 0) 68) = w2 at q0 nw2 k0
  have hne : g ≠ g2 := by omega
  have K0 := Lib.hid k0
  have Q0 := Lib.hid q0
  have NW := Lib.hid nw
  have NW2 := Lib.hid nw2
  have HNE := Lib.hid hne
  clear k0 nw hg hb1 q0 nw2 hlt hg2 hne
  go_wp2_with fail
  refine (NW.out).mono ?_
  rintro e w0 ⟨rfl, rfl⟩
  go_wp2_with fail
  refine (NW2.out).mono ?_
  rintro e w2 ⟨rfl, rfl⟩
  go_wp2_with fail
  go_loopw [27] (fun iv wr => ∃ k : Nat, k ≤ len ∧ iv = .int .i64 k ∧ HW w g (ot xs k) wr ∧ HW w g2 (ot xs k) wr) (fun iv _ => len - (intOf iv).toNat)
  case atStart => exact ⟨0, by omega, rfl, K0.out, Q0.out⟩
  case round =>
    obtain ⟨k, hk, rfl, hM, hM2⟩ := hrel
    have ok := ot_ok xs k
    by_cases hlt : k < len
    · obtain ⟨b, off, rfl, hb, hc⟩ := HE.out k hlt
      have c1 : wr.cell? ⟨b, off + k, none⟩ = some (.int .i64 (xs k)) := by rw [hM.below.cell (p := ⟨b, off + k, none⟩) hb]; exact hc k hlt
      have eS : ot xs (k + 1) = if 0 ≤ xs k ∧ xs k < 240 then (ot xs k).add (xs k) else ot xs k := rfl
      have A := Lib.hid (add_any g (xs k) _ wr hM.b ok)
      obtain ⟨v, hv⟩ : ∃ v, v = xs k := ⟨_, rfl⟩
      rw [← hv] at A c1 eS
      have ES := Lib.hid eS
      have HM := Lib.hid hM
      have HM2 := Lib.hid hM2
      have OK := Lib.hid ok
      clear hM hM2 ok hv eS hb hc
      by_cases h0 : 0 ≤ v
      · by_cases h1 : v < 240
        · go_wp2_with fail
          refine (A.out).mono ?_
          intro e w2 ha
          have k2 := HM.out.adds ha
          have q2 := HM2.out.other HM.out ha (fun h => HNE.out h.symm)
          obtain ⟨rfl, -, -⟩ := ha
          have A2 := Lib.hid (add_any g2 v _ w2 q2.b OK.out)
          have K2 := Lib.hid k2
          have Q2 := Lib.hid q2
          clear k2 q2
          go_wp2_with fail
          refine (A2.out).mono ?_
          intro e w3 ha
          have k3 := K2.out.other Q2.out ha HNE.out
          have q3 := Q2.out.adds ha
          obtain ⟨rfl, -, -⟩ := ha
          have K3 := Lib.hid k3
          have Q3 := Lib.hid q3
          clear k3 q3
          go_wp2
          go_roundw
          case rel => exact ⟨k + 1, by omega, by go_num, by rw [ES.out, if_pos ⟨h0, h1⟩]; exact K3.out, by rw [ES.out, if_pos ⟨h0, h1⟩]; exact Q3.out⟩
          case measure => simp [intOf]; omega
        · go_wp2
          go_roundw
          case rel => exact ⟨k + 1, by omega, by go_num, by rw [ES.out, if_neg (by omega)]; exact HM.out, by rw [ES.out, if_neg (by omega)]; exact HM2.out⟩
          case measure => simp [intOf]; omega
      · go_wp2
        go_roundw
        case rel => exact ⟨k + 1, by omega, by go_num, by rw [ES.out, if_neg (by omega)]; exact HM.out, by rw [ES.out, if_neg (by omega)]; exact HM2.out⟩
        case measure => simp [intOf]; omega
    · obtain rfl : k = len := by omega
      have hf := ot_few xs k (by omega)
      obtain ⟨s, hs⟩ : ∃ s, s = ot xs k := ⟨_, rfl⟩
      rw [← hs] at hf hM hM2 ok
      have hb0 := beyond_ok ok hf.1 (by omega)
      have e : s.beyond 0 = s := by have := hf.1; cases s; simp only at this; subst this; rfl
      have hM2' : HW w g2 (s.beyond 0) wr := by rw [e]; exact hM2
      have ha : s.a ≤ 200 := by omega
      obtain ⟨w6, hw6⟩ : ∃ w6 : World, w6 = wr := ⟨_, rfl⟩
      rw [← hw6] at hM hM2' ⊢
      have OK := Lib.hid ok
      have BO := Lib.hid hb0
      have HM := Lib.hid hM
      have HM2 := Lib.hid hM2'
      have HA := Lib.hid ha
      clear hM hM2 hM2' hb0 ok hs e hlt hf ha hw6
      go_wp2_with fail
      go_loopw [11] (fun iv wr => ∃ j : Nat, j ≤ N ∧ iv = .int .i64 j ∧ HW w g s wr ∧ HW w g2 (s.beyond j) wr) (fun iv _ => N - (intOf iv).toNat)
      case atStart => exact ⟨0, by omega, rfl, HM.out, HM2.out⟩
      case round =>
        obtain ⟨j, hj, rfl, hM, hM2⟩ := hrel
        by_cases hlt : j < N
        · have A := Lib.hid (add_any g2 (240 + (j : Int)) _ wr hM2.b (BO.out j (by omega)))
          have HM := Lib.hid hM
          have HM2 := Lib.hid hM2
          clear hM hM2
          go_wp2_with fail
          refine (A.out).mono ?_
          intro e w2 ha
          have k2 := HM.out.other HM2.out ha HNE.out
          have q2 := HM2.out.adds ha
          rw [(BO.out j (by omega)).beyond_next HA.out (by omega)] at q2
          obtain ⟨rfl, -, -⟩ := ha
          have K2 := Lib.hid k2
          have Q2 := Lib.hid q2
          clear k2 q2
          go_wp2
          go_roundw
          case rel => exact ⟨j + 1, by omega, by go_num, K2.out, Q2.out⟩
          case measure => simp [intOf]; omega
        · obtain rfl : j = N := by omega
          have okb := BO.out j (by omega)
          have c1 := fun n => cut_any g s p (wr.drewN n) (hM.drewN n).b OK.out
          have c2 := fun n => cut_any g2 _ p (wr.drewN n) (hM2.drewN n).b okb
          rw [cut_same OK.out okb rfl rfl] at c2
          have c3 := fun n => in_any g _ _ _ (wr.drewN n) (hM.drewN n).b OK.out.len
          have c4 := fun n => in_any g2 _ _ _ (wr.drewN n) (hM2.drewN n).b okb.len
          have c5 := fun n => over_any g2 _ _ _ (wr.drewN n) (hM2.drewN n).b okb.len
          have c6 := fun n => spread_any g s (wr.drewN n) (hM.drewN n).b OK.out
          have c7 := fun n => spread_any g2 _ (wr.drewN n) (hM2.drewN n).b okb
          rw [spread_same (s := s) (t := s.beyond j) rfl rfl] at c7
          have c2 : ∀ n, Calls Try.prog 26 #[.pointer (some ⟨g2, 0, none⟩), .int .i64 p] (wr.drewN n) (RetC (s.cut p : Int) (decide (0 < s.a)) (wr.drewN n)) := c2
          change ∀ n, Calls Try.prog 23 #[.pointer (some ⟨g2, 0, none⟩)] (wr.drewN n) _ at c4
          simp only [S.beyond] at c4 c5
          obtain ⟨X, hX⟩ : ∃ X : Int, X = (s.cut p : Int) := ⟨_, rfl⟩
          obtain ⟨Y, hY⟩ : ∃ X : Int, X = s.a := ⟨_, rfl⟩
          obtain ⟨Z, hZ⟩ : ∃ X : Bool, X = s.spread := ⟨_, rfl⟩
          obtain ⟨B, hB⟩ : ∃ X : Bool, X = decide (0 < s.a) := ⟨_, rfl⟩
          rw [← hX, ← hB] at c1 c2
          rw [← hY] at c3 c4
          rw [← hZ] at c6 c7
          have C1 := Lib.hid c1
          have C2 := Lib.hid c2
          have C3 := Lib.hid c3
          have C4 := Lib.hid c4
          have C5 := Lib.hid c5
          have C6 := Lib.hid c6
          have C7 := Lib.hid c7
          have HM := Lib.hid hM
          clear c1 c2 c3 c4 c5 c6 c7 hM hM2 okb hX hY hZ hB hlt hj
          cases B <;>
          · go_wp2_with fail
            refine (C1.out 0).mono ?_
            rintro e w' ⟨rfl, n1, rfl⟩
            go_wp2_with fail
            refine (C2.out _).mono ?_
            rintro e w' ⟨rfl, n2, rfl⟩
            go_wp2_with fail
            refine (C3.out _).mono ?_
            rintro e w' ⟨rfl, n3, rfl⟩
            go_wp2_with fail
            refine (C4.out _).mono ?_
            rintro e w' ⟨rfl, n4, rfl⟩
            go_wp2_with fail
            refine (C5.out _).mono ?_
            rintro e w' ⟨rfl, n5, rfl⟩
            go_wp2_with fail
            refine (C6.out _).mono ?_
            rintro e w' ⟨rfl, n6, rfl⟩
            go_wp2_with fail
            refine (C7.out _).mono ?_
            rintro e w' ⟨rfl, n7, rfl⟩
            go_wp2
            go_ret
            exact Yes.mk (by simp) (HM.out.drewN _).below

set_option maxRecDepth 100000 in
set_option maxHeartbeats 8000000 in
theorem overs_many (a : Option Addr) (len cap : Nat) (x y : Int) (w : World) (hl : 200 < len) (_ : len ≤ maxLen) : Calls Try.prog 11 #[.slice a len cap, .int .i64 x, .int .i64 y] w (Yes w) := by
  have hll : 200 < (len : Int) := by omega
  go_enter Try.func11, Try.ntmps11
  go_wp2_with fail
  refine (head_any _).mono ?_
  rintro e w1 ⟨rfl, hb1⟩
  have HB := Lib.hid hb1
  clear hb1
  go_wp2
  go_ret
  exact Yes.mk rfl HB.out

theorem overs_walk (a : Option Addr) (len cap : Nat) (zs : List Int) (x y : Int) (w : World) (h : IsRow w a len cap zs) : Calls Try.prog 11 #[.slice a len cap, .int .i64 x, .int .i64 y] w (Yes w) := by
  by_cases hl : 200 < len
  · exact overs_many a len cap x y w hl h.le
  · exact overs_few a len cap _ x y w (by omega) h.elems

end Go.Proofs.Ytfdmkfoiooibiaa.Histo
