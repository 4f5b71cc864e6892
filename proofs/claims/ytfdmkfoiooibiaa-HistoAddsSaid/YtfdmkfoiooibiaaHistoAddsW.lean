/- Proved: the walk of the law HistoAdds: it answers true, for all slices and numbers. -/
import Derived.Test.YtfdmkfoiooibiaaHistoSame
namespace Go.Proofs.Ytfdmkfoiooibiaa.Histo
open Go.RowKit

theorem HW.grew {w wr w' : World} {g : Nat} {s : S} (h : HW w g s wr) (a : wr.grownBy w' none) : HW w g s w' :=
  ⟨h.b.grown a (by simp), h.below.grown a h.below.size (fun _ e => by cases e), h.new⟩
theorem zc : Try.zeroCells56 = mc (List.replicate 240 0) 0 := by kernel_rfl

set_option maxRecDepth 100000 in
set_option maxHeartbeats 8000000 in
theorem adds_few (a : Option Addr) (len cap : Nat) (xs : Nat → Int) (a1 : Option Addr) (len1 cap1 : Nat) (ys : Nat → Int) (p : Int) (w : World) (hl : len ≤ 40) (hl1 : len1 ≤ 40) (h : Elems w a len xs) (h1 : Elems w a1 len1 ys) : Calls Try.prog 12 #[.slice a len cap, .slice a1 len1 cap1, .int .i64 p] w (Yes w) := by
  have hll : ¬ 40 < (len : Int) := by omega
  have hll1 : ¬ 40 < (len1 : Int) := by omega
  have d0 : decide (40 < (len : Int)) = false := decide_eq_false hll
  have HE := Lib.hid h
  have HE1 := Lib.hid h1
  clear h h1
  go_enter Try.func12, Try.ntmps12
  go_wp2_with fail
  refine (head_any _).mono ?_
  rintro e w1 ⟨rfl, hb1⟩
  have k0 := HW.first w w1 hb1
  have nw := new_any w1
  obtain ⟨g, hg⟩ : ∃ g, g = w1.heap.size := ⟨_, rfl⟩
  rw [← hg] at k0 nw
  generalize w1.alloc (.cells (hc (List.replicate 240 0) 0 0) 68) = w0 at k0 nw
  have q0 := Blk.new w0 56 (mc (List.replicate 240 0) 0)
  have hlt := k0.b.lt
  have k0 : HW w g S.empty (w0.alloc (.cells (mc (List.replicate 240 0) 0) 56)) := ⟨k0.b.alloc _, k0.below.alloc k0.below.size _, k0.new⟩
  have ng := k0.new
  obtain ⟨g2, hg2⟩ : ∃ g, g = w0.heap.size := ⟨_, rfl⟩
  rw [← hg2] at q0 hlt
  have hne : g ≠ g2 := by omega
  have HREL : Hid (∃ s, Ok s ∧ HW w g s (w0.alloc (.cells (mc (List.replicate 240 0) 0) 56)) ∧ Blk (w0.alloc (.cells (mc (List.replicate 240 0) 0) 56)) g2 56 (mc s.bs s.o)) := Lib.hid ⟨S.empty, Ok.none, k0, q0⟩
  rw [← zc] at HREL
  have NW := Lib.hid nw
  have HNE := Lib.hid hne
  have NG2 := Lib.hid (show w.heap.size ≤ g2 by omega)
  have HG2 := Lib.hid hg2
  clear k0 nw hg hb1 q0 hlt hne ng
  go_wp2_with fail
  refine (NW.out).mono ?_
  rintro e w0 ⟨rfl, rfl⟩
  go_wp2_with fail
  rw [← hg2]
  clear hg2 HG2
  go_loopw [33] (fun iv wr => ∃ k : Nat, k ≤ len ∧ iv = .int .i64 k ∧ ∃ s, Ok s ∧ HW w g s wr ∧ Blk wr g2 56 (mc s.bs s.o)) (fun iv _ => len - (intOf iv).toNat)
  case atStart => exact ⟨0, by omega, rfl, HREL.out⟩
  case round =>
    clear HREL
    obtain ⟨k, hk, rfl, hrel⟩ := hrel
    by_cases hlt : k < len
    · have HREL := Lib.hid hrel
      obtain ⟨b, off, rfl, hb, hc⟩ := HE.out k hlt
      have c1 : wr.cell? ⟨b, off + k, none⟩ = some (.int .i64 (xs k)) := by obtain ⟨s, ok, hM, hM2⟩ := hrel; rw [hM.below.cell (p := ⟨b, off + k, none⟩) hb]; exact hc k hlt
      obtain ⟨v, hv⟩ : ∃ v, v = xs k := ⟨_, rfl⟩
      rw [← hv] at c1
      clear hv hb hc
      by_cases hlt1 : k < len1
      · obtain ⟨b1, off1, rfl, hb1, hc1⟩ := HE1.out k hlt1
        have c2 : wr.cell? ⟨b1, off1 + k, none⟩ = some (.int .i64 (ys k)) := by obtain ⟨s, ok, hM, hM2⟩ := hrel; rw [hM.below.cell (p := ⟨b1, off1 + k, none⟩) hb1]; exact hc1 k hlt1
        obtain ⟨N, hN⟩ : ∃ N : Nat, (N : Int) = ys k % 64 := ⟨(ys k % 64).toNat, by omega⟩
        have e1 : Go.bits .and .i64 (ys k) 63 = (N : Int) := by rw [and_63, hN]
        have hN1 : N ≤ 63 := by omega
        obtain ⟨y, hy⟩ : ∃ v, v = ys k := ⟨_, rfl⟩
        rw [← hy] at c2 e1
        clear hN hy hb1 hc1 hrel
        go_wp2_with fail

        go_loopw [12] (fun iv wr => ∃ j : Nat, j ≤ N ∧ iv = .int .i64 j ∧ ∃ s, Ok s ∧ HW w g s wr ∧ Blk wr g2 56 (mc s.bs s.o)) (fun iv _ => N - (intOf iv).toNat)
        case atStart => exact ⟨0, by omega, rfl, HREL.out⟩
        case round =>
          obtain ⟨j, hj, rfl, s, ok, hM, hM2⟩ := hrel
          by_cases hlj : j < N
          · have A := Lib.hid (add_any g v _ wr hM.b ok)
            have HM := Lib.hid hM
            have HM2 := Lib.hid hM2
            have OK := Lib.hid ok
            clear hM hM2 ok
            go_wp2_with fail
            refine (A.out).mono ?_
            intro e w2 ha
            have k2 := HM.out.adds ha
            have m2 := HM2.out.grown ha.2.2 (fun h => HNE.out (by injection h with h; exact h.symm))
            obtain ⟨rfl, -, -⟩ := ha
            have A2 := Lib.hid (madd_any g2 v _ w2 m2 OK.out)
            have K2 := Lib.hid k2
            have M2 := Lib.hid m2
            clear k2 m2
            go_wp2_with fail
            refine (A2.out).mono ?_
            intro e w3 ha
            have hrel2 : ∃ s, Ok s ∧ HW w g s w3 ∧ Blk w3 g2 56 (mc s.bs s.o) :=
              ⟨_, OK.out.add v, ⟨K2.out.b.grown ha.2.2 (fun h => HNE.out (by injection h)), below_only K2.out.below ha.2.2 NG2.out K2.out.below.size, K2.out.new⟩, ha.2.1⟩
            have HR := Lib.hid hrel2
            obtain ⟨rfl, -, -⟩ := ha
            clear hrel2
            go_wp2
            go_roundw
            case rel => exact ⟨j + 1, by omega, by go_num, HR.out⟩
            case measure => simp [intOf]; omega
          · obtain rfl : j = N := by omega
            have HR := Lib.hid (⟨s, ok, hM, hM2⟩ : ∃ s, Ok s ∧ HW w g s wr ∧ Blk wr g2 56 (mc s.bs s.o))
            clear hM hM2 ok
            go_wp2
            go_roundw
            case rel => exact ⟨k + 1, by omega, by go_num, HR.out⟩
            case measure => simp [intOf]; omega
      · clear hrel
        go_wp2_with fail

        go_loopw [12] (fun iv wr => ∃ j : Nat, j ≤ 1 ∧ iv = .int .i64 j ∧ ∃ s, Ok s ∧ HW w g s wr ∧ Blk wr g2 56 (mc s.bs s.o)) (fun iv _ => 1 - (intOf iv).toNat)
        case atStart => exact ⟨0, by omega, rfl, HREL.out⟩
        case round =>
          obtain ⟨j, hj, rfl, s, ok, hM, hM2⟩ := hrel
          by_cases hlj : j < 1
          · have A := Lib.hid (add_any g v _ wr hM.b ok)
            have HM := Lib.hid hM
            have HM2 := Lib.hid hM2
            have OK := Lib.hid ok
            clear hM hM2 ok
            go_wp2_with fail
            refine (A.out).mono ?_
            intro e w2 ha
            have k2 := HM.out.adds ha
            have m2 := HM2.out.grown ha.2.2 (fun h => HNE.out (by injection h with h; exact h.symm))
            obtain ⟨rfl, -, -⟩ := ha
            have A2 := Lib.hid (madd_any g2 v _ w2 m2 OK.out)
            have K2 := Lib.hid k2
            have M2 := Lib.hid m2
            clear k2 m2
            go_wp2_with fail
            refine (A2.out).mono ?_
            intro e w3 ha
            have hrel2 : ∃ s, Ok s ∧ HW w g s w3 ∧ Blk w3 g2 56 (mc s.bs s.o) :=
              ⟨_, OK.out.add v, ⟨K2.out.b.grown ha.2.2 (fun h => HNE.out (by injection h)), below_only K2.out.below ha.2.2 NG2.out K2.out.below.size, K2.out.new⟩, ha.2.1⟩
            have HR := Lib.hid hrel2
            obtain ⟨rfl, -, -⟩ := ha
            clear hrel2
            go_wp2
            go_roundw
            case rel => exact ⟨j + 1, by omega, by go_num, HR.out⟩
            case measure => simp [intOf]; omega
          · obtain rfl : j = 1 := by omega
            have HR := Lib.hid (⟨s, ok, hM, hM2⟩ : ∃ s, Ok s ∧ HW w g s wr ∧ Blk wr g2 56 (mc s.bs s.o))
            clear hM hM2 ok
            go_wp2
            go_roundw
            case rel => exact ⟨k + 1, by omega, by go_num, HR.out⟩
            case measure => simp [intOf]; omega
    · obtain rfl : k = len := by omega
      obtain ⟨s, ok, hM, hM2⟩ := hrel
      have c1 := fun n => cut_any g s p (wr.drewN n) (hM.drewN n).b ok
      have c2 := fun n => mcut_any g2 s (pc p) (wr.drewN n) (hM2.drewN n) ok (by unfold pc; omega) (by unfold pc; omega)
      have c3 := fun n => same_any g2 g s (wr.drewN n) (hM.drewN n).b (hM2.drewN n) ok
      rw [cut_pc (show pc (pc p) = pc p by unfold pc; omega)] at c2
      obtain ⟨X, hX⟩ : ∃ X : Int, X = (s.cut p : Int) := ⟨_, rfl⟩
      obtain ⟨B, hB⟩ : ∃ X : Bool, X = decide (0 < s.a) := ⟨_, rfl⟩
      obtain ⟨P, hP⟩ : ∃ P, P = pc p := ⟨_, rfl⟩
      rw [← hX, ← hB] at c1 c2
      rw [← hP] at c2
      unfold pc at hP
      have HM := Lib.hid hM
      have HM2 := Lib.hid hM2
      have OK := Lib.hid ok
      have C1 := Lib.hid c1
      have C3 := Lib.hid c3
      clear c1 c3 hM hM2 ok hX hB hlt hk
      by_cases p1 : p < 0
      · obtain rfl : P = 0 := by omega
        have C2 := Lib.hid c2
        clear c2 hP
        cases B <;>
        · go_wp2_with fail
          refine (C1.out 0).mono ?_
          rintro e w' ⟨rfl, n1, rfl⟩
          go_wp2_with fail
          refine (C2.out _).mono ?_
          rintro e w' ⟨rfl, n2, rfl⟩
          go_wp2_with fail
          refine (C3.out _).mono ?_
          rintro e w5 ⟨rfl, hG⟩
          have k5 := (HM.out.drewN _).grew hG
          have m5 : Blk w5 g2 56 (mc s.bs s.o) := Blk.grown (HM2.out.drewN _) hG (by simp)
          have c4 := fun n => spread_any g s (w5.drewN n) (k5.drewN n).b OK.out
          have c5 := fun n => mspread_any g2 s (w5.drewN n) (m5.drewN n) OK.out
          generalize s.spread = Sp at c4 c5
          have C4 := Lib.hid c4
          have C5 := Lib.hid c5
          have K5 := Lib.hid k5
          clear c4 c5 k5 m5 hG
          go_wp2_with fail
          refine (C4.out 0).mono ?_
          rintro e w' ⟨rfl, n3, rfl⟩
          go_wp2_with fail
          refine (C5.out _).mono ?_
          rintro e w' ⟨rfl, n4, rfl⟩
          go_wp2
          go_ret
          exact Yes.mk (by simp) (K5.out.drewN _).below
      · by_cases p2 : 100 < p
        · obtain rfl : P = 100 := by omega
          have C2 := Lib.hid c2
          clear c2 hP
          cases B <;>
          · go_wp2_with fail
            refine (C1.out 0).mono ?_
            rintro e w' ⟨rfl, n1, rfl⟩
            go_wp2_with fail
            refine (C2.out _).mono ?_
            rintro e w' ⟨rfl, n2, rfl⟩
            go_wp2_with fail
            refine (C3.out _).mono ?_
            rintro e w5 ⟨rfl, hG⟩
            have k5 := (HM.out.drewN _).grew hG
            have m5 : Blk w5 g2 56 (mc s.bs s.o) := Blk.grown (HM2.out.drewN _) hG (by simp)
            have c4 := fun n => spread_any g s (w5.drewN n) (k5.drewN n).b OK.out
            have c5 := fun n => mspread_any g2 s (w5.drewN n) (m5.drewN n) OK.out
            generalize s.spread = Sp at c4 c5
            have C4 := Lib.hid c4
            have C5 := Lib.hid c5
            have K5 := Lib.hid k5
            clear c4 c5 k5 m5 hG
            go_wp2_with fail
            refine (C4.out 0).mono ?_
            rintro e w' ⟨rfl, n3, rfl⟩
            go_wp2_with fail
            refine (C5.out _).mono ?_
            rintro e w' ⟨rfl, n4, rfl⟩
            go_wp2
            go_ret
            exact Yes.mk (by simp) (K5.out.drewN _).below
        · obtain rfl : P = p := by omega
          have C2 := Lib.hid c2
          clear c2 hP
          cases B <;>
          · go_wp2_with fail
            refine (C1.out 0).mono ?_
            rintro e w' ⟨rfl, n1, rfl⟩
            go_wp2_with fail
            refine (C2.out _).mono ?_
            rintro e w' ⟨rfl, n2, rfl⟩
            go_wp2_with fail
            refine (C3.out _).mono ?_
            rintro e w5 ⟨rfl, hG⟩
            have k5 := (HM.out.drewN _).grew hG
            have m5 : Blk w5 g2 56 (mc s.bs s.o) := Blk.grown (HM2.out.drewN _) hG (by simp)
            have c4 := fun n => spread_any g s (w5.drewN n) (k5.drewN n).b OK.out
            have c5 := fun n => mspread_any g2 s (w5.drewN n) (m5.drewN n) OK.out
            generalize s.spread = Sp at c4 c5
            have C4 := Lib.hid c4
            have C5 := Lib.hid c5
            have K5 := Lib.hid k5
            clear c4 c5 k5 m5 hG
            go_wp2_with fail
            refine (C4.out 0).mono ?_
            rintro e w' ⟨rfl, n3, rfl⟩
            go_wp2_with fail
            refine (C5.out _).mono ?_
            rintro e w' ⟨rfl, n4, rfl⟩
            go_wp2
            go_ret
            exact Yes.mk (by simp) (K5.out.drewN _).below

set_option maxRecDepth 100000 in
set_option maxHeartbeats 8000000 in
theorem adds_many (a : Option Addr) (len cap : Nat) (a1 : Option Addr) (len1 cap1 : Nat) (x : Int) (w : World) (hl : 40 < len ∨ 40 < len1) (_ : len ≤ maxLen) (_ : len1 ≤ maxLen) : Calls Try.prog 12 #[.slice a len cap, .slice a1 len1 cap1, .int .i64 x] w (Yes w) := by
  by_cases h : 40 < len
  · have hll : 40 < (len : Int) := by omega
    have d0 : decide (40 < (len : Int)) = true := decide_eq_true hll
    go_enter Try.func12, Try.ntmps12
    go_wp2_with fail
    refine (head_any _).mono ?_
    rintro e w1 ⟨rfl, hb1⟩
    have HB := Lib.hid hb1
    clear hb1
    go_wp2
    go_ret
    exact Yes.mk rfl HB.out
  · have hll : ¬ 40 < (len : Int) := by omega
    have d0 : decide (40 < (len : Int)) = false := decide_eq_false hll
    have hll1 : 40 < (len1 : Int) := by omega
    go_enter Try.func12, Try.ntmps12
    go_wp2_with fail
    refine (head_any _).mono ?_
    rintro e w1 ⟨rfl, hb1⟩
    have HB := Lib.hid hb1
    clear hb1
    go_wp2
    go_ret
    exact Yes.mk rfl HB.out

theorem adds_walk (a : Option Addr) (len cap : Nat) (zs : List Int) (a1 : Option Addr) (len1 cap1 : Nat) (zs1 : List Int) (x : Int) (w : World) (h : IsRow w a len cap zs) (h1 : IsRow w a1 len1 cap1 zs1) : Calls Try.prog 12 #[.slice a len cap, .slice a1 len1 cap1, .int .i64 x] w (Yes w) := by
  by_cases hl : 40 < len ∨ 40 < len1
  · exact adds_many a len cap a1 len1 cap1 x w hl h.le h1.le
  · exact adds_few a len cap _ a1 len1 cap1 _ x w (by omega) (by omega) h.elems h1.elems

end Go.Proofs.Ytfdmkfoiooibiaa.Histo
