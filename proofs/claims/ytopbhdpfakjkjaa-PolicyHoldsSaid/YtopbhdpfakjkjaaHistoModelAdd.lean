/- Proved: what the law's own Model's Add leaves. -/
import Derived.Test.YtopbhdpfakjkjaaHistoModelCut
import Derived.Test.YtopbhdpfakjkjaaHistoOnesW
namespace Go.Proofs.Ytopbhdpfakjkjaa.Histo
open Go.RowKit

/-- What the halving loop keeps. -/
structure MI (w : World) (g : Nat) (bs : List Int) (o : Int) (k : Nat) (wr : World) : Prop where
  b : Blk wr g 31 (mc (halfTo bs k) o)
  only : w.grownBy wr (some g)
/-- The post of Add. -/
def MAdds (w : World) (g : Nat) (s' : S) (e : Ending) (w' : World) : Prop := e = .returned (.tuple #[]) ∧ Blk w' g 31 (mc s'.bs s'.o) ∧ w.grownBy w' (some g)

set_option maxRecDepth 100000 in
set_option maxHeartbeats 2000000 in
theorem madd_neg (g : Nat) (s : S) (t : Int) (w : World) (h : Blk w g 31 (mc s.bs s.o)) (ht : t < 0) : Calls Try.prog 15 #[.pointer (some ⟨g, 0, none⟩), .int .i64 t] w (MAdds w g s) := by
  have H := Lib.hid h
  clear h
  go_enter Try.func15, Try.ntmps15
  go_wp2
  first | go_end0 | refine bodyPost_ret (results_none rfl _ _ _) rfl ?_
  exact ⟨rfl, H.out, only_refl w _⟩

set_option maxRecDepth 100000 in
set_option maxHeartbeats 4000000 in
theorem madd_in (g i : Nat) (t : Int) (ht : t = i) (s : S) (w : World) (h : Blk w g 31 (mc s.bs s.o)) (ok : Ok s) (hi : i < 240) : Calls Try.prog 15 #[.pointer (some ⟨g, 0, none⟩), .int .i64 (i : Int)] w (MAdds w g (s.add t)) := by
  have hraw : s.raw t = ⟨s.bs.set i (s.bs.getD i 0 + 1), s.a + 1, s.o⟩ := by unfold S.raw; rw [if_pos (by omega), ht]; simp
  have hadd : s.add t = if (s.raw t).a + (s.raw t).o ≥ 4096 then (s.raw t).half else s.raw t := by unfold S.add; rw [if_neg (by omega)]
  have hi' : i < s.bs.length := by rw [ok.len]; exact hi
  have hlen := ok.raw_len t
  have hpos := ok.raw_pos t
  have hsum := ok.raw_sum (show 0 ≤ t by omega)
  have hall : 0 ≤ (s.raw t).o ∧ 0 ≤ (s.raw t).a ∧ (s.raw t).a + (s.raw t).o ≤ 4096 := by have := ok.raw_all t; have := ok.few; omega
  obtain ⟨x, hx⟩ : ∃ x, x = s.bs.getD i 0 := ⟨_, rfl⟩
  have hxb := ok.bd _ (getD_mem hi')
  rw [← hx] at hxb
  obtain ⟨x0, x1⟩ := hxb
  have c1 : w.cell? ⟨g, i, none⟩ = some (.int .i64 x) := by rw [h.cell, mc_get hi', hx]
  have f1 := h.frozen i
  have b1 : Blk ((w.setCell ⟨g, i, none⟩ (.int .i64 (x + 1))).drew) g 31 (mc (s.raw t).bs (s.raw t).o) := by
    have q := h.set_ i (.int .i64 (x + 1))
    rw [mc_set hi'] at q
    rw [hraw, ← hx]
    exact q
  have q1 : w.grownBy ((w.setCell ⟨g, i, none⟩ (.int .i64 (x + 1))).drew) (some g) := only_drew (only_setCell (p := ⟨g, i, none⟩) (only_refl w _) (.inl rfl) _)
  have hne : ¬ i = 240 := by omega
  have B0 := Lib.hid b1
  have Q0 := Lib.hid q1
  have L := Lib.hid (And.intro hlen (And.intro hpos (And.intro hsum (And.intro hall hadd))))
  clear h ok hx hraw hi' hadd hlen hpos hsum hall b1 q1 ht
  go_enter Try.func15, Try.ntmps15
  go_wp2
  go_region
  go_wp2
  obtain ⟨w1, hw1⟩ : ∃ w1, w1 = (w.setCell ⟨g, i, none⟩ (.int .i64 (x + 1))).drew := ⟨_, rfl⟩
  rw [← hw1]
  have b1 := B0.out
  have q1 := Q0.out
  rw [← hw1] at b1 q1
  obtain ⟨hlen, hpos, hsum, hall, hadd⟩ := L.out
  clear c1 hw1 f1
  obtain ⟨R, hR⟩ : ∃ R, R = s.raw t := ⟨_, rfl⟩
  rw [← hR] at b1 hlen hpos hsum hall hadd
  have c3 : w1.cell? ⟨g, 240, none⟩ = some (.int .i64 R.o) := by rw [b1.cell, mc_over hlen]
  have cm := fun n => min_any g R.bs R.o (w1.drewN n) (b1.drewN n) hlen hpos
  rw [← hsum] at cm
  obtain ⟨A', hA'⟩ : ∃ A', A' = R.a := ⟨_, rfl⟩
  obtain ⟨O', hO'⟩ : ∃ O', O' = R.o := ⟨_, rfl⟩
  have h0 : 0 ≤ O' ∧ 0 ≤ A' ∧ A' + O' ≤ 4096 := by rw [hA', hO']; omega
  obtain ⟨o0, a0, ao⟩ := h0
  have hadd2 : s.add t = if A' + O' ≥ 4096 then R.half else R := by rw [hA', hO']; exact hadd
  rw [← hA'] at cm
  rw [← hO'] at c3 b1
  have HLEN := Lib.hid hlen
  have HPOS := Lib.hid hpos
  have HH := Lib.hid (halfTo_all R.bs hlen)
  obtain ⟨Z, hZ⟩ : ∃ Z, A' + O' = Z := ⟨_, rfl⟩
  rw [hZ] at hadd2 ao
  have a2 : A' ≤ 4096 := by omega
  have o2 : O' ≤ 4096 := by omega
  have B1 := Lib.hid b1
  have Q1 := Lib.hid q1
  have CM := Lib.hid cm
  have HA := Lib.hid hadd2
  have HO := Lib.hid hO'
  clear b1 q1 cm hadd hadd2 hlen hpos hsum hall hA' hR hO'
  by_cases hfull : Z = 4096
  · have d1 : (Z == 4096) = true := bq hfull
    go_quiet (first | (go_at_call 26; exact Calls.quiet_of (CM.out _)))
    obtain ⟨w2, hw2⟩ : ∃ w2, w2 = w1.drewN nq := ⟨_, rfl⟩
    rw [← hw2]
    have b2 : MI w g R.bs O' 0 w2 := by rw [hw2]; exact ⟨B1.out.drewN _, only_drewN Q1.out _⟩
    have B2 := Lib.hid b2
    clear b2 hw2 c3
    go_wp2
    go_loopw [34] (fun i wr => ∃ k : Nat, k ≤ 240 ∧ i = .int .i64 k ∧ MI w g R.bs O' k wr) (fun i _ => 240 - (intOf i).toNat)
    case atStart => exact ⟨0, by omega, rfl, B2.out⟩
    case round =>
      obtain ⟨k, hk, rfl, hM⟩ := hrel
      by_cases hlt : k < 240
      · have hk' : k < R.bs.length := by rw [HLEN.out]; exact hlt
        have hx := HPOS.out _ (getD_mem hk')
        obtain ⟨x, hxv⟩ : ∃ x, x = R.bs.getD k 0 := ⟨_, rfl⟩
        rw [← hxv] at hx
        obtain ⟨hx0, hx1⟩ := hx
        obtain ⟨y, hyv⟩ : ∃ y, y = x / 2 := ⟨_, rfl⟩
        have hbk := hM.b
        have ca : wr.cell? ⟨g, k, none⟩ = some (.int .i64 x) := by rw [hbk.cell, mc_get (by rw [halfTo_len]; exact hk'), halfTo_get _ _ _ (Nat.le_refl k), hxv]
        have fa := hbk.frozen k
        have ey : x / 2 = y := hyv.symm
        have ey2 : x.tdiv 2 = y := by rw [eight x (by omega), hyv]
        have hnext : MI w g R.bs O' (k + 1) ((wr.setCell ⟨g, k, none⟩ (.int .i64 y)).drew) := by
          refine ⟨?_, only_drew (only_setCell hM.only (.inl rfl) _)⟩
          have q := hbk.set_ k (.int .i64 y)
          rw [mc_set (by rw [halfTo_len]; exact hk')] at q
          rw [hyv, hxv, halfTo_next R.bs k hk'] at q
          rw [hyv, hxv]
          exact q
        have HN := Lib.hid hnext
        clear hM hbk hxv hyv hk' hnext
        have hy0 : 0 ≤ y := by omega
        have hy1 : y ≤ 2048 := by omega
        go_wp2
        go_region
        go_wp2
        refine ⟨⟨k + 1, by omega, by go_num, HN.out⟩, ?_⟩
        simp [intOf]; omega
      · obtain rfl : k = 240 := by omega
        have hbk := hM.b
        have co : wr.cell? ⟨g, 240, none⟩ = some (.int .i64 O') := by rw [hbk.cell, mc_over (by rw [halfTo_len]; exact HLEN.out)]
        have fo := hbk.frozen 240
        obtain ⟨O2, hO2⟩ : ∃ O2, O2 = O' / 2 := ⟨_, rfl⟩
        have eo : O'.tdiv 2 = O2 := by rw [eight O' o0, hO2]
        have eo2 : O' / 2 = O2 := hO2.symm
        have hnext : MAdds w g (s.add t) (.returned (.tuple #[])) (wr.setCell ⟨g, 240, none⟩ (.int .i64 O2)) := by
          refine ⟨rfl, ?_, only_setCell hM.only (.inl rfl) _⟩
          have q := hbk.set_ 240 (.int .i64 O2)
          rw [mc_set_over (by rw [halfTo_len]; exact HLEN.out), HH.out.1] at q
          rw [HA.out, if_pos (by omega)]
          unfold S.half
          simp only
          rw [← HO.out, ← hO2]
          exact q
        have HN := Lib.hid hnext
        clear hM hbk hnext hlt hk hO2
        go_wp2
        first | go_end0 | refine bodyPost_ret (results_none rfl _ _ _) rfl ?_
        exact HN.out
  · have d1 : (Z == 4096) = false := nq hfull
    go_quiet (first | (go_at_call 26; exact Calls.quiet_of (CM.out _)))
    go_wp2
    first | go_end0 | refine bodyPost_ret (results_none rfl _ _ _) rfl ?_
    refine ⟨rfl, ?_, only_drewN Q1.out _⟩
    rw [HA.out, if_neg (by omega), ← HO.out]
    exact B1.out.drewN _

set_option maxRecDepth 100000 in
set_option maxHeartbeats 4000000 in
theorem madd_out (g : Nat) (t : Int) (s : S) (w : World) (h : Blk w g 31 (mc s.bs s.o)) (ok : Ok s) (ht : 240 ≤ t) : Calls Try.prog 15 #[.pointer (some ⟨g, 0, none⟩), .int .i64 t] w (MAdds w g (s.add t)) := by
  have hraw : s.raw t = ⟨s.bs, s.a, s.o + 1⟩ := by unfold S.raw; rw [if_neg (by omega)]
  have hadd : s.add t = if (s.raw t).a + (s.raw t).o ≥ 4096 then (s.raw t).half else s.raw t := by unfold S.add; rw [if_neg (by omega)]
  have hlen := ok.raw_len t
  have hpos := ok.raw_pos t
  have hsum := ok.raw_sum (show 0 ≤ t by omega)
  have hall : 0 ≤ (s.raw t).o ∧ 0 ≤ (s.raw t).a ∧ (s.raw t).a + (s.raw t).o ≤ 4096 := by have := ok.raw_all t; have := ok.few; omega
  obtain ⟨x, hx⟩ : ∃ x, x = s.o := ⟨_, rfl⟩
  have x0 := ok.over
  have x1 : s.o ≤ 4095 := by have := ok.few; have := ok.a0; omega
  rw [← hx] at x0 x1
  have c1 : w.cell? ⟨g, 240, none⟩ = some (.int .i64 x) := by rw [h.cell, mc_over ok.len, hx]
  have f1 := h.frozen 240
  have b1 : Blk (w.setCell ⟨g, 240, none⟩ (.int .i64 (x + 1))) g 31 (mc (s.raw t).bs (s.raw t).o) := by
    have q := h.set_ 240 (.int .i64 (x + 1))
    rw [mc_set_over ok.len] at q
    rw [hraw, ← hx]
    exact q
  have q1 : w.grownBy (w.setCell ⟨g, 240, none⟩ (.int .i64 (x + 1))) (some g) := only_setCell (p := ⟨g, 240, none⟩) (only_refl w _) (.inl rfl) _
  have B0 := Lib.hid b1
  have Q0 := Lib.hid q1
  have L := Lib.hid (And.intro hlen (And.intro hpos (And.intro hsum (And.intro hall hadd))))
  clear h ok hx hraw hadd hlen hpos hsum hall b1 q1
  go_enter Try.func15, Try.ntmps15
  go_wp2
  obtain ⟨w1, hw1⟩ : ∃ w1, w1 = (w.setCell ⟨g, 240, none⟩ (.int .i64 (x + 1))) := ⟨_, rfl⟩
  rw [← hw1]
  have b1 := B0.out
  have q1 := Q0.out
  rw [← hw1] at b1 q1
  obtain ⟨hlen, hpos, hsum, hall, hadd⟩ := L.out
  clear c1 hw1 f1
  obtain ⟨R, hR⟩ : ∃ R, R = s.raw t := ⟨_, rfl⟩
  rw [← hR] at b1 hlen hpos hsum hall hadd
  have c3 : w1.cell? ⟨g, 240, none⟩ = some (.int .i64 R.o) := by rw [b1.cell, mc_over hlen]
  have cm := fun n => min_any g R.bs R.o (w1.drewN n) (b1.drewN n) hlen hpos
  rw [← hsum] at cm
  obtain ⟨A', hA'⟩ : ∃ A', A' = R.a := ⟨_, rfl⟩
  obtain ⟨O', hO'⟩ : ∃ O', O' = R.o := ⟨_, rfl⟩
  have h0 : 0 ≤ O' ∧ 0 ≤ A' ∧ A' + O' ≤ 4096 := by rw [hA', hO']; omega
  obtain ⟨o0, a0, ao⟩ := h0
  have hadd2 : s.add t = if A' + O' ≥ 4096 then R.half else R := by rw [hA', hO']; exact hadd
  rw [← hA'] at cm
  rw [← hO'] at c3 b1
  have HLEN := Lib.hid hlen
  have HPOS := Lib.hid hpos
  have HH := Lib.hid (halfTo_all R.bs hlen)
  obtain ⟨Z, hZ⟩ : ∃ Z, A' + O' = Z := ⟨_, rfl⟩
  rw [hZ] at hadd2 ao
  have a2 : A' ≤ 4096 := by omega
  have o2 : O' ≤ 4096 := by omega
  have B1 := Lib.hid b1
  have Q1 := Lib.hid q1
  have CM := Lib.hid cm
  have HA := Lib.hid hadd2
  have HO := Lib.hid hO'
  clear b1 q1 cm hadd hadd2 hlen hpos hsum hall hA' hR hO'
  by_cases hfull : Z = 4096
  · have d1 : (Z == 4096) = true := bq hfull
    go_quiet (first | (go_at_call 26; exact Calls.quiet_of (CM.out _)))
    obtain ⟨w2, hw2⟩ : ∃ w2, w2 = w1.drewN nq := ⟨_, rfl⟩
    rw [← hw2]
    have b2 : MI w g R.bs O' 0 w2 := by rw [hw2]; exact ⟨B1.out.drewN _, only_drewN Q1.out _⟩
    have B2 := Lib.hid b2
    clear b2 hw2 c3
    go_wp2
    go_loopw [34] (fun i wr => ∃ k : Nat, k ≤ 240 ∧ i = .int .i64 k ∧ MI w g R.bs O' k wr) (fun i _ => 240 - (intOf i).toNat)
    case atStart => exact ⟨0, by omega, rfl, B2.out⟩
    case round =>
      obtain ⟨k, hk, rfl, hM⟩ := hrel
      by_cases hlt : k < 240
      · have hk' : k < R.bs.length := by rw [HLEN.out]; exact hlt
        have hx := HPOS.out _ (getD_mem hk')
        obtain ⟨x, hxv⟩ : ∃ x, x = R.bs.getD k 0 := ⟨_, rfl⟩
        rw [← hxv] at hx
        obtain ⟨hx0, hx1⟩ := hx
        obtain ⟨y, hyv⟩ : ∃ y, y = x / 2 := ⟨_, rfl⟩
        have hbk := hM.b
        have ca : wr.cell? ⟨g, k, none⟩ = some (.int .i64 x) := by rw [hbk.cell, mc_get (by rw [halfTo_len]; exact hk'), halfTo_get _ _ _ (Nat.le_refl k), hxv]
        have fa := hbk.frozen k
        have ey : x / 2 = y := hyv.symm
        have ey2 : x.tdiv 2 = y := by rw [eight x (by omega), hyv]
        have hnext : MI w g R.bs O' (k + 1) ((wr.setCell ⟨g, k, none⟩ (.int .i64 y)).drew) := by
          refine ⟨?_, only_drew (only_setCell hM.only (.inl rfl) _)⟩
          have q := hbk.set_ k (.int .i64 y)
          rw [mc_set (by rw [halfTo_len]; exact hk')] at q
          rw [hyv, hxv, halfTo_next R.bs k hk'] at q
          rw [hyv, hxv]
          exact q
        have HN := Lib.hid hnext
        clear hM hbk hxv hyv hk' hnext
        have hy0 : 0 ≤ y := by omega
        have hy1 : y ≤ 2048 := by omega
        go_wp2
        go_region
        go_wp2
        refine ⟨⟨k + 1, by omega, by go_num, HN.out⟩, ?_⟩
        simp [intOf]; omega
      · obtain rfl : k = 240 := by omega
        have hbk := hM.b
        have co : wr.cell? ⟨g, 240, none⟩ = some (.int .i64 O') := by rw [hbk.cell, mc_over (by rw [halfTo_len]; exact HLEN.out)]
        have fo := hbk.frozen 240
        obtain ⟨O2, hO2⟩ : ∃ O2, O2 = O' / 2 := ⟨_, rfl⟩
        have eo : O'.tdiv 2 = O2 := by rw [eight O' o0, hO2]
        have eo2 : O' / 2 = O2 := hO2.symm
        have hnext : MAdds w g (s.add t) (.returned (.tuple #[])) (wr.setCell ⟨g, 240, none⟩ (.int .i64 O2)) := by
          refine ⟨rfl, ?_, only_setCell hM.only (.inl rfl) _⟩
          have q := hbk.set_ 240 (.int .i64 O2)
          rw [mc_set_over (by rw [halfTo_len]; exact HLEN.out), HH.out.1] at q
          rw [HA.out, if_pos (by omega)]
          unfold S.half
          simp only
          rw [← HO.out, ← hO2]
          exact q
        have HN := Lib.hid hnext
        clear hM hbk hnext hlt hk hO2
        go_wp2
        first | go_end0 | refine bodyPost_ret (results_none rfl _ _ _) rfl ?_
        exact HN.out
  · have d1 : (Z == 4096) = false := nq hfull
    go_quiet (first | (go_at_call 26; exact Calls.quiet_of (CM.out _)))
    go_wp2
    first | go_end0 | refine bodyPost_ret (results_none rfl _ _ _) rfl ?_
    refine ⟨rfl, ?_, only_drewN Q1.out _⟩
    rw [HA.out, if_neg (by omega), ← HO.out]
    exact B1.out.drewN _

theorem madd_any (g : Nat) (t : Int) (s : S) (w : World) (h : Blk w g 31 (mc s.bs s.o)) (ok : Ok s) : Calls Try.prog 15 #[.pointer (some ⟨g, 0, none⟩), .int .i64 t] w (MAdds w g (s.add t)) := by
  by_cases h0 : t < 0
  · have := madd_neg g s t w h h0
    rwa [show s.add t = s by unfold S.add; rw [if_pos h0]]
  · by_cases h1 : t < 240
    · obtain ⟨i, rfl⟩ : ∃ i : Nat, t = i := ⟨t.toNat, by omega⟩
      exact madd_in g i _ rfl s w h ok (by omega)
    · exact madd_out g t s w h ok (by omega)

end Go.Proofs.Ytopbhdpfakjkjaa.Histo
