/- Proved: what the law's own Model answers to Cut. The condition: its block holds counts that are no less than nought, fewer than 4096 together; a percentage from 0 to 100. -/
import Derived.Test.YtopbhdpfakjkjaaHistoModel
namespace Go.Proofs.Ytopbhdpfakjkjaa.Histo
open Go.RowKit

theorem run_slice240 (g k : Nat) (hk : k < 240) (w : World) : (Instr.sliceAt 29 (.pointer (some ⟨g, 0, none⟩)) none (some (.int .i64 ((k : Int) + 1))) none).run Try.prog w = .ok (.slice (some ⟨g, 0, none⟩) (k + 1) 240) w := by
  have hal : Try.prog.arrayLen 29 = 240 := by kernel_rfl
  have hel : Try.prog.elem 29 = 3 := by kernel_rfl
  have h := run_sliceAt_array_h (P := Try.prog) w 29 ⟨g, 0, none⟩ (by rw [hal, hel]; exact Try.underlying29) .i64 ((k : Int) + 1) (by omega) (by rw [hal]; omega)
  rw [hal, hel, Try.sizeOf3] at h
  rw [h]
  have e : ((k : Int) + 1).toNat = k + 1 := by omega
  simp [slicedAt, Addr.add, e]

set_option maxRecDepth 100000 in
set_option maxHeartbeats 4000000 in
theorem mcut_any (g : Nat) (s : S) (p : Int) (w : World) (h : Blk w g 31 (mc s.bs s.o)) (ok : Ok s) (hp0 : 0 ≤ p) (hp1 : p ≤ 100) : Calls Try.prog 36 #[.pointer (some ⟨g, 0, none⟩), .int .i64 p] w (RetC (s.cut p : Int) (decide (0 < s.a)) w) := by
  have cm := fun n => min_any g s.bs s.o (w.drewN n) (h.drewN n) ok.len (fun x hx => by have := ok.bd x hx; omega)
  rw [← ok.sum] at cm
  have a0 := ok.a0
  have a1 : s.a ≤ 4095 := by have := ok.over; have := ok.few; omega
  have hld := fun n => mc_cell (h.drewN n)
  have hpc : pc p = p := by unfold pc; omega
  obtain ⟨a, ha⟩ : ∃ a, a = s.a := ⟨_, rfl⟩
  rw [← ha] at a0 a1 cm
  obtain ⟨y, hy⟩ : ∃ y, y = p * a := ⟨_, rfl⟩
  have y0 : 0 ≤ y := by rw [hy]; exact Int.mul_nonneg (by omega) (by omega)
  have y1 : y ≤ 409500 := by rw [hy]; have := Int.mul_le_mul hp1 a1 (by omega) (show (0 : Int) ≤ 100 by omega); omega
  have e1 : IntKind.i64.wrap (p * a) = y := by rw [← hy]; exact IntWalk.i64_in _ (by omega)
  have e2 : wrap64 (p * a) = y := by rw [← hy]; exact IntWalk.wrap64_in _ (by omega)
  have e3 : p * a = y := hy.symm
  have CM := Lib.hid cm
  have HA := Lib.hid ha
  have HO := Lib.hid ok
  have HLD := Lib.hid hld
  have HPC := Lib.hid hpc
  have HY := Lib.hid hy
  clear h ha ok hld cm hpc hy
  go_enter Try.func36, Try.ntmps36
  go_wp2_with fail
  refine (CM.out 0).mono ?_
  rintro e w' ⟨rfl, n1, rfl⟩
  obtain ⟨w1, hw1⟩ : ∃ w1, w1 = (w.drewN 0).drewN n1 := ⟨_, rfl⟩
  have hd : ∃ n, w1 = w.drewN n := ⟨_, hw1⟩
  have hc1 := HLD.out (0 + n1)
  have hc2 : ∀ j v, (bc s.bs)[j]? = some v → w1.cell? ⟨g, j, none⟩ = some v := by rw [hw1]; exact hc1
  rw [← hw1]
  have HD := Lib.hid hd
  have HC := Lib.hid hc2
  clear hw1 hd hc1 hc2
  go_wp2_with fail
  go_loop [13] (fun iv => ∃ k : Nat, k ≤ 240 ∧ iv = .int .i64 k ∧ ∀ j, j < k → ¬ Stop s p j) (fun iv => 240 - (intOf iv).toNat)
  case atStart => exact ⟨0, by omega, rfl, fun j hj => by omega⟩
  case round =>
    obtain ⟨k, hk, rfl, hno⟩ := hrel
    have HN := Lib.hid hno
    have HK := Lib.hid hk
    clear hno
    by_cases hlt : k < 240
    · have hsl := run_slice240 g k hlt w1
      go_wp2_with fail
      go_loop [8, 23] (fun sv iv => ∃ j : Nat, j ≤ k + 1 ∧ iv = .int .i64 j ∧ sv = .int .i64 (ps s.bs j)) (fun _ iv => k + 1 - (intOf iv).toNat)
      case atStart => exact ⟨0, by omega, rfl, rfl⟩
      case round =>
        obtain ⟨j, hj, rfl, rfl⟩ := hrel
        have hq := ps_mono HO.out j
        by_cases hlj : j < k + 1
        · have hj' : j < s.bs.length := by rw [HO.out.len]; omega
          have hxb := HO.out.bd _ (getD_mem hj')
          have hn := ps_next hj'
          have hq2 := ps_mono HO.out (j + 1)
          have cj := HC.out j _ (bc_get hj')
          rw [← HA.out] at hq hq2
          obtain ⟨x, hx⟩ : ∃ x, x = s.bs.getD j 0 := ⟨_, rfl⟩
          rw [← hx] at hxb cj hn
          obtain ⟨m, hm⟩ : ∃ m, m = ps s.bs j := ⟨_, rfl⟩
          obtain ⟨m', hm'⟩ : ∃ m', m' = ps s.bs (j + 1) := ⟨_, rfl⟩
          rw [← hm, ← hm'] at hn
          rw [← hm] at hq ⊢
          rw [← hm'] at hq2
          obtain ⟨x0, x1⟩ := hxb
          obtain ⟨q0, q1⟩ := hq
          obtain ⟨q2, q3⟩ := hq2
          have e6 : m + x = m' := hn.symm
          have HM' := Lib.hid hm'
          clear hn hm hm' hx hj'
          go_wp2
          go_round
          case rel => exact ⟨j + 1, by omega, by go_num, by rw [HM'.out]⟩
          case measure => simp [intOf]; omega
        · obtain rfl : j = k + 1 := by omega
          obtain ⟨m', hm'⟩ : ∃ m', m' = ps s.bs (k + 1) := ⟨_, rfl⟩
          have hst : Stop s p k ↔ 0 < m' ∧ y ≤ m' * 100 := by unfold Stop; rw [← hm', ← HA.out, HY.out]
          rw [← HA.out] at hq
          rw [← hm'] at hq ⊢
          obtain ⟨q2, q3⟩ := hq
          have HST := Lib.hid hst
          clear hst hm'
          by_cases t1 : 0 < m'
          · have d1 : decide (0 < m') = true := decide_eq_true t1
            by_cases t2 : y ≤ m' * 100
            · have d2 : decide (y ≤ m' * 100) = true := decide_eq_true t2
              go_wp2
              go_ret2
              have hf : First s (pc p) k := by rw [HPC.out]; exact ⟨hlt, HST.out.2 ⟨t1, t2⟩, HN.out⟩
              rw [cut_of hf, decide_eq_true (by rw [← HA.out]; omega)]
              exact ⟨rfl, HD.out⟩
            · have d2 : decide (y ≤ m' * 100) = false := decide_eq_false t2
              go_wp2
              go_round
              case rel => exact ⟨k + 1, by omega, by go_num, fun j hj => by
                by_cases e : j = k
                · subst e; exact fun hh => t2 (HST.out.1 hh).2
                · exact HN.out j (by omega)⟩
              case measure => simp [intOf]; omega
          · have d1 : decide (0 < m') = false := decide_eq_false t1
            go_wp2
            go_round
            case rel => exact ⟨k + 1, by omega, by go_num, fun j hj => by
              by_cases e : j = k
              · subst e; exact fun hh => t1 (HST.out.1 hh).1
              · exact HN.out j (by omega)⟩
            case measure => simp [intOf]; omega
    · obtain rfl : k = 240 := by omega
      have hz : a = 0 := by
        by_cases hz : 0 < a
        · refine absurd ⟨?_, ?_⟩ (HN.out 239 (by omega))
          · rw [ps_all HO.out, ← HA.out]; exact hz
          · rw [ps_all HO.out, ← HA.out, Int.mul_comm a 100]; exact Int.mul_le_mul_of_nonneg_right hp1 a0
        · omega
      have HZ := Lib.hid hz
      clear hz
      go_wp2
      go_ret2
      rw [cut_zero HO.out p (by rw [← HA.out]; exact HZ.out), decide_eq_false (by rw [← HA.out, HZ.out]; omega)]
      exact ⟨rfl, HD.out⟩

end Go.Proofs.Ytopbhdpfakjkjaa.Histo
