/- Proved: what the law's own Model answers (In, Spread, Cut). The condition: its block holds counts that are no less than nought, fewer than 4096 together. -/
import Derived.Test.YtopbhdpfakjkjaaHistoCounts
import Derived.BigQuiet
namespace Go.Proofs.Ytopbhdpfakjkjaa.Histo
open Go.RowKit

/-- The cells of a model: its bins, how many were too long. -/
def mc (bs : List Int) (o : Int) : Array Value := (bs.map (Value.int .i64) ++ [Value.int .i64 o]).toArray
theorem mc_get {bs : List Int} {o : Int} {i : Nat} (h : i < bs.length) : (mc bs o)[i]? = some (.int .i64 (bs.getD i 0)) := by
  unfold mc
  rw [List.getElem?_toArray, List.getElem?_append_left (by simpa using h), List.getElem?_map, List.getElem?_eq_getElem h, List.getD_eq_getElem?_getD, List.getElem?_eq_getElem h]
  rfl
theorem mc_over {bs : List Int} {o : Int} (h : bs.length = 240) : (mc bs o)[240]? = some (.int .i64 o) := by
  unfold mc
  rw [List.getElem?_toArray, List.getElem?_append_right (by simp [h])]
  simp [h]
theorem mc_set {bs : List Int} {o : Int} {i : Nat} (h : i < bs.length) (x : Int) : (mc bs o).setIfInBounds i (.int .i64 x) = mc (bs.set i x) o := by
  unfold mc
  rw [List.setIfInBounds_toArray, List.set_append_left _ _ (by simpa using h), List.map_set]
theorem mc_set_over {bs : List Int} {o : Int} (h : bs.length = 240) (x : Int) : (mc bs o).setIfInBounds 240 (.int .i64 x) = mc bs x := by
  unfold mc
  rw [List.setIfInBounds_toArray, List.set_append_right _ _ (by simp [h])]
  simp [h]
theorem mc_cell {w : World} {g : Nat} {bs : List Int} {o : Int} (h : Blk w g 31 (mc bs o)) : ∀ j v, (bc bs)[j]? = some v → w.cell? ⟨g, j, none⟩ = some v := by
  intro j v hv
  have hj : j < bs.length := by
    rcases Nat.lt_or_ge j bs.length with h | h
    · exact h
    · rw [List.getElem?_eq_none (by unfold bc; simpa using h)] at hv; cases hv
  rw [bc_get hj] at hv
  rw [h.cell, mc_get hj, hv]

theorem ps_bd {bs : List Int} (hb : ∀ x ∈ bs, 0 ≤ x ∧ x ≤ 4096) : ∀ k, k ≤ bs.length → 0 ≤ ps bs k ∧ ps bs k ≤ 4096 * k
  | 0, _ => by simp [ps]
  | k + 1, h => by
    have h1 := ps_bd hb k (by omega)
    have h2 := hb _ (getD_mem (show k < bs.length by omega))
    rw [ps_next (by omega)]
    omega

set_option maxRecDepth 100000 in
set_option maxHeartbeats 2000000 in
theorem min_any (g : Nat) (bs : List Int) (o : Int) (w : World) (h : Blk w g 31 (mc bs o)) (hl : bs.length = 240) (hb : ∀ x ∈ bs, 0 ≤ x ∧ x ≤ 4096) : Calls Try.prog 26 #[.pointer (some ⟨g, 0, none⟩)] w (RetI bs.sum w) := by
  have hld := mc_cell h
  have hsz : (Try.prog.info? 29).map (·.size) = some (bc bs).length := by rw [info54]; unfold bc; rw [List.length_map, hl]
  have hsum : ps bs 240 = bs.sum := by unfold ps; rw [List.take_of_length_le (by omega)]
  have HB := Lib.hid hb
  have HL := Lib.hid hl
  have HS := Lib.hid hsum
  have HLD := Lib.hid hld
  have HSZ := Lib.hid hsz
  clear h hld hsz hb hl hsum
  go_enter Try.func26, Try.ntmps26
  go_wp2_with (refine wpList_load_arr rfl 29 (.tmp 8) rfl g 240 3 rfl (bc bs) HLD.out Try.underlying29 HSZ.out ?_)
  obtain ⟨A, hA⟩ : ∃ A, A = (bc bs).toArray := ⟨_, rfl⟩
  rw [← hA]
  have HAA := Lib.hid hA
  clear hA
  go_loop [3, 10] (fun sv iv => ∃ k : Nat, k ≤ 240 ∧ iv = .int .i64 k ∧ sv = .int .i64 (ps bs k)) (fun _ iv => 240 - (intOf iv).toNat)
  case atStart => exact ⟨0, by omega, rfl, rfl⟩
  case round =>
    obtain ⟨k, hk, rfl, rfl⟩ := hrel
    by_cases hlt : k < 240
    · have hk' : k < bs.length := by rw [HL.out]; exact hlt
      have hidx := fun W => run_index bs k hk' HL.out W
      rw [← HAA.out] at hidx
      have hn := ps_next hk'
      have q1 := ps_bd HB.out k (by omega)
      have q2 := ps_bd HB.out (k + 1) (by omega)
      have hxb := HB.out _ (getD_mem hk')
      obtain ⟨x, hx⟩ : ∃ x, x = bs.getD k 0 := ⟨_, rfl⟩
      rw [← hx] at hidx hn hxb
      obtain ⟨m, hm⟩ : ∃ m, m = ps bs k := ⟨_, rfl⟩
      obtain ⟨m', hm'⟩ : ∃ m', m' = ps bs (k + 1) := ⟨_, rfl⟩
      rw [← hm] at hn q1 ⊢
      rw [← hm'] at hn q2
      have e4 : IntKind.i64.wrap (m + x) = m' := by rw [hn]; exact IntWalk.i64_in _ (by omega)
      have e5 : wrap64 (m + x) = m' := by rw [hn]; exact IntWalk.wrap64_in _ (by omega)
      have e6 : m + x = m' := hn.symm
      have r0 : 0 ≤ m := by omega
      have r1 : m ≤ 1000000 := by omega
      have r2 : 0 ≤ x := by omega
      have r3 : x ≤ 4096 := by omega
      have r4 : 0 ≤ m' := by omega
      have r5 : m' ≤ 1000000 := by omega
      have HM' := Lib.hid hm'
      clear hm hm' hx hk' hn q1 q2 hxb
      go_wp2
      go_round
      case rel => exact ⟨k + 1, by omega, by go_num, by rw [HM'.out]⟩
      case measure => simp [intOf]; omega
    · obtain rfl : k = 240 := by omega
      rw [HS.out]
      go_wp2
      go_ret
      exact ⟨rfl, 0, rfl⟩

set_option maxRecDepth 100000 in
set_option maxHeartbeats 2000000 in
theorem mspread_any (g : Nat) (s : S) (w : World) (h : Blk w g 31 (mc s.bs s.o)) (ok : Ok s) : Calls Try.prog 35 #[.pointer (some ⟨g, 0, none⟩)] w (RetB s.spread w) := by
  have cm := fun n => min_any g s.bs s.o (w.drewN n) (h.drewN n) ok.len (fun x hx => by have := ok.bd x hx; omega)
  rw [← ok.sum] at cm
  have a0 := ok.a0
  have a1 : s.a ≤ 4095 := by have := ok.over; have := ok.few; omega
  have hld := mc_cell h
  have hsz : (Try.prog.info? 29).map (·.size) = some (bc s.bs).length := by rw [info54]; unfold bc; rw [List.length_map, ok.len]
  obtain ⟨a, ha⟩ : ∃ a, a = s.a := ⟨_, rfl⟩
  rw [← ha] at a0 a1 cm
  have CM := Lib.hid cm
  have HA := Lib.hid ha
  have HO := Lib.hid ok
  have HLD := Lib.hid hld
  have HSZ := Lib.hid hsz
  clear h ha ok hld hsz cm
  go_enter Try.func35, Try.ntmps35
  go_wp2_with (refine wpList_load_arr rfl 29 (.tmp 8) rfl g 240 3 rfl (bc s.bs) HLD.out Try.underlying29 HSZ.out ?_)
  obtain ⟨A, hA⟩ : ∃ A, A = (bc s.bs).toArray := ⟨_, rfl⟩
  rw [← hA]
  have HAA := Lib.hid hA
  clear hA
  go_loop [3, 10] (fun sv iv => ∃ k : Nat, k ≤ 240 ∧ iv = .int .i64 k ∧ sv = .int .i64 (sq s.bs k)) (fun _ iv => 240 - (intOf iv).toNat)
  case atStart => exact ⟨0, by omega, rfl, rfl⟩
  case round =>
    obtain ⟨k, hk, rfl, rfl⟩ := hrel
    have hq := sq_bd HO.out k hk
    by_cases hlt : k < 240
    · have hk' : k < s.bs.length := by rw [HO.out.len]; exact hlt
      have hxb := HO.out.bd _ (getD_mem hk')
      have hidx := fun W => run_index s.bs k hk' HO.out.len W
      rw [← HAA.out] at hidx
      have hn : sq s.bs (k + 1) = sq s.bs k + s.bs.getD k 0 * s.bs.getD k 0 := rfl
      have hq2 := sq_bd HO.out (k + 1) (by omega)
      obtain ⟨x, hx⟩ : ∃ x, x = s.bs.getD k 0 := ⟨_, rfl⟩
      rw [← hx] at hxb hidx hn
      obtain ⟨m, hm⟩ : ∃ m, m = sq s.bs k := ⟨_, rfl⟩
      obtain ⟨m', hm'⟩ : ∃ m', m' = sq s.bs (k + 1) := ⟨_, rfl⟩
      obtain ⟨y, hy⟩ : ∃ y, y = x * x := ⟨_, rfl⟩
      rw [← hm, ← hm', ← hy] at hn
      rw [← hm] at hq ⊢
      rw [← hm'] at hq2
      obtain ⟨x0, x1⟩ := hxb
      have y0 : 0 ≤ y := by rw [hy]; exact Int.mul_nonneg x0 x0
      have y1 : y ≤ 16769025 := by rw [hy]; have := Int.mul_le_mul x1 x1 x0 (show (0 : Int) ≤ 4095 by omega); omega
      have e1 : IntKind.i64.wrap (x * x) = y := by rw [← hy]; exact IntWalk.i64_in _ (by omega)
      have e2 : wrap64 (x * x) = y := by rw [← hy]; exact IntWalk.wrap64_in _ (by omega)
      have e3 : x * x = y := hy.symm
      have e4 : IntKind.i64.wrap (m + y) = m' := by rw [hn]; exact IntWalk.i64_in _ (by omega)
      have e5 : wrap64 (m + y) = m' := by rw [hn]; exact IntWalk.wrap64_in _ (by omega)
      have e6 : m + y = m' := hn.symm
      obtain ⟨q0, q1⟩ := hq
      have HM' := Lib.hid hm'
      clear hn hy hm hm' hq2 hx hk'
      go_wp2
      go_round
      case rel => exact ⟨k + 1, by omega, by go_num, by rw [HM'.out]⟩
      case measure => simp [intOf]; omega
    · obtain rfl : k = 240 := by omega
      obtain ⟨m, hm⟩ : ∃ m, m = sq s.bs 240 := ⟨_, rfl⟩
      rw [← hm] at hq ⊢
      obtain ⟨q0, q1⟩ := hq
      obtain ⟨z, hz⟩ : ∃ z, z = 5 * a * a := ⟨_, rfl⟩
      have hz1 : 0 ≤ 5 * a * a ∧ 5 * a * a ≤ 83845125 := by
        have h1 : 0 ≤ 5 * a * a := Int.mul_nonneg (by omega) a0
        have h2 : (5 * a) * a ≤ 20475 * 4095 := Int.mul_le_mul (by omega) a1 a0 (by omega)
        exact ⟨h1, by omega⟩
      rw [← hz] at hz1
      have e1 : IntKind.i64.wrap (5 * a * a) = z := by rw [← hz]; exact IntWalk.i64_in _ (by omega)
      have e2 : wrap64 (5 * a * a) = z := by rw [← hz]; exact IntWalk.wrap64_in _ (by omega)
      have e3 : 5 * a * a = z := hz.symm
      have hs : s.spread = (decide (0 < a) && decide (z ≤ 240 * m)) := by unfold S.spread; rw [← HA.out, ← hm, ← hz]
      have HS := Lib.hid hs
      have z0 : 0 ≤ z := hz1.1
      have z1 : z ≤ 83845125 := hz1.2
      clear hs hz hm hlt hk hz1
      by_cases hp : 0 < a
      · have d1 : decide (0 < a) = true := decide_eq_true hp
        go_wp2_with fail
        refine (CM.out 0).mono ?_
        rintro e w' ⟨rfl, n1, rfl⟩
        go_wp2_with fail
        refine (CM.out _).mono ?_
        rintro e w' ⟨rfl, n2, rfl⟩
        go_wp2_with fail
        refine (CM.out _).mono ?_
        rintro e w' ⟨rfl, n3, rfl⟩
        go_wp2
        go_ret
        exact RetB.mk (by rw [HS.out]; simp [hp]) ⟨_, rfl⟩
      · have d1 : decide (0 < a) = false := decide_eq_false hp
        go_wp2_with fail
        refine (CM.out 0).mono ?_
        rintro e w' ⟨rfl, n1, rfl⟩
        go_wp2
        go_ret
        exact RetB.mk (by rw [HS.out, d1]; rfl) ⟨_, rfl⟩

end Go.Proofs.Ytopbhdpfakjkjaa.Histo
