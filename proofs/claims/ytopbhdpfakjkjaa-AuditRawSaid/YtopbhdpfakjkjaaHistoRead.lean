/- Proved: what (*histo.Histo).Spread, Cut and Bin answer. The condition: the block holds counts that are no less than nought, fewer than 4096 together. -/
import Derived.Test.YtopbhdpfakjkjaaHistoAdd2
import Derived.Lib.MinMax
namespace Go.Proofs.Ytopbhdpfakjkjaa.Histo
open Go.RowKit
set_option linter.unusedVariables false

/-- An array that lies at the head of a block, loaded whole. -/
theorem run_loadVar_arr {P : Program} (w : World) (g : Nat) (ty n e : Nat) (l : List Value) (hl : ∀ j v, l[j]? = some v → w.cell? ⟨g, j, none⟩ = some v) (hu : P.underlying ty = some (.array n e)) (hi : (P.info? ty).map (·.size) = some l.length) :
    (loadVar ty ⟨g, 0, none⟩).run P w = .ok (.agg l.toArray) w := by
  have hl' : (loadCells ⟨g, 0, none⟩ l.length).run P w = .ok l.toArray w :=
    run_loadCells_list (P := P) w ⟨g, 0, none⟩ l (fun j v hv => by
      have hadd : (⟨g, 0, none⟩ : Addr).add j = ⟨g, j, none⟩ := by unfold Addr.add; split <;> simp_all
      rw [hadd]
      exact hl j v hv)
  cases hq : P.info? ty with
  | none => simp [hq] at hi
  | some i =>
    have hs : i.size = l.length := by simpa [hq] using hi
    have hagg : (isAgg ty).run P w = .ok true w := by
      unfold isAgg
      rw [Sem.run_bind, run_underlying hu w]
      rfl
    simp [loadVar, Sem.run_bind, hagg, sizeOf, typeInfo, hq, hs, hl']
theorem wpList_load_arr {P : Program} {ops : Array Oper} {rest : List Oper} {o : Oper} {a : Act} {w : World} {Q : Exit → Act → World → Prop} (hgd : o.guard = none) (ty : TypeId) (x : Operand) (ho : o.op = .load ty x)
    (g n e : Nat) (hx : a.eval x = .pointer (some ⟨g, 0, none⟩)) (l : List Value) (hl : ∀ j v, l[j]? = some v → w.cell? ⟨g, j, none⟩ = some v)
    (hu : P.underlying ty = some (.array n e)) (hi : (P.info? ty).map (·.size) = some l.length)
    (h : wpList P ops Q rest (a.put o.dst (.agg l.toArray)) w) : wpList P ops Q (o :: rest) a w :=
  wpList_plain hgd fun _ hK => by
    unfold Oper.wp execOp
    simp only [ho, hx, Instr.loadAt, Instr.sureAddr, Sem.run_bind, Sem.run_pure, Result.andThen_ok, run_loadVar_arr w g ty n e l hl hu hi]
    exact hK _ _ h

/-- The bins as cells. -/
def bc (bs : List Int) : List Value := bs.map (Value.int .i64)
theorem bc_get {bs : List Int} {k : Nat} (h : k < bs.length) : (bc bs)[k]? = some (.int .i64 (bs.getD k 0)) := by
  unfold bc
  rw [List.getElem?_map, List.getElem?_eq_getElem h, List.getD_eq_getElem?_getD, List.getElem?_eq_getElem h]; rfl
theorem bc_cell {w : World} {g : Nat} {s : S} (h : Blk w g 62 s.cells) : ∀ j v, (bc s.bs)[j]? = some v → w.cell? ⟨g, j, none⟩ = some v := by
  intro j v hv
  have hj : j < s.bs.length := by
    rcases Nat.lt_or_ge j s.bs.length with h | h
    · exact h
    · rw [List.getElem?_eq_none (by unfold bc; simpa using h)] at hv; cases hv
  rw [bc_get hj] at hv
  have hcell : Blk w g 62 (hc s.bs s.a s.o) := h
  rw [hcell.cell, hc_get hj, hv]
theorem info54 : (Try.prog.info? 29).map (·.size) = some 240 := by kernel_rfl

theorem run_index (bs : List Int) (k : Nat) (hk : k < bs.length) (hl : bs.length = 240) (w : World) : (Instr.index 29 (.agg (bc bs).toArray) (.int .i64 (k : Int))).run Try.prog w = .ok (.int .i64 (bs.getD k 0)) w := by
  have hp : (part 3 (bc bs).toArray k).run Try.prog w = .ok (.int .i64 (bs.getD k 0)) w := by
    simp [part, Try.isAgg3, bc_get hk]
  simp [Instr.index, asIntOf, run_underlying Try.underlying29, Try.sizeOf3]
  rw [if_pos (by omega)]
  exact hp

/-- A sum of what the first k are. -/
def ps (bs : List Int) (k : Nat) : Int := (bs.take k).sum
theorem ps_next {bs : List Int} {k : Nat} (h : k < bs.length) : ps bs (k + 1) = ps bs k + bs.getD k 0 := by
  unfold ps
  rw [List.take_succ_eq_append_getElem h, List.sum_append, List.getD_eq_getElem?_getD, List.getElem?_eq_getElem h]
  simp
def sq (bs : List Int) : Nat → Int | 0 => 0 | k + 1 => sq bs k + bs.getD k 0 * bs.getD k 0
theorem sq_bd {s : S} (ok : Ok s) : ∀ k, k ≤ 240 → 0 ≤ sq s.bs k ∧ sq s.bs k ≤ 16769025 * k
  | 0, _ => by simp [sq]
  | k + 1, h => by
    have h1 := sq_bd ok k (by omega)
    have h2 := ok.bd _ (getD_mem (show k < s.bs.length by rw [ok.len]; omega))
    have h3 : 0 ≤ s.bs.getD k 0 * s.bs.getD k 0 := Int.mul_nonneg h2.1 h2.1
    have h4 : s.bs.getD k 0 * s.bs.getD k 0 ≤ 4095 * 4095 := Int.mul_le_mul h2.2 h2.2 h2.1 (by omega)
    simp only [sq]
    omega
/-- Are counts gathered enough? -/
def S.spread (s : S) : Bool := decide (0 < s.a) && decide (5 * s.a * s.a ≤ 240 * sq s.bs 240)

def RetB (r : Bool) (w : World) (e : Ending) (w' : World) : Prop := e = .returned (.bool r) ∧ ∃ n, w' = w.drewN n
theorem RetB.mk {r r' : Bool} {w w' : World} (h : r' = r) (hw : ∃ n, w' = w.drewN n) : RetB r w (.returned (.bool r')) w' := by subst h; exact ⟨rfl, hw⟩

set_option maxRecDepth 100000 in
set_option maxHeartbeats 2000000 in
theorem spread_any (g : Nat) (s : S) (w : World) (h : Blk w g 62 s.cells) (ok : Ok s) : Calls Try.prog 31 #[.pointer (some ⟨g, 0, none⟩)] w (RetB s.spread w) := by
  have hcell : Blk w g 62 (hc s.bs s.a s.o) := h
  have c2 : w.cell? ⟨g, 240, none⟩ = some (.int .i64 s.a) := by rw [hcell.cell, hc_in ok.len]
  have a0 := ok.a0
  have a1 : s.a ≤ 4095 := by have := ok.over; have := ok.few; omega
  have hld := bc_cell h
  have hsz : (Try.prog.info? 29).map (·.size) = some (bc s.bs).length := by rw [info54]; unfold bc; rw [List.length_map, ok.len]
  obtain ⟨a, ha⟩ : ∃ a, a = s.a := ⟨_, rfl⟩
  rw [← ha] at c2 a0 a1
  have HA := Lib.hid ha
  have HO := Lib.hid ok
  have HLD := Lib.hid hld
  have HSZ := Lib.hid hsz
  clear h hcell ha ok hld hsz
  go_enter Try.func31, Try.ntmps31
  go_wp2_with (refine wpList_load_arr rfl 29 (.tmp 8) rfl g 240 3 rfl (bc s.bs) HLD.out Try.underlying29 HSZ.out ?_)
  obtain ⟨A, hA⟩ : ∃ A, A = (bc s.bs).toArray := ⟨_, rfl⟩
  rw [← hA]
  have HAA := Lib.hid hA
  clear hA
  go_loop [3, 10] (fun sv iv => ∃ k : Nat, k ≤ 240 ∧ iv = .int .i64 k ∧ sv = .int .i64 (sq s.bs k)) (fun _ iv => 240 - (intOf iv).toNat)
  case atStart => exact ⟨0, by omega, rfl, rfl⟩
  case round =>
    obtain ⟨k, hk, rfl, rfl⟩ := hrel
    have hq := sq_bd HO.out k hk
    by_cases hlt : k < 240
    · have hk' : k < s.bs.length := by rw [HO.out.len]; exact hlt
      have hxb := HO.out.bd _ (getD_mem hk')
      have hidx := fun W => run_index s.bs k hk' HO.out.len W
      rw [← HAA.out] at hidx
      have hn : sq s.bs (k + 1) = sq s.bs k + s.bs.getD k 0 * s.bs.getD k 0 := rfl
      have hq2 := sq_bd HO.out (k + 1) (by omega)
      obtain ⟨x, hx⟩ : ∃ x, x = s.bs.getD k 0 := ⟨_, rfl⟩
      rw [← hx] at hxb hidx hn
      obtain ⟨m, hm⟩ : ∃ m, m = sq s.bs k := ⟨_, rfl⟩
      obtain ⟨m', hm'⟩ : ∃ m', m' = sq s.bs (k + 1) := ⟨_, rfl⟩
      obtain ⟨y, hy⟩ : ∃ y, y = x * x := ⟨_, rfl⟩
      rw [← hm, ← hm', ← hy] at hn
      rw [← hm] at hq ⊢
      rw [← hm'] at hq2
      obtain ⟨x0, x1⟩ := hxb
      have y0 : 0 ≤ y := by rw [hy]; exact Int.mul_nonneg x0 x0
      have y1 : y ≤ 16769025 := by rw [hy]; have := Int.mul_le_mul x1 x1 x0 (show (0 : Int) ≤ 4095 by omega); omega
      have e1 : IntKind.i64.wrap (x * x) = y := by rw [← hy]; exact IntWalk.i64_in _ (by omega)
      have e2 : wrap64 (x * x) = y := by rw [← hy]; exact IntWalk.wrap64_in _ (by omega)
      have e3 : x * x = y := hy.symm
      have e4 : IntKind.i64.wrap (m + y) = m' := by rw [hn]; exact IntWalk.i64_in _ (by omega)
      have e5 : wrap64 (m + y) = m' := by rw [hn]; exact IntWalk.wrap64_in _ (by omega)
      have e6 : m + y = m' := hn.symm
      obtain ⟨q0, q1⟩ := hq
      have HM' := Lib.hid hm'
      clear hn hy hm hm' hq2 hx hk'
      go_wp2
      go_round
      case rel => exact ⟨k + 1, by omega, by go_num, by rw [HM'.out]⟩
      case measure => simp [intOf]; omega
    · obtain rfl : k = 240 := by omega
      obtain ⟨m, hm⟩ : ∃ m, m = sq s.bs 240 := ⟨_, rfl⟩
      rw [← hm] at hq ⊢
      obtain ⟨q0, q1⟩ := hq
      obtain ⟨z, hz⟩ : ∃ z, z = 5 * a * a := ⟨_, rfl⟩
      have hz1 : 0 ≤ 5 * a * a ∧ 5 * a * a ≤ 83845125 := by
        have h1 : 0 ≤ 5 * a * a := Int.mul_nonneg (by omega) a0
        have h2 : (5 * a) * a ≤ 20475 * 4095 := Int.mul_le_mul (by omega) a1 a0 (by omega)
        exact ⟨h1, by omega⟩
      rw [← hz] at hz1
      have e1 : IntKind.i64.wrap (5 * a * a) = z := by rw [← hz]; exact IntWalk.i64_in _ (by omega)
      have e2 : wrap64 (5 * a * a) = z := by rw [← hz]; exact IntWalk.wrap64_in _ (by omega)
      have e3 : 5 * a * a = z := hz.symm
      have hs : s.spread = (decide (0 < a) && decide (z ≤ 240 * m)) := by unfold S.spread; rw [← HA.out, ← hm, ← hz]
      have HS := Lib.hid hs
      have z0 : 0 ≤ z := hz1.1
      have z1 : z ≤ 83845125 := hz1.2
      clear hs hz hm hlt hk hz1
      by_cases hp : 0 < a
      · have d1 : decide (0 < a) = true := decide_eq_true hp
        go_wp2
        go_quiet (fail)
        go_wp2
        go_ret
        exact RetB.mk (by rw [HS.out]; simp [hp]) ⟨_, rfl⟩
      · have d1 : decide (0 < a) = false := decide_eq_false hp
        go_wp2
        go_quiet (fail)
        go_wp2
        go_ret
        exact RetB.mk (by rw [HS.out, d1]; rfl) ⟨_, rfl⟩

/-- The bin at which a cut lies. -/
def Stop (s : S) (p : Int) (i : Nat) : Prop := 0 < ps s.bs (i + 1) ∧ p * s.a ≤ ps s.bs (i + 1) * 100
structure First (s : S) (p : Int) (i : Nat) : Prop where
  lt : i < 240
  yes : Stop s p i
  no : ∀ j, j < i → ¬ Stop s p j
def CutPost (s : S) (p : Int) (w : World) (e : Ending) (w' : World) : Prop := ∃ i : Nat, First s p i ∧ e = .returned (.tuple #[.int .i64 (i : Int), .bool true]) ∧ ∃ n, w' = w.drewN n
theorem ps_all {s : S} (ok : Ok s) : ps s.bs 240 = s.a := by unfold ps; rw [List.take_of_length_le (by rw [ok.len]; omega), ok.sum]
theorem ps_mono {s : S} (ok : Ok s) : ∀ k, 0 ≤ ps s.bs k ∧ ps s.bs k ≤ s.a := by
  intro k
  have h1 : 0 ≤ (s.bs.take k).sum := sum_pos (fun x hx => ok.pos x (List.mem_of_mem_take hx))
  have h2 : 0 ≤ (s.bs.drop k).sum := sum_pos (fun x hx => ok.pos x (List.mem_of_mem_drop hx))
  have h3 : (s.bs.take k).sum + (s.bs.drop k).sum = s.bs.sum := by rw [← List.sum_append, List.take_append_drop]
  have := ok.sum
  unfold ps
  omega

set_option maxRecDepth 100000 in
set_option maxHeartbeats 2000000 in
theorem cut_none (g : Nat) (s : S) (p : Int) (w : World) (h : Blk w g 62 s.cells) (ok : Ok s) (ha : s.a = 0) : Calls Try.prog 32 #[.pointer (some ⟨g, 0, none⟩), .int .i64 p] w fun e w' => e = .returned (.tuple #[.int .i64 0, .bool false]) ∧ ∃ n, w' = w.drewN n := by
  have hcell : Blk w g 62 (hc s.bs s.a s.o) := h
  have c2 : w.cell? ⟨g, 240, none⟩ = some (.int .i64 0) := by rw [hcell.cell, hc_in ok.len, ha]
  clear h ok ha hcell
  go_enter Try.func32, Try.ntmps32
  go_wp2
  go_ret2
  exact ⟨rfl, 0, rfl⟩

set_option maxRecDepth 100000 in
set_option maxHeartbeats 4000000 in
theorem cut_some (g : Nat) (s : S) (p0 p : Int) (w : World) (h : Blk w g 62 s.cells) (ok : Ok s) (ha0 : 0 < s.a) (hp : p = max 0 (min p0 100)) : Calls Try.prog 32 #[.pointer (some ⟨g, 0, none⟩), .int .i64 p0] w (CutPost s p w) := by
  have hcell : Blk w g 62 (hc s.bs s.a s.o) := h
  have c2 : w.cell? ⟨g, 240, none⟩ = some (.int .i64 s.a) := by rw [hcell.cell, hc_in ok.len]
  have a1 : s.a ≤ 4095 := by have := ok.over; have := ok.few; omega
  have hld := bc_cell h
  have hsz : (Try.prog.info? 29).map (·.size) = some (bc s.bs).length := by rw [info54]; unfold bc; rw [List.length_map, ok.len]
  obtain ⟨a, ha⟩ : ∃ a, a = s.a := ⟨_, rfl⟩
  rw [← ha] at c2 ha0 a1
  have hpb : 0 ≤ p ∧ p ≤ 100 := by omega
  have ep : max 0 (min p0 100) = p := hp.symm
  have ha' : (a == 0) = false := beq_eq_false_iff_ne.2 (by omega)
  have hane : ¬ a = 0 := by omega
  have HA := Lib.hid ha
  have HO := Lib.hid ok
  have HLD := Lib.hid hld
  have HSZ := Lib.hid hsz
  clear h hcell ha ok hld hsz hp
  go_enter Try.func32, Try.ntmps32
  go_wp2_with (refine wpList_load_arr rfl 29 (.tmp 19) rfl g 240 3 rfl (bc s.bs) HLD.out Try.underlying29 HSZ.out ?_)
  obtain ⟨A, hA⟩ : ∃ A, A = (bc s.bs).toArray := ⟨_, rfl⟩
  rw [← hA]
  have HAA := Lib.hid hA
  clear hA
  go_loop [6, 21] (fun sv iv => ∃ k : Nat, k ≤ 240 ∧ iv = .int .i64 k ∧ sv = .int .i64 (ps s.bs k) ∧ ∀ j, j < k → ¬ Stop s p j) (fun _ iv => 240 - (intOf iv).toNat)
  case atStart => exact ⟨0, by omega, rfl, rfl, fun j hj => by omega⟩
  case round =>
    obtain ⟨k, hk, rfl, rfl, hno⟩ := hrel
    have hno' := Lib.hid hno
    clear hno
    by_cases hlt : k < 240
    · have hk' : k < s.bs.length := by rw [HO.out.len]; exact hlt
      have hxb := HO.out.bd _ (getD_mem hk')
      have hidx := fun W => run_index s.bs k hk' HO.out.len W
      rw [← HAA.out] at hidx
      have hn := ps_next hk'
      have hq := ps_mono HO.out k
      have hq2 := ps_mono HO.out (k + 1)
      rw [← HA.out] at hq hq2
      obtain ⟨x, hx⟩ : ∃ x, x = s.bs.getD k 0 := ⟨_, rfl⟩
      rw [← hx] at hxb hidx hn
      obtain ⟨m, hm⟩ : ∃ m, m = ps s.bs k := ⟨_, rfl⟩
      obtain ⟨m', hm'⟩ : ∃ m', m' = ps s.bs (k + 1) := ⟨_, rfl⟩
      have hst : Stop s p k ↔ 0 < m' ∧ p * a ≤ m' * 100 := by unfold Stop; rw [← hm', ← HA.out]
      rw [← hm, ← hm'] at hn
      rw [← hm] at hq ⊢
      rw [← hm'] at hq2
      obtain ⟨x0, x1⟩ := hxb
      obtain ⟨q0, q1⟩ := hq
      obtain ⟨q2, q3⟩ := hq2
      obtain ⟨y, hy⟩ : ∃ y, y = p * a := ⟨_, rfl⟩
      have y0 : 0 ≤ y := by rw [hy]; exact Int.mul_nonneg (by omega) (by omega)
      have y1 : y ≤ 409500 := by rw [hy]; have := Int.mul_le_mul hpb.2 a1 (by omega) (show (0 : Int) ≤ 100 by omega); omega
      rw [← hy] at hst
      have e1 : IntKind.i64.wrap (p * a) = y := by rw [← hy]; exact IntWalk.i64_in _ (by omega)
      have e2 : wrap64 (p * a) = y := by rw [← hy]; exact IntWalk.wrap64_in _ (by omega)
      have e3 : p * a = y := hy.symm
      have e4 : IntKind.i64.wrap (m + x) = m' := by rw [← hn]; exact IntWalk.i64_in _ (by omega)
      have e5 : wrap64 (m + x) = m' := by rw [← hn]; exact IntWalk.wrap64_in _ (by omega)
      have e6 : m + x = m' := hn.symm
      have HM' := Lib.hid hm'
      have HST := Lib.hid hst
      have HK := Lib.hid hk
      clear hn hy hm hm' hx hk' hst hk hpb
      by_cases t1 : 0 < m'
      · have d1 : decide (0 < m') = true := decide_eq_true t1
        by_cases t2 : y ≤ m' * 100
        · have d2 : decide (y ≤ m' * 100) = true := decide_eq_true t2
          go_wp2
          go_ret2
          exact ⟨k, ⟨hlt, HST.out.2 ⟨t1, t2⟩, hno'.out⟩, rfl, 0, rfl⟩
        · have d2 : decide (y ≤ m' * 100) = false := decide_eq_false t2
          go_wp2
          go_round
          case rel => exact ⟨k + 1, by omega, by go_num, by rw [HM'.out], fun j hj => by
            by_cases e : j = k
            · subst e; exact fun hh => t2 (HST.out.1 hh).2
            · exact hno'.out j (by omega)⟩
          case measure => simp [intOf]; omega
      · have d1 : decide (0 < m') = false := decide_eq_false t1
        go_wp2
        go_round
        case rel => exact ⟨k + 1, by omega, by go_num, by rw [HM'.out], fun j hj => by
          by_cases e : j = k
          · subst e; exact fun hh => t1 (HST.out.1 hh).1
          · exact hno'.out j (by omega)⟩
        case measure => simp [intOf]; omega
    · obtain rfl : k = 240 := by omega
      exfalso
      refine hno'.out 239 (by omega) ⟨?_, ?_⟩
      · rw [ps_all HO.out, ← HA.out]; exact ha0
      · rw [ps_all HO.out, ← HA.out, Int.mul_comm a 100]; exact Int.mul_le_mul_of_nonneg_right hpb.2 (by omega)

theorem hc_bin {w : World} {g : Nat} {s : S} (h : Blk w g 62 s.cells) {i : Nat} (hi : i < s.bs.length) : w.cell? ⟨g, i, none⟩ = some (.int .i64 (s.bs.getD i 0)) := by
  have hcell : Blk w g 62 (hc s.bs s.a s.o) := h
  rw [hcell.cell, hc_get hi]

end Go.Proofs.Ytopbhdpfakjkjaa.Histo
