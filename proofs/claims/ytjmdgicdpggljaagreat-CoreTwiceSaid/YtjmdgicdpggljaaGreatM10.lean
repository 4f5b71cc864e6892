/- Proved: what cmp.Compare and cmp.Or, ratio.Ratio's methods, ratio.Above, and the two orders of heaps answer. -/
import Derived.Test.YtjmdgicdpggljaaGreatM07
import Derived.Test.YtjmdgicdpggljaaGreatShelf
import Derived.Deep.RegionHeld3
import Derived.Shelf.Spec.BitsCarry
set_option linter.all false
namespace Go.Proofs.YtjmdgicdpggljaaGreat.GH
open Go.RowKit Go.Proofs.YtjmdgicdpggljaaGreat.Histo
set_option linter.unusedVariables false

theorem below_step {w w1 w2 : World} (h : Below w.heap.size w w1) (h2 : Below w1.heap.size w1 w2) : Below w.heap.size w w2 := h.trans (h2.mono h.size)
def cmpI (a b : Int) : Int := if a < b then -1 else if b < a then 1 else 0
theorem cmp_int (a b : Int) (w : World) : Calls Tryz.prog 39 #[.int .i64 a, .int .i64 b] w (RetV (.int .i64 (cmpI a b)) w) := by
  unfold cmpI
  by_cases h : a < b
  · rw [if_pos h]
    go_enter Tryz.func39, Tryz.ntmps39
    go_wp2
    go_ret
    exact ⟨rfl, 0, rfl⟩
  · rw [if_neg h]
    by_cases h2 : b < a
    · rw [if_pos h2]
      go_enter Tryz.func39, Tryz.ntmps39
      go_wp2
      go_ret
      exact ⟨rfl, 0, rfl⟩
    · rw [if_neg h2]
      go_enter Tryz.func39, Tryz.ntmps39
      go_wp2
      go_ret
      exact ⟨rfl, 0, rfl⟩
theorem cmp_i64 (a b : Int) (w : World) : Calls Tryz.prog 38 #[.int .i64 a, .int .i64 b] w (RetV (.int .i64 (cmpI a b)) w) := by
  unfold cmpI
  by_cases h : a < b
  · rw [if_pos h]
    go_enter Tryz.func38, Tryz.ntmps38
    go_wp2
    go_ret
    exact ⟨rfl, 0, rfl⟩
  · rw [if_neg h]
    by_cases h2 : b < a
    · rw [if_pos h2]
      go_enter Tryz.func38, Tryz.ntmps38
      go_wp2
      go_ret
      exact ⟨rfl, 0, rfl⟩
    · rw [if_neg h2]
      go_enter Tryz.func38, Tryz.ntmps38
      go_wp2
      go_ret
      exact ⟨rfl, 0, rfl⟩
theorem cmp_u64 (a b : Int) (w : World) : Calls Tryz.prog 176 #[.int .u64 a, .int .u64 b] w (RetV (.int .i64 (cmpI a b)) w) := by
  unfold cmpI
  by_cases h : a < b
  · rw [if_pos h]
    go_enter Tryz.func176, Tryz.ntmps176
    go_wp2
    go_ret
    exact ⟨rfl, 0, rfl⟩
  · rw [if_neg h]
    by_cases h2 : b < a
    · rw [if_pos h2]
      go_enter Tryz.func176, Tryz.ntmps176
      go_wp2
      go_ret
      exact ⟨rfl, 0, rfl⟩
    · rw [if_neg h2]
      go_enter Tryz.func176, Tryz.ntmps176
      go_wp2
      go_ret
      exact ⟨rfl, 0, rfl⟩
def orL : List Int → Int | [] => 0 | x :: r => if x = 0 then orL r else x
theorem orL_drop (xs : List Int) : ∀ k, (∀ j, j < k → xs.getD j 0 = 0) → orL xs = orL (xs.drop k)
  | 0, _ => rfl
  | k + 1, h => by
    rw [orL_drop xs k fun j hj => h j (by omega)]
    rcases Nat.lt_or_ge k xs.length with hk | hk
    · have e : xs.drop k = xs.getD k 0 :: xs.drop (k + 1) := by
        rw [List.drop_eq_getElem_cons hk, List.getD_eq_getElem?_getD, List.getElem?_eq_getElem hk]; rfl
      rw [e, orL, if_pos (h k (by omega))]
    · rw [List.drop_of_length_le hk, List.drop_of_length_le (by omega)]
set_option maxHeartbeats 4000000 in
theorem or_any (b n : Nat) (xs : List Int) (w : World) (hl : xs.length = n) (hn : n ≤ 3) (hc : ∀ j, j < n → w.cell? ⟨b, j, none⟩ = some (.int .i64 (xs.getD j 0))) : Calls Tryz.prog 37 #[.slice (some ⟨b, 0, none⟩) n n] w (RetV (.int .i64 (orL xs)) w) := by
  have HC := Lib.hid hc
  have HL := Lib.hid hl
  clear hc hl
  go_enter Tryz.func37, Tryz.ntmps37
  go_wp2
  go_loop [8] (fun iv => ∃ k : Nat, k ≤ n ∧ iv = .int .i64 k ∧ ∀ j, j < k → xs.getD j 0 = 0) (fun iv => n - (intOf iv).toNat)
  case atStart => exact ⟨0, by omega, rfl, fun j hj => by omega⟩
  case round =>
    obtain ⟨k, hk, rfl, hz⟩ := hrel
    have HZ := Lib.hid hz
    clear hz
    by_cases hlt : k < n
    · have hck := HC.out k hlt
      obtain ⟨x, hx⟩ : ∃ x, x = xs.getD k 0 := ⟨_, rfl⟩
      rw [← hx] at hck
      have HX := Lib.hid hx
      clear hx
      by_cases h0 : x = 0
      · have e0 : (x == 0) = true := by simp [h0]
        have e1 : (x != 0) = false := by simp [h0]
        have H0 := Lib.hid h0
        clear h0
        go_wp2
        go_round
        case rel => exact ⟨k + 1, by omega, by go_num, fun j hj => by
          by_cases e : j = k
          · rw [e, ← HX.out]; exact H0.out
          · exact HZ.out j (by omega)⟩
        case measure => simp [intOf]; omega
      · have e0 : (x == 0) = false := by simpa using h0
        have e1 : (x != 0) = true := by simpa using h0
        have H0 := Lib.hid h0
        clear h0
        go_wp2
        go_ret
        exact RetV.mk (by
          have hl := HL.out
          rw [orL_drop xs k HZ.out, List.drop_eq_getElem_cons (by omega), orL, if_neg (by
            have := HX.out
            rw [List.getD_eq_getElem?_getD, List.getElem?_eq_getElem (by omega)] at this
            simp only [Option.getD_some] at this
            rw [← this]; exact H0.out)]
          have := HX.out
          rw [List.getD_eq_getElem?_getD, List.getElem?_eq_getElem (by omega)] at this
          simp only [Option.getD_some] at this
          rw [← this]
          rfl) ⟨0, rfl⟩
    · obtain rfl : k = n := by omega
      go_wp2
      go_ret
      exact RetV.mk (by rw [orL_drop xs k HZ.out, List.drop_of_length_le (by rw [HL.out]; omega)]; rfl) ⟨0, rfl⟩
end Go.Proofs.YtjmdgicdpggljaaGreat.GH

/- Proved: what ratio.Ratio's methods, ratio.Above, and the two orders of heaps answer. -/
namespace Go.Proofs.YtjmdgicdpggljaaGreat.GH
open Go.RowKit Go.Proofs.YtjmdgicdpggljaaGreat.Histo
set_option linter.unusedVariables false

def M64 : Nat := 18446744073709551616
theorem m64 : M64 = 18446744073709551616 := rfl
theorem mul64 (x y : Nat) (hx : x < M64) (hy : y < M64) (w : World) : Calls Tryz.prog 163 #[.int .u64 x, .int .u64 y] w fun e w' => e = .returned (.tuple #[.int .u64 ((x * y / M64 : Nat) : Int), .int .u64 ((x * y % M64 : Nat) : Int)]) ∧ w' = w := Tryz.bits_Mul64 x y hx hy w
theorem add64 (x y : Nat) (hx : x < M64) (hy : y < M64) (w : World) : (callFunc 164 #[.int .u64 x, .int .u64 y, .int .u64 0]).run Tryz.prog w = .ok (.value (.tuple #[.int .u64 (((x + y) % M64 : Nat) : Int), .int .u64 (((x + y) / M64 : Nat) : Int)])) w := by
  rw [run_callFunc_extern Tryz.func164 (by kernel_rfl) (by kernel_rfl) (by kernel_rfl) (e := add64Entry) (by kernel_rfl)]
  have := run_add64 (P := Tryz.prog) x y 0 (by unfold M64 at hx; omega) (by unfold M64 at hy; omega) (by omega) (by omega) w
  rw [this]
  simp only [Result.andThen]
  unfold M64
  congr 5 <;> omega
theorem cell_last {W : World} {t : TypeId} {cs : Array Value} {b j : Nat} {v : Value} (hb : b = W.heap.size) (hv : cs[j]? = some v) : (W.alloc (.cells cs t)).cell? ⟨b, j, none⟩ = some v := by
  subst hb; rw [(Blk.new W t cs).cell]; exact hv
/-- A pair of words in order. -/
theorem cmp_words (x y : Nat) : orL [cmpI ((x / M64 : Nat) : Int) ((y / M64 : Nat) : Int), cmpI ((x % M64 : Nat) : Int) ((y % M64 : Nat) : Int)] = cmpI x y := by
  unfold orL orL orL cmpI M64
  split <;> split <;> (try split) <;> (try split) <;> (try split) <;> (try split) <;> omega
set_option maxRecDepth 100000 in
set_option maxHeartbeats 4000000 in
theorem compare_any (n1 d1 n2 d2 : Nat) (w : World) (h1 : n1 < M64) (h2 : d1 < M64) (h3 : n2 < M64) (h4 : d2 < M64) : Calls Tryz.prog 170 #[.agg #[.int .u64 n1, .int .u64 d1], .agg #[.int .u64 n2, .int .u64 d2]] w (fun e w' => e = .returned (.int .i64 (cmpI (n1 * d2 : Nat) (n2 * d1 : Nat))) ∧ Below w.heap.size w w') := by
  have m1 := fun W => mul64 n1 d2 h1 h4 W
  have m2 := fun W => mul64 n2 d1 h3 h2 W
  have hcw := cmp_words (n1 * d2) (n2 * d1)
  obtain ⟨a, ha⟩ : ∃ a : Int, a = ((n1 * d2 / M64 : Nat) : Int) := ⟨_, rfl⟩
  obtain ⟨b, hb⟩ : ∃ b : Int, b = ((n1 * d2 % M64 : Nat) : Int) := ⟨_, rfl⟩
  obtain ⟨c, hc⟩ : ∃ c : Int, c = ((n2 * d1 / M64 : Nat) : Int) := ⟨_, rfl⟩
  obtain ⟨d, hd⟩ : ∃ d : Int, d = ((n2 * d1 % M64 : Nat) : Int) := ⟨_, rfl⟩
  rw [← ha, ← hb] at m1
  rw [← hc, ← hd] at m2
  rw [← ha, ← hb, ← hc, ← hd] at hcw
  obtain ⟨R, hR⟩ : ∃ R : Int, R = cmpI (n1 * d2 : Nat) (n2 * d1 : Nat) := ⟨_, rfl⟩
  rw [← hR] at hcw ⊢
  have M1 := Lib.hid m1
  have M2 := Lib.hid m2
  have HCW := Lib.hid hcw
  clear ha hb hc hd hR m1 m2 hcw h1 h2 h3 h4
  go_enter Tryz.func170, Tryz.ntmps170
  go_wp2_with (first
    | (go_at_call 163; ((with_reducible refine (M1.out _).mono ?_); rintro e w1 ⟨rfl, rfl⟩))
    | (go_at_call 163; ((with_reducible refine (M2.out _).mono ?_); rintro e w1 ⟨rfl, rfl⟩))
    | (go_at_call 176; refine (cmp_u64 _ _ _).mono ?_; rintro e w1 ⟨rfl, n1, rfl⟩)
    | (go_at_call 37; refine (or_any _ 2 [cmpI a c, cmpI b d] _ rfl (by omega) ?_).mono ?_))
  · intro j hj
    rcases j with _ | _ | j
    · exact cell_last (by simp) rfl
    · exact cell_last (by simp) rfl
    · omega
  · rintro e w1 ⟨rfl, n1, rfl⟩
    go_wp2
    go_ret
    refine ⟨by rw [← HCW.out]; rfl, ?_⟩
    exact below_drewN ((below_drewN (((Below.refl _ _).alloc (Nat.le_refl _) _).alloc (by simp) _) _).alloc (by simp; omega) _) _
theorem floor_any (n d : Nat) (w : World) (h1 : n < M64) (h2 : d < M64) : Calls Tryz.prog 130 #[.agg #[.int .u64 n, .int .u64 d]] w (fun e w' => e = .returned (.int .u64 ((if d = 0 then 0 else n / d : Nat) : Int)) ∧ Below w.heap.size w w') := by
  by_cases h0 : d = 0
  · subst h0
    go_enter Tryz.func130, Tryz.ntmps130
    go_wp2
    go_ret
    exact ⟨rfl, (Below.refl _ _).alloc (Nat.le_refl _) _⟩
  · rw [if_neg h0]
    have e0 : ((d : Int) == 0) = false := by simp; omega
    obtain ⟨Q, hQ⟩ : ∃ Q : Int, Q = ((n / d : Nat) : Int) := ⟨_, rfl⟩
    rw [← hQ]
    have d0 : 0 < d := by omega
    have hq : (n : Int) / (d : Int) = Q := by rw [hQ]; simp
    have hq2 : (n : Int).tdiv (d : Int) = Q := by rw [Int.tdiv_eq_ediv_of_nonneg (by omega)]; exact hq
    have q0 : 0 ≤ Q := by rw [hQ]; exact Int.natCast_nonneg _
    have q1 : Q < 18446744073709551616 := by have hd : n / d ≤ n := Nat.div_le_self _ _; unfold M64 at h1; omega
    have hq3 : IntKind.u64.wrap Q = Q := Int.emod_eq_of_lt q0 q1
    clear q1
    clear hQ h0
    go_enter Tryz.func130, Tryz.ntmps130
    go_wp2
    go_ret
    exact ⟨rfl, (Below.refl _ _).alloc (Nat.le_refl _) _⟩
/-- What ratio.Above answers. -/
def aboveVal (n up down : Nat) : Value := if n * down < M64 ∧ n * down + up < M64 ∧ down ≠ 0 then .tuple #[.agg #[.int .u64 ((n * down + up : Nat) : Int), .int .u64 (down : Int)], .bool true] else .tuple #[.agg #[.int .u64 0, .int .u64 0], .bool false]
set_option maxRecDepth 100000 in
set_option maxHeartbeats 4000000 in
theorem above_any (n up down : Nat) (w : World) (h1 : n < M64) (h2 : up < M64) (h3 : down < M64) : Calls Tryz.prog 141 #[.int .u64 n, .int .u64 up, .int .u64 down] w (fun e w' => e = .returned (aboveVal n up down) ∧ Below w.heap.size w w') := by
  have m1 := fun W => mul64 n down h1 h3 W
  have hlo : n * down % M64 < M64 := Nat.mod_lt _ (by unfold M64; omega)
  have a1 := fun W => add64 (n * down % M64) up hlo h2 W
  have hv : aboveVal n up down = if ((n * down / M64 : Nat) : Int) = 0 ∧ (((n * down % M64 + up) / M64 : Nat) : Int) = 0 ∧ down ≠ 0 then .tuple #[.agg #[.int .u64 (((n * down % M64 + up) % M64 : Nat) : Int), .int .u64 (down : Int)], .bool true] else .tuple #[.agg #[.int .u64 0, .int .u64 0], .bool false] := by
    unfold aboveVal
    have e : (n * down < M64 ∧ n * down + up < M64 ∧ down ≠ 0) ↔ (((n * down / M64 : Nat) : Int) = 0 ∧ (((n * down % M64 + up) / M64 : Nat) : Int) = 0 ∧ down ≠ 0) := by unfold M64; omega
    by_cases hc : n * down < M64 ∧ n * down + up < M64 ∧ down ≠ 0
    · rw [if_pos hc, if_pos (e.1 hc)]
      have : (n * down % M64 + up) % M64 = n * down + up := by rw [Nat.mod_eq_of_lt hc.1, Nat.mod_eq_of_lt hc.2.1]
      rw [this]
    · rw [if_neg hc, if_neg (fun h => hc (e.2 h))]
  obtain ⟨V, hV⟩ : ∃ V, V = aboveVal n up down := ⟨_, rfl⟩
  rw [← hV] at hv ⊢
  have hi0 : 0 ≤ ((n * down / M64 : Nat) : Int) := Int.natCast_nonneg _
  have ca0 : 0 ≤ (((n * down % M64 + up) / M64 : Nat) : Int) := Int.natCast_nonneg _
  obtain ⟨hi, hhi⟩ : ∃ a : Int, a = ((n * down / M64 : Nat) : Int) := ⟨_, rfl⟩
  obtain ⟨lo, hlo'⟩ : ∃ a : Int, a = ((n * down % M64 : Nat) : Int) := ⟨_, rfl⟩
  obtain ⟨su, hsu⟩ : ∃ a : Int, a = (((n * down % M64 + up) % M64 : Nat) : Int) := ⟨_, rfl⟩
  obtain ⟨ca, hca⟩ : ∃ a : Int, a = (((n * down % M64 + up) / M64 : Nat) : Int) := ⟨_, rfl⟩
  rw [← hhi, ← hlo'] at m1
  rw [← hlo', ← hsu, ← hca] at a1
  rw [← hhi, ← hsu, ← hca] at hv
  rw [← hhi] at hi0
  rw [← hca] at ca0
  have HV := Lib.hid hv
  have M1 := Lib.hid m1
  clear hhi hlo' hsu hca hV hv m1 hlo h1 h2 h3
  by_cases b1 : 0 < hi
  · go_enter Tryz.func141, Tryz.ntmps141
    go_wp2_with (go_at_call 163; ((with_reducible refine (M1.out _).mono ?_); rintro e w1 ⟨rfl, rfl⟩))
    exact bodyPost_ret (v := .tuple #[.agg #[.int .u64 0, .int .u64 0], .bool false]) (by simp [results, Tryz.results141, go_sem]) rfl ⟨by rw [HV.out, if_neg (by omega)], (Below.refl _ _).alloc (Nat.le_refl _) _⟩
  · obtain rfl : hi = 0 := by omega
    by_cases b2 : 0 < ca
    · go_enter Tryz.func141, Tryz.ntmps141
      go_wp2_with (go_at_call 163; ((with_reducible refine (M1.out _).mono ?_); rintro e w1 ⟨rfl, rfl⟩))
      exact bodyPost_ret (v := .tuple #[.agg #[.int .u64 0, .int .u64 0], .bool false]) (by simp [results, Tryz.results141, go_sem]) rfl ⟨by rw [HV.out, if_neg (by omega)], (Below.refl _ _).alloc (Nat.le_refl _) _⟩
    · obtain rfl : ca = 0 := by omega
      by_cases b3 : down = 0
      · have e3 : ((down : Int) == 0) = true := by simp [b3]
        have B3 := Lib.hid b3
        clear b3
        go_enter Tryz.func141, Tryz.ntmps141
        go_wp2_with (go_at_call 163; ((with_reducible refine (M1.out _).mono ?_); rintro e w1 ⟨rfl, rfl⟩))
        exact bodyPost_ret (v := .tuple #[.agg #[.int .u64 0, .int .u64 0], .bool false]) (by simp [results, Tryz.results141, go_sem]) rfl ⟨by rw [HV.out, if_neg (by have := B3.out; omega)], (Below.refl _ _).alloc (Nat.le_refl _) _⟩
      · have e3 : ((down : Int) == 0) = false := by simp; omega
        have B3 := Lib.hid b3
        clear b3
        go_enter Tryz.func141, Tryz.ntmps141
        go_wp2_with (go_at_call 163; ((with_reducible refine (M1.out _).mono ?_); rintro e w1 ⟨rfl, rfl⟩))
        exact bodyPost_ret (v := .tuple #[.agg #[.int .u64 su, .int .u64 down], .bool true]) (by simp [results, Tryz.results141, go_sem]) rfl ⟨by rw [HV.out]; simp [B3.out], (Below.refl _ _).alloc (Nat.le_refl _) _⟩
end Go.Proofs.YtjmdgicdpggljaaGreat.GH

/- Proved: what the two orders of heaps answer: warm.less and timer.less. -/
namespace Go.Proofs.YtjmdgicdpggljaaGreat.GH
open Go.RowKit Go.Proofs.YtjmdgicdpggljaaGreat.Histo Go.Proofs.YtjmdgicdpggljaaGreat.Event
set_option linter.unusedVariables false

def Mark.vals (m : Mark) : List Value := [.int .u64 (m.num : Int), .int .u64 (m.den : Int), .int .i64 m.id]
structure Mark.Ok (m : Mark) : Prop where
  n : m.num < M64
  d : m.den < M64
def TMark.vals (m : TMark) : List Value := [.int .i64 m.at_, .int .i64 m.key.kind, .int .i64 m.key.id]
theorem below_alloc {a w : World} (h : Below a.heap.size a w) (o : Obj) : Below a.heap.size a (w.alloc o) := h.alloc h.size o
theorem two_new (w : World) (o o' : Obj) : Below w.heap.size w ((w.alloc o).alloc o') := ((Below.refl _ _).alloc (Nat.le_refl _) _).alloc (by simp) _
theorem two_blk (w : World) (o : Obj) (t : TypeId) (cs : Array Value) : Blk ((w.alloc o).alloc (.cells cs t)) (w.heap.size + 1) t cs := by
  have := Blk.new (w.alloc o) t cs
  simpa using this
theorem cmpI_neg (a b : Int) : decide (cmpI a b < 0) = decide (a < b) := by
  unfold cmpI
  by_cases h : a < b
  · rw [if_pos h]; simp [h]
  · rw [if_neg h]; by_cases h2 : b < a <;> simp [h, h2]
theorem cmpI_zero (a b : Int) : cmpI a b = 0 ↔ a = b := by unfold cmpI; split <;> (try split) <;> omega
theorem less_eq (a b c d : Int) : decide (orL [cmpI a b, cmpI c d] < 0) = (decide (a < b) || (a == b && decide (c < d))) := by
  unfold orL
  by_cases h : cmpI a b = 0
  · rw [if_pos h]
    have e := (cmpI_zero a b).1 h
    unfold orL orL
    by_cases h2 : cmpI c d = 0
    · rw [if_pos h2]
      have e2 := (cmpI_zero c d).1 h2
      subst e; subst e2; simp
    · rw [if_neg h2, cmpI_neg]
      subst e; simp
  · rw [if_neg h, cmpI_neg]
    have : (a == b) = false := by simpa using fun e => h ((cmpI_zero a b).2 e)
    rw [this]; simp
theorem mark_lt_eq (a b : Mark) : decide (orL [cmpI (a.num * b.den : Nat) (b.num * a.den : Nat), cmpI a.id b.id] < 0) = Mark.lt a b := by
  rw [less_eq]
  unfold Mark.lt
  have e1 : decide (((a.num * b.den : Nat) : Int) < ((b.num * a.den : Nat) : Int)) = decide (a.num * b.den < b.num * a.den) := by rw [decide_eq_decide]; omega
  have e2 : (((a.num * b.den : Nat) : Int) == ((b.num * a.den : Nat) : Int)) = (a.num * b.den == b.num * a.den) := by rw [Bool.eq_iff_iff]; simp only [beq_iff_eq]; omega
  rw [e1, e2]
set_option maxRecDepth 100000 in
set_option maxHeartbeats 8000000 in
theorem wless_any (a b : Mark) (w : World) (ha : a.Ok) (hb : b.Ok) : Calls Tryz.prog 157 #[.agg a.vals.toArray, .agg b.vals.toArray] w (RetB1 (Mark.lt a b) w) := by
  have e := mark_lt_eq a b
  have hcmp := fun W => compare_any a.num a.den b.num b.den W ha.n ha.d hb.n hb.d
  obtain ⟨c, hc⟩ : ∃ c : Int, c = cmpI (a.num * b.den : Nat) (b.num * a.den : Nat) := ⟨_, rfl⟩
  rw [← hc] at e hcmp
  obtain ⟨V, hV⟩ : ∃ V, V = Mark.lt a b := ⟨_, rfl⟩
  rw [← hV] at e ⊢
  obtain ⟨an, ad, ai⟩ := a
  obtain ⟨bn, bd, bi⟩ := b
  simp only [Mark.vals] at e hcmp ⊢
  have E := Lib.hid e
  have HCMP := Lib.hid hcmp
  clear e hcmp hc hV ha hb
  go_enter Tryz.func157, Tryz.ntmps157
  go_wp2_with fail
  have hb2 := two_new w (.cells #[.int .u64 (an : Int), .int .u64 (ad : Int), .int .i64 ai] 200) (.cells #[.int .u64 (bn : Int), .int .u64 (bd : Int), .int .i64 bi] 200)
  have hx2 := (Blk.new w 200 #[.int .u64 (an : Int), .int .u64 (ad : Int), .int .i64 ai]).alloc (.cells #[.int .u64 (bn : Int), .int .u64 (bd : Int), .int .i64 bi] 200)
  have hy2 := two_blk w (.cells #[.int .u64 (an : Int), .int .u64 (ad : Int), .int .i64 ai] 200) 200 #[.int .u64 (bn : Int), .int .u64 (bd : Int), .int .i64 bi]
  generalize (w.alloc _).alloc _ = w1 at hb2 hx2 hy2 ⊢
  generalize w.heap.size + 1 = gy at hy2 ⊢
  obtain ⟨gx, hgx⟩ : ∃ g, g = w.heap.size := ⟨_, rfl⟩
  rw [← hgx] at hx2
  rw [← hgx]
  have HB1 := Lib.hid hb2
  have HX1 := Lib.hid hx2
  have HY1 := Lib.hid hy2
  have x0 : w1.cell? ⟨gx, 0, none⟩ = some (.int .u64 (an : Int)) := hx2.cell 0
  have x1 : w1.cell? ⟨gx, 1, none⟩ = some (.int .u64 (ad : Int)) := hx2.cell 1
  have x2 : w1.cell? ⟨gx, 2, none⟩ = some (.int .i64 ai) := hx2.cell 2
  have y0 : w1.cell? ⟨gy, 0, none⟩ = some (.int .u64 (bn : Int)) := hy2.cell 0
  have y1 : w1.cell? ⟨gy, 1, none⟩ = some (.int .u64 (bd : Int)) := hy2.cell 1
  have y2 : w1.cell? ⟨gy, 2, none⟩ = some (.int .i64 bi) := hy2.cell 2
  have KS := Lib.hid (fun (w' : World) (hb : Below w1.heap.size w1 w') => (⟨(HX1.out.below hb HX1.out.lt).cell 0, (HX1.out.below hb HX1.out.lt).cell 1, (HX1.out.below hb HX1.out.lt).cell 2, (HY1.out.below hb HY1.out.lt).cell 0, (HY1.out.below hb HY1.out.lt).cell 1, (HY1.out.below hb HY1.out.lt).cell 2, hb⟩ : w'.cell? ⟨gx, 0, none⟩ = some (.int .u64 (an : Int)) ∧ w'.cell? ⟨gx, 1, none⟩ = some (.int .u64 (ad : Int)) ∧ w'.cell? ⟨gx, 2, none⟩ = some (.int .i64 ai) ∧ w'.cell? ⟨gy, 0, none⟩ = some (.int .u64 (bn : Int)) ∧ w'.cell? ⟨gy, 1, none⟩ = some (.int .u64 (bd : Int)) ∧ w'.cell? ⟨gy, 2, none⟩ = some (.int .i64 bi) ∧ Below w1.heap.size w1 w'))
  have BR := Below.refl w1.heap.size w1
  have BR2 := BR.drew
  clear hb2 hx2 hy2 hgx
  go_region_held3 (fun w' => w'.cell? ⟨gx, 0, none⟩ = some (.int .u64 (an : Int)) ∧ w'.cell? ⟨gx, 1, none⟩ = some (.int .u64 (ad : Int)) ∧ w'.cell? ⟨gx, 2, none⟩ = some (.int .i64 ai) ∧ w'.cell? ⟨gy, 0, none⟩ = some (.int .u64 (bn : Int)) ∧ w'.cell? ⟨gy, 1, none⟩ = some (.int .u64 (bd : Int)) ∧ w'.cell? ⟨gy, 2, none⟩ = some (.int .i64 bi) ∧ Below w1.heap.size w1 w')
    (first
      | exact KS.out _ (by assumption)
      | exact KS.out _ (below_drewN BR _)
      | exact KS.out _ (below_alloc (below_drewN BR _) _)
      | exact KS.out _ (below_drewN (below_alloc (below_drewN BR _) _) _)
      | exact KS.out _ (below_alloc (by assumption) _)
      | exact KS.out _ (below_drewN (below_alloc (by assumption) _) _)
      | go_keep)
    (first
      | (go_at_call 170; refine (HCMP.out _).mono ?_; rintro e w' ⟨rfl, hbl⟩; have hbq := below_step (w := w1) (by assumption) hbl; clear hbl)
      | (go_at_call 39; refine (cmp_int _ _ _).mono ?_; rintro e w' ⟨rfl, nq, rfl⟩; have hbq := below_drewN (B := w1.heap.size) (a := w1) (by assumption) nq)
      | (go_at_call 37; refine (or_any _ 2 [c, cmpI ai bi] _ rfl (by omega) (fun j hj => (by rcases j with _ | _ | j; exact cell_last (by simp) rfl; exact cell_last (by simp) rfl; omega))).mono ?_; rintro e w' ⟨rfl, nq, rfl⟩; have hbq := below_drewN (B := w1.heap.size) (a := w1) (by assumption) nq))
  all_goals
    go_wp2
    go_ret
    exact ⟨by rw [← E.out]; rfl, below_step HB1.out (show _ ∧ _ ∧ _ ∧ _ ∧ _ ∧ _ ∧ Below w1.heap.size w1 _ by assumption).2.2.2.2.2.2⟩
theorem tmark_lt_eq (a b : TMark) : decide (orL [cmpI a.at_ b.at_, cmpI a.key.kind b.key.kind, cmpI a.key.id b.key.id] < 0) = TMark.lt a b := by
  unfold TMark.lt
  rw [← less_eq, orL]
  by_cases h : cmpI a.at_ b.at_ = 0
  · rw [if_pos h, less_eq]
    have e := (cmpI_zero _ _).1 h
    rw [e]; simp
  · rw [if_neg h, cmpI_neg]
    have : (a.at_ == b.at_) = false := by simpa using fun e => h ((cmpI_zero _ _).2 e)
    rw [this]; simp
set_option maxRecDepth 100000 in
set_option maxHeartbeats 8000000 in
theorem tless_any (a b : TMark) (w : World) : Calls Tryz.prog 19 #[.agg a.vals.toArray, .agg b.vals.toArray] w (RetB1 (TMark.lt a b) w) := by
  have e := tmark_lt_eq a b
  obtain ⟨V, hV⟩ : ∃ V, V = TMark.lt a b := ⟨_, rfl⟩
  rw [← hV] at e ⊢
  obtain ⟨an, ad, ai⟩ := a
  obtain ⟨bn, bd, bi⟩ := b
  simp only [TMark.vals] at e ⊢
  have E := Lib.hid e
  clear e hV
  go_enter Tryz.func19, Tryz.ntmps19
  go_wp2_with fail
  have hb2 := two_new w (.cells #[.int .i64 an, .int .i64 ad, .int .i64 ai] 92) (.cells #[.int .i64 bn, .int .i64 bd, .int .i64 bi] 92)
  have hx2 := (Blk.new w 92 #[.int .i64 an, .int .i64 ad, .int .i64 ai]).alloc (.cells #[.int .i64 bn, .int .i64 bd, .int .i64 bi] 92)
  have hy2 := two_blk w (.cells #[.int .i64 an, .int .i64 ad, .int .i64 ai] 92) 92 #[.int .i64 bn, .int .i64 bd, .int .i64 bi]
  generalize (w.alloc _).alloc _ = w1 at hb2 hx2 hy2 ⊢
  generalize w.heap.size + 1 = gy at hy2 ⊢
  obtain ⟨gx, hgx⟩ : ∃ g, g = w.heap.size := ⟨_, rfl⟩
  rw [← hgx] at hx2
  rw [← hgx]
  have HB1 := Lib.hid hb2
  have HX1 := Lib.hid hx2
  have HY1 := Lib.hid hy2
  have x0 : w1.cell? ⟨gx, 0, none⟩ = some (.int .i64 an) := hx2.cell 0
  have x1 : w1.cell? ⟨gx, 1, none⟩ = some (.int .i64 ad) := hx2.cell 1
  have x2 : w1.cell? ⟨gx, 2, none⟩ = some (.int .i64 ai) := hx2.cell 2
  have y0 : w1.cell? ⟨gy, 0, none⟩ = some (.int .i64 bn) := hy2.cell 0
  have y1 : w1.cell? ⟨gy, 1, none⟩ = some (.int .i64 bd) := hy2.cell 1
  have y2 : w1.cell? ⟨gy, 2, none⟩ = some (.int .i64 bi) := hy2.cell 2
  have KS := Lib.hid (fun (w' : World) (hb : Below w1.heap.size w1 w') => (⟨(HX1.out.below hb HX1.out.lt).cell 0, (HX1.out.below hb HX1.out.lt).cell 1, (HX1.out.below hb HX1.out.lt).cell 2, (HY1.out.below hb HY1.out.lt).cell 0, (HY1.out.below hb HY1.out.lt).cell 1, (HY1.out.below hb HY1.out.lt).cell 2, hb⟩ : w'.cell? ⟨gx, 0, none⟩ = some (.int .i64 an) ∧ w'.cell? ⟨gx, 1, none⟩ = some (.int .i64 ad) ∧ w'.cell? ⟨gx, 2, none⟩ = some (.int .i64 ai) ∧ w'.cell? ⟨gy, 0, none⟩ = some (.int .i64 bn) ∧ w'.cell? ⟨gy, 1, none⟩ = some (.int .i64 bd) ∧ w'.cell? ⟨gy, 2, none⟩ = some (.int .i64 bi) ∧ Below w1.heap.size w1 w'))
  have BR := Below.refl w1.heap.size w1
  have BR2 := BR.drew
  clear hb2 hx2 hy2 hgx
  go_region_held3 (fun w' => w'.cell? ⟨gx, 0, none⟩ = some (.int .i64 an) ∧ w'.cell? ⟨gx, 1, none⟩ = some (.int .i64 ad) ∧ w'.cell? ⟨gx, 2, none⟩ = some (.int .i64 ai) ∧ w'.cell? ⟨gy, 0, none⟩ = some (.int .i64 bn) ∧ w'.cell? ⟨gy, 1, none⟩ = some (.int .i64 bd) ∧ w'.cell? ⟨gy, 2, none⟩ = some (.int .i64 bi) ∧ Below w1.heap.size w1 w')
    (first
      | exact KS.out _ (by assumption)
      | exact KS.out _ (below_drewN BR _)
      | exact KS.out _ (below_alloc (below_drewN BR _) _)
      | exact KS.out _ (below_drewN (below_alloc (below_drewN BR _) _) _)
      | exact KS.out _ (below_alloc (by assumption) _)
      | exact KS.out _ (below_drewN (below_alloc (by assumption) _) _)
      | go_keep)
    (first
      | (go_at_call 38; refine (cmp_i64 _ _ _).mono ?_; rintro e w' ⟨rfl, nq, rfl⟩; have hbq := below_drewN (B := w1.heap.size) (a := w1) (by assumption) nq)
      | (go_at_call 39; refine (cmp_int _ _ _).mono ?_; rintro e w' ⟨rfl, nq, rfl⟩; have hbq := below_drewN (B := w1.heap.size) (a := w1) (by assumption) nq)
      | (go_at_call 37; refine (or_any _ 3 [cmpI an bn, cmpI ad bd, cmpI ai bi] _ rfl (by omega) (fun j hj => (by rcases j with _ | _ | _ | j; exact cell_last (by simp) rfl; exact cell_last (by simp) rfl; exact cell_last (by simp) rfl; omega))).mono ?_; rintro e w' ⟨rfl, nq, rfl⟩; have hbq := below_drewN (B := w1.heap.size) (a := w1) (by assumption) nq))
  all_goals
    go_wp2
    go_ret
    exact ⟨by rw [← E.out]; rfl, below_step HB1.out (show _ ∧ _ ∧ _ ∧ _ ∧ _ ∧ _ ∧ Below w1.heap.size w1 _ by assumption).2.2.2.2.2.2⟩
end Go.Proofs.YtjmdgicdpggljaaGreat.GH
