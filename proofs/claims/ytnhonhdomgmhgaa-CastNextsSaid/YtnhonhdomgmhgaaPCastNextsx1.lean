-- PRINTED BY print.sh 35421559b90ae4d0a3588c463048766b98c2df88dd9212a6774a882060cdf62d: not written by this session
import Derived.Test.YtnhonhdomgmhgaaPCastNextsx0
namespace Go.Proofs.Ytnhonhdomgmhgaa.PCastNexts
open Go.RowKit Go.Proofs.YtnhonhdomgmhgaaW.PrintWords Go.Proofs.YtnhonhdomgmhgaaW.PrintLast Go.Proofs.YtnhonhdomgmhgaaW.PrintMore
attribute [local go_sem] max2_int min2_int max_two min_two max_three min_three max_four min_four   -- for this text's walks alone
set_option linter.unusedVariables false
set_option linter.unusedSimpArgs false

/-! ### num_Clamp: function 22 -/
def num_Clamp.f (a0 : Int) (a1 : Int) (a2 : Int) : Option (Int) := some (mx a1 (mn a0 a2))
set_option maxHeartbeats 8000000 in
set_option maxRecDepth 100000 in
theorem num_Clamp.calls (a0 : Int) (a1 : Int) (a2 : Int) (r : Int) (w : World) (h : num_Clamp.f a0 a1 a2 = some r) :
    Calls Try.prog 22 #[.int .i64 a0, .int .i64 a1, .int .i64 a2] w fun e w' => e = .returned (.int .i64 r) ∧ Below w.heap.size w w' := by
  have HB := Aside0.mk (Below.refl w.heap.size w)
  have H : (some (mx a1 (mn a0 a2))) = some r := h
  clear h
  obtain ⟨ji4, hji4⟩ : ∃ j_ : Int, (mn a0 a2) = j_ := ⟨_, rfl⟩
  replace H : (some (mx a1 (ji4))) = some r := by first | (rw [hji4] at H; exact H) | (simp only [hji4] at H ⊢; exact H)
  have hji4_ : (if a2 < a0 then a2 else a0) = ji4 := hji4
  obtain ⟨ji5, hji5⟩ : ∃ j_ : Int, (mx a1 (ji4)) = j_ := ⟨_, rfl⟩
  replace H : (some ji5) = some r := by first | (rw [hji5] at H; exact H) | (simp only [hji5] at H ⊢; exact H)
  have hji5_ : (if a1 < (ji4) then (ji4) else a1) = ji5 := hji5
  obtain rfl := Option.some.inj H
  go_enter Try.func22, Try.ntmps22
  go_wp2
  go_ret
  exact ⟨by first | rfl | (simp [errW_none, errW_some] <;> rfl) | (simp only [← hji4, ← hji5]; first | rfl | (simp [errW_none, errW_some] <;> rfl)) | (simp [*, errW_none, errW_some] <;> rfl), by repeat (first | (with_reducible first | exact HB.out | apply below_alloc | apply pw_below_drewN | apply below_drew1) | exact HB.out)⟩

/-! ### cast_Next: function 16 -/
mutual
def cast_Next.j0 : Nat → List Int → Option (Int)
  | 0, _ => none
  | k + 1, x0 => cast_Next.l0 k (x0.length : Int) 0 0 0 0 x0 (x0.length : Int) 0
def cast_Next.l0 : Nat → Int → Int → Int → Int → Int → List Int → Int → Int → Option (Int)
  | 0, _, _, _, _, _, _, _, _ => none
  | k + 1, x3, x4, x5, x6, x7, x24, x25, x26 => if x26 < x25 then (if 0 ≤ x26 then (if x26 < (x24.length : Int) then ((num_Clamp.f (rd x24 x26) 0 1099511627776).bind fun t107 => (cast_Next.l0 k x3 (wrap64 (x4 + x26)) (wrap64 (x5 + t107)) (wrap64 (x6 + (wrap64 (x26 * x26)))) (wrap64 (x7 + (wrap64 (x26 * t107)))) x24 x25 (wrap64 (x26 + 1)))) else (none)) else (none)) else (if x3 = 0 then (some 0) else (if x3 = 1 then (some x5) else (if (wrap64 ((wrap64 (x5 * (wrap64 ((wrap64 (x3 * x6)) - (wrap64 (x4 * x4)))))) + (wrap64 ((wrap64 ((wrap64 (x3 * x7)) - (wrap64 (x4 * x5)))) * (wrap64 ((wrap64 (x3 * x3)) - x4)))))) < 0 then (some 0) else (if (wrap64 (x3 * (wrap64 ((wrap64 (x3 * x6)) - (wrap64 (x4 * x4)))))) = 0 then (none) else ((num_Clamp.f (wrap64 (Int.tdiv (wrap64 ((wrap64 (x5 * (wrap64 ((wrap64 (x3 * x6)) - (wrap64 (x4 * x4)))))) + (wrap64 ((wrap64 ((wrap64 (x3 * x7)) - (wrap64 (x4 * x5)))) * (wrap64 ((wrap64 (x3 * x3)) - x4)))))) (wrap64 (x3 * (wrap64 ((wrap64 (x3 * x6)) - (wrap64 (x4 * x4)))))))) 0 1099511627776).bind fun t108 => (some t108))))))
end
def cast_Next.f (k : Nat) (l0 : List Int) : Option (Int) := if (l0.length : Int) > 8 then (if 0 ≤ (wrap64 ((l0.length : Int) - 8)) then (if (wrap64 ((l0.length : Int) - 8)) ≤ (l0.length : Int) then (cast_Next.j0 k (l0.drop ((wrap64 ((l0.length : Int) - 8)) : Int).toNat)) else (none)) else (none)) else (cast_Next.j0 k l0)
theorem cast_Next.mono_l : ∀ k, (∀ y0, LeO (cast_Next.j0 k y0) (cast_Next.j0 (k + 1) y0)) ∧ (∀ y0 y1 y2 y3 y4 y5 y6 y7, LeO (cast_Next.l0 k y0 y1 y2 y3 y4 y5 y6 y7) (cast_Next.l0 (k + 1) y0 y1 y2 y3 y4 y5 y6 y7))
  | 0 => ⟨fun _ r h => by simp [cast_Next.j0] at h, fun _ _ _ _ _ _ _ _ r h => by simp [cast_Next.l0] at h⟩
  | k + 1 => by
    obtain ⟨ih0, ih1⟩ := cast_Next.mono_l k
    refine ⟨?_, ?_⟩
    · intro y0
      unfold cast_Next.j0
      repeat' first
      | (with_reducible exact ih0 _)
      | (with_reducible exact ih1 _ _ _ _ _ _ _ _)
      | (with_reducible exact LeO.refl _)
      | (with_reducible exact LeO.none _)
      | (with_reducible refine LeO.ite ?_ ?_)
      | (with_reducible refine LeO.bind ?_ (fun _ => ?_))
      | exact ih0 _
      | exact ih1 _ _ _ _ _ _ _ _
      | exact LeO.none _
      | refine LeO.ite ?_ ?_
      | refine LeO.bind ?_ (fun _ => ?_)
    · intro y0 y1 y2 y3 y4 y5 y6 y7
      unfold cast_Next.l0
      repeat' first
      | (with_reducible exact ih0 _)
      | (with_reducible exact ih1 _ _ _ _ _ _ _ _)
      | (with_reducible exact LeO.refl _)
      | (with_reducible exact LeO.none _)
      | (with_reducible refine LeO.ite ?_ ?_)
      | (with_reducible refine LeO.bind ?_ (fun _ => ?_))
      | exact ih0 _
      | exact ih1 _ _ _ _ _ _ _ _
      | exact LeO.none _
      | refine LeO.ite ?_ ?_
      | refine LeO.bind ?_ (fun _ => ?_)
theorem cast_Next.mono : ∀ a0 k, LeO (cast_Next.f k a0) (cast_Next.f (k + 1) a0) := by
  intro a0 k
  obtain ⟨ih0, ih1⟩ := cast_Next.mono_l k
  unfold cast_Next.f
  repeat' first
      | (with_reducible exact ih0 _)
      | (with_reducible exact ih1 _ _ _ _ _ _ _ _)
      | (with_reducible exact LeO.refl _)
      | (with_reducible exact LeO.none _)
      | (with_reducible refine LeO.ite ?_ ?_)
      | (with_reducible refine LeO.bind ?_ (fun _ => ?_))
      | exact ih0 _
      | exact ih1 _ _ _ _ _ _ _ _
      | exact LeO.none _
      | refine LeO.ite ?_ ?_
      | refine LeO.bind ?_ (fun _ => ?_)
set_option maxHeartbeats 8000000 in
set_option maxRecDepth 100000 in
theorem cast_Next.calls (k : Nat) (P0_ : Nat → Prop) (A0 : Option Addr) (c0 : Nat) (l0 : List Int) (r : Int) (w : World) (hs0 : Kd.V (Kd.int .i64) 2 w w.heap.size (fun k_ => P0_ k_) (.slice A0 l0.length c0) l0) (h : cast_Next.f k l0 = some r) :
    Calls Try.prog 16 #[.slice A0 l0.length c0] w fun e w' => e = .returned (.int .i64 r) ∧ Below w.heap.size w w' := by
  have HO0 := Aside0.mk (show Kd.V (Kd.int .i64) 2 w w.heap.size (fun k_ => (P0_ k_ ∨ w.heap.size ≤ k_)) (.slice A0 l0.length c0) l0 from Kd.V_mono hs0 (fun k_ hk => .inl hk))
  have HB := Aside0.mk (Below.refl w.heap.size w)
  have H : (if (l0.length : Int) > 8 then (if 0 ≤ (wrap64 ((l0.length : Int) - 8)) then (if (wrap64 ((l0.length : Int) - 8)) ≤ (l0.length : Int) then (cast_Next.j0 k (l0.drop ((wrap64 ((l0.length : Int) - 8)) : Int).toNat)) else (none)) else (none)) else (cast_Next.j0 k l0)) = some r := h
  clear h
  have HC2 := Aside0.mk H
  clear H
  go_enter Try.func16, Try.ntmps16
  go_upto_if 16 with (fail)
  go_cut [0] (fun v0 wc => ∃ (kq : Nat) (x0_1 : List Int), Aside0 (cast_Next.j0 kq x0_1 = some r) ∧ Aside0 (kq ≤ k) ∧ Aside0 (Kd.V (Kd.int .i64) 2 wc w.heap.size (fun k_ => (P0_ k_ ∨ w.heap.size ≤ k_)) v0 x0_1) ∧ Aside0 (Below w.heap.size w wc))
  case first =>
    have H := HC2.out
    clear HC2
    by_cases c3 : (l0.length : Int) > 8
    · rw [if_pos c3] at H
      have c3b0 : decide (8 < (l0.length : Int)) = true := decide_eq_true c3
      have c3b1 : decide (8 < l0.length) = true := decide_eq_true (by omega)
      clear c3
      (first | rw [c3b0] | (simp only [i64_w, i32_w]; rw [c3b0]) | skip)
      obtain ⟨ji4, hji4⟩ : ∃ j_ : Int, (wrap64 ((l0.length : Int) - 8)) = j_ := ⟨_, rfl⟩
      replace H : (if 0 ≤ (ji4) then (if (ji4) ≤ (l0.length : Int) then (cast_Next.j0 k (l0.drop ((ji4) : Int).toNat)) else (none)) else (none)) = some r := by first | (rw [hji4] at H; exact H) | (simp only [hji4] at H ⊢; exact H)
      have hji4w : (IntKind.i64.wrap ((l0.length : Int) - 8)) = ji4 := (i64_w _).trans hji4
      by_cases c5 : 0 ≤ (ji4)
      · rw [if_pos c5] at H
        have c5b0 := eq_true c5
        have c5b1 : decide (0 ≤ (ji4)) = true := decide_eq_true c5
        clear c5
        by_cases c6 : (ji4) ≤ (l0.length : Int)
        · rw [if_pos c6] at H
          have c6b0 := eq_true c6
          have c6b1 : decide ((ji4) ≤ (l0.length : Int)) = true := decide_eq_true c6
          clear c6
          obtain ⟨y101, hy101⟩ : ∃ y_ : List Int, y_ = (l0.drop ((ji4) : Int).toNat) := ⟨_, rfl⟩
          replace H : (cast_Next.j0 k y101) = some r := by first | (rw [hy101]; with_reducible exact H) | (have H2_ := (Option.bind_some _ _).symm.trans H; rw [hy101]; with_reducible exact H2_) | (have H2_ := (Option.bind_some _ _).symm.trans H; with_reducible exact H2_) | with_reducible exact H | (rw [hy101]; exact H) | exact H
          have Ny101 := Aside0.mk hy101
          clear hy101
          have H' := Aside0.mk H
          clear H
          have q7 : ((ji4) : Int) ≤ ((l0.length : Int) : Int) := of_decide_eq_true (by first | (with_reducible assumption) | assumption)
          obtain ⟨i07, hi07, _, hsz7, _⟩ := info_parts info2
          have hroom7 : l0.length ≤ c0 := (Kd.V_reads' HO0.out).2.1
          have hC7 : Kd.F (Kd.int .i64) _ _ A0 l0.length l0 := (Kd.V_at (base := w.heap.size) HO0.out).2.2
          have q07 : (0 : Int) ≤ ((ji4) : Int) := of_decide_eq_true (by first | (with_reducible assumption) | assumption)
          have hcut7 := cut_from (P := Try.prog) 22 2 .i64 Try.underlying22 hi07 1 hsz7 A0 l0.length c0 (ji4) q07 q7
          have hr7 := Kd.F_cut (m := ((ji4) : Int).toNat) (c := c0) hC7 (by omega) hroom7
          obtain ⟨A7, hA7⟩ : ∃ A1, A1 = (if c0 = ((ji4) : Int).toNat then A0 else (A0 : Option Addr).map (·.add (((ji4) : Int).toNat * 1))) := ⟨_, rfl⟩
          obtain ⟨c7, hc7⟩ : ∃ c1, c1 = c0 - ((ji4) : Int).toNat := ⟨_, rfl⟩
          have hy7 : y101.length = l0.length - ((ji4) : Int).toNat := (by rw [Ny101.out, List.length_drop] <;> omega)
          rw [show (l0).drop ((ji4) : Int).toNat = y101 from Ny101.out.symm] at hr7
          replace hr7 : Kd.F (Kd.int .i64) _ _ A7 y101.length y101 := (by rw [hA7]; exact hr7)
          rw [← hy7, ← hA7, ← hc7] at hcut7
          have HO105 := Aside0.mk (show Kd.V (Kd.int .i64) 2 _ w.heap.size _ (.slice A7 y101.length c7) y101 from Kd.V_mk (by rw [hy7, hc7]; exact Nat.sub_le_sub_right hroom7 _) hr7)
          have HC105 := Aside0.mk (show y101.length ≤ c7 from by rw [hy7, hc7]; exact Nat.sub_le_sub_right hroom7 _)
          clear hr7 hC7 hroom7 hi07 hsz7 hc7
          have KY7 := Aside0.mk hy7
          have KA7 := Aside0.mk hA7
          clear hy7 hA7
          replace q7 := eq_true q7
          go_wp2
          go_meet
          case rel => exact ⟨_, (y101), H', ⟨by first | omega | exact Nat.le_refl _⟩, ⟨by (with_reducible repeat (first | apply Kd.V_alloc | apply Kd.V_drewN | apply Kd.V_drew)); exact HO105.out⟩, ⟨by repeat (first | (with_reducible first | exact HB.out | apply below_alloc | apply pw_below_drewN | apply below_drew1) | exact HB.out)⟩⟩
        · rw [if_neg c6] at H
          exact absurd H (by simp)
      · rw [if_neg c5] at H
        exact absurd H (by simp)
    · rw [if_neg c3] at H
      have c3b0 : decide (8 < (l0.length : Int)) = false := decide_eq_false c3
      have c3b1 : decide (8 < l0.length) = false := decide_eq_false (by omega)
      clear c3
      (first | rw [c3b0] | (simp only [i64_w, i32_w]; rw [c3b0]) | skip)
      have H' := Aside0.mk H
      clear H
      go_wp2
      go_meet
      case rel => exact ⟨_, (l0), H', ⟨by first | omega | exact Nat.le_refl _⟩, ⟨by (with_reducible repeat (first | apply Kd.V_alloc | apply Kd.V_drewN | apply Kd.V_drew)); exact HO0.out⟩, ⟨by repeat (first | (with_reducible first | exact HB.out | apply below_alloc | apply pw_below_drewN | apply below_drew1) | exact HB.out)⟩⟩
  case rest =>
    clear HC2
    try clear c1
    try clear p2
    try clear c3
    try clear c3b0
    try clear c3b1
    try clear c5
    try clear c5b0
    try clear c5b1
    try clear c6
    try clear c6b0
    try clear c6b1
    try clear p6
    try clear c7
    try clear q7
    try clear q07
    try clear q7
    obtain ⟨kq, x0_1, HA, HJ1, HO_0, HB⟩ := hcut
    cases kq with
    | zero => exact absurd HA.out (by simp [cast_Next.j0])
    | succ kj1 =>
      have H := HA.out
      clear HA
      simp only [cast_Next.j0] at H
      have H' := Aside0.mk H
      clear H
      obtain ⟨Ao8, co8, eo8⟩ := Kd.V_slice HO_0.out
      subst eo8
      go_wp2
      go_loopg [4, 5, 6, 7, 26] kj1 (fun kq v4 v5 v6 v7 v26 w' => ∃ (x4_2 : Int) (x5_2 : Int) (x6_2 : Int) (x7_2 : Int) (x26_2 : Int), v4 = .int .i64 x4_2 ∧ v5 = .int .i64 x5_2 ∧ v6 = .int .i64 x6_2 ∧ v7 = .int .i64 x7_2 ∧ v26 = .int .i64 x26_2 ∧ Aside0 (cast_Next.l0 kq (x0_1.length : Int) x4_2 x5_2 x6_2 x7_2 x0_1 (x0_1.length : Int) x26_2 = some r) ∧ Aside0 (kq ≤ kj1) ∧ Aside0 (Kd.V (Kd.int .i64) 2 w' w.heap.size (fun k_ => (P0_ k_ ∨ w.heap.size ≤ k_)) (.slice Ao8 x0_1.length co8) x0_1) ∧ Aside0 (Below w.heap.size w w'))
      case atStart => exact ⟨(0), (0), (0), (0), (0), (by first | rfl | (simp; done) | (simp [*]; done)), (by first | rfl | (simp; done) | (simp [*]; done)), (by first | rfl | (simp; done) | (simp [*]; done)), (by first | rfl | (simp; done) | (simp [*]; done)), (by first | rfl | (simp; done) | (simp [*]; done)), H', ⟨Nat.le_refl _⟩, ⟨by (with_reducible repeat (first | apply Kd.V_alloc | apply Kd.V_drewN | apply Kd.V_drew)); exact HO_0.out⟩, ⟨by repeat (first | (with_reducible first | exact HB.out | apply below_alloc | apply pw_below_drewN | apply below_drew1) | exact HB.out)⟩⟩
      case round =>
        clear H'
        try clear c1
        try clear p2
        try clear c3
        try clear c3b0
        try clear c3b1
        try clear c5
        try clear c5b0
        try clear c5b1
        try clear c6
        try clear c6b0
        try clear c6b1
        try clear p6
        try clear c7
        try clear q7
        try clear p2
        try clear p6
        try clear q07
        try clear q7
        obtain ⟨x4_2, x5_2, x6_2, x7_2, x26_2, rfl, rfl, rfl, rfl, rfl, HA, HK2, HO_24, HB⟩ := hrel
        cases gk with
        | zero => exact absurd HA.out (by simp [cast_Next.l0])
        | succ k2 =>
          have H := HA.out
          clear HA
          simp only [cast_Next.l0] at H
          by_cases c9 : x26_2 < (x0_1.length : Int)
          · rw [if_pos c9] at H
            have c9b0 : decide (x26_2 < (x0_1.length : Int)) = true := decide_eq_true c9
            clear c9
            by_cases c10 : 0 ≤ x26_2
            · rw [if_pos c10] at H
              have c10b0 : decide (0 ≤ x26_2) = true := decide_eq_true c10
              clear c10
              by_cases c11 : x26_2 < (x0_1.length : Int)
              · rw [if_pos c11] at H
                have c11b0 : decide (x26_2 < (x0_1.length : Int)) = true := decide_eq_true c11
                clear c11
                replace H := Option.bind_eq_some_iff.mp H
                obtain ⟨t107, A120, H⟩ := H
                replace H : (cast_Next.l0 k2 (x0_1.length : Int) (wrap64 (x4_2 + x26_2)) (wrap64 (x5_2 + t107)) (wrap64 (x6_2 + (wrap64 (x26_2 * x26_2)))) (wrap64 (x7_2 + (wrap64 (x26_2 * t107)))) x0_1 (x0_1.length : Int) (wrap64 (x26_2 + 1))) = some r := H
                have A12 := Aside0.mk A120
                clear A120
                have H' := Aside0.mk H
                clear H
                have p106 : 0 ≤ (x26_2 : Int) := of_decide_eq_true (by first | (with_reducible assumption) | assumption)
                have q106 : x26_2 < (x0_1.length : Int) := of_decide_eq_true (by first | (with_reducible assumption) | assumption)
                obtain ⟨ad106, e106, hx106_0⟩ := Kd.at_int (Kd.V_reads' HO_24.out).2.2 x26_2 p106 q106
                cases e106
                replace p106 := eq_true p106
                replace q106 := eq_true q106
                go_wp2_with (first | ((with_reducible refine gate_callee (f := 22) rfl ?_); refine goesL_ (some 33) rfl rfl Try.func22 (by kernel_rfl) rfl #[.int .i64 (rd x0_1 x26_2), .int .i64 0, .int .i64 1099511627776] rfl (by (try simp only [List.map_toArray, List.map_cons, List.map_nil]); first | done | rfl | (simp only [List.length_drop, List.length_take]; rfl)) ?_; (with_reducible refine (num_Clamp.calls (rd x0_1 x26_2) 0 1099511627776 t107 _ A12.out).mono ?_); rintro e w13 ⟨rfl, hb⟩; refine ⟨_, rfl, ?_⟩; have n0_ := Aside0.mk (Kd.V_below (by (with_reducible repeat (first | apply Kd.V_alloc | apply Kd.V_drewN | apply Kd.V_drew)); exact HO_24.out) hb); have n1_ := Aside0.mk (below_step (by repeat (first | (with_reducible first | exact HB.out | apply below_alloc | apply pw_below_drewN | apply below_drew1) | exact HB.out)) hb); clear HO_24; clear HB; have HO_24 := n0_; have HB := n1_; clear n0_ n1_; (try clear hb); (try clear hb2); (try clear hk); (try clear hi)))
                go_roundg k2
                case measure => have := HJ1.out; have := HK2.out; omega
                case rel => exact ⟨(wrap64 (x4_2 + x26_2)), (wrap64 (x5_2 + t107)), (wrap64 (x6_2 + (wrap64 (x26_2 * x26_2)))), (wrap64 (x7_2 + (wrap64 (x26_2 * t107)))), (wrap64 (x26_2 + 1)), (by first | rfl | (simp; done) | (simp [*]; done)), (by first | rfl | (simp; done) | (simp [*]; done)), (by first | rfl | (simp; done) | (simp [*]; done)), (by first | rfl | (simp; done) | (simp [*]; done)), (by first | rfl | (simp; done) | (simp [*]; done)), H', ⟨by have := HJ1.out; have := HK2.out; omega⟩, ⟨by (with_reducible repeat (first | apply Kd.V_alloc | apply Kd.V_drewN | apply Kd.V_drew)); exact HO_24.out⟩, ⟨by repeat (first | (with_reducible first | exact HB.out | apply below_alloc | apply pw_below_drewN | apply below_drew1) | exact HB.out)⟩⟩
              · rw [if_neg c11] at H
                exact absurd H (by simp)
            · rw [if_neg c10] at H
              exact absurd H (by simp)
          · rw [if_neg c9] at H
            have c9b0 : decide (x26_2 < (x0_1.length : Int)) = false := decide_eq_false c9
            clear c9
            by_cases c14 : (x0_1.length : Int) = 0
            · rw [if_pos c14] at H
              have c14b0 : ((x0_1.length : Int) == 0) = true := beq_iff_eq.mpr c14
              have c14b1 : ((x0_1.length : Int) != 0) = false := bne_eq_false_iff_eq.mpr c14
              clear c14
              obtain rfl := Option.some.inj H
              go_wp2
              go_ret
              exact ⟨by first | rfl | (simp [errW_none, errW_some] <;> rfl) | (simp [*, errW_none, errW_some] <;> rfl), by repeat (first | (with_reducible first | exact HB.out | apply below_alloc | apply pw_below_drewN | apply below_drew1) | exact HB.out)⟩
            · rw [if_neg c14] at H
              have c14b0 : ((x0_1.length : Int) == 0) = false := beq_eq_false_iff_ne.mpr c14
              have c14b1 : ((x0_1.length : Int) != 0) = true := bne_iff_ne.mpr c14
              have c14b2 : ¬ (x0_1 = []) := fun h_ => c14 (by rw [h_]; rfl)
              by_cases c15 : (x0_1.length : Int) = 1
              · rw [if_pos c15] at H
                have c15b0 : ((x0_1.length : Int) == 1) = true := beq_iff_eq.mpr c15
                have c15b1 : ((x0_1.length : Int) != 1) = false := bne_eq_false_iff_eq.mpr c15
                clear c15
                obtain rfl := Option.some.inj H
                go_wp2
                go_ret
                exact ⟨by first | rfl | (simp [errW_none, errW_some] <;> rfl) | (simp [*, errW_none, errW_some] <;> rfl), by repeat (first | (with_reducible first | exact HB.out | apply below_alloc | apply pw_below_drewN | apply below_drew1) | exact HB.out)⟩
              · rw [if_neg c15] at H
                have c15b0 : ((x0_1.length : Int) == 1) = false := beq_eq_false_iff_ne.mpr c15
                have c15b1 : ((x0_1.length : Int) != 1) = true := bne_iff_ne.mpr c15
                by_cases c16 : (wrap64 ((wrap64 (x5_2 * (wrap64 ((wrap64 ((x0_1.length : Int) * x6_2)) - (wrap64 (x4_2 * x4_2)))))) + (wrap64 ((wrap64 ((wrap64 ((x0_1.length : Int) * x7_2)) - (wrap64 (x4_2 * x5_2)))) * (wrap64 ((wrap64 ((x0_1.length : Int) * (x0_1.length : Int))) - x4_2)))))) < 0
                · rw [if_pos c16] at H
                  have c16b0 : decide ((wrap64 ((wrap64 (x5_2 * (wrap64 ((wrap64 ((x0_1.length : Int) * x6_2)) - (wrap64 (x4_2 * x4_2)))))) + (wrap64 ((wrap64 ((wrap64 ((x0_1.length : Int) * x7_2)) - (wrap64 (x4_2 * x5_2)))) * (wrap64 ((wrap64 ((x0_1.length : Int) * (x0_1.length : Int))) - x4_2)))))) < 0) = true := decide_eq_true c16
                  clear c16
                  obtain rfl := Option.some.inj H
                  go_wp2
                  go_ret
                  exact ⟨by first | rfl | (simp [errW_none, errW_some] <;> rfl) | (simp [*, errW_none, errW_some] <;> rfl), by repeat (first | (with_reducible first | exact HB.out | apply below_alloc | apply pw_below_drewN | apply below_drew1) | exact HB.out)⟩
                · rw [if_neg c16] at H
                  have c16b0 : decide ((wrap64 ((wrap64 (x5_2 * (wrap64 ((wrap64 ((x0_1.length : Int) * x6_2)) - (wrap64 (x4_2 * x4_2)))))) + (wrap64 ((wrap64 ((wrap64 ((x0_1.length : Int) * x7_2)) - (wrap64 (x4_2 * x5_2)))) * (wrap64 ((wrap64 ((x0_1.length : Int) * (x0_1.length : Int))) - x4_2)))))) < 0) = false := decide_eq_false c16
                  clear c16
                  by_cases c17 : (wrap64 ((x0_1.length : Int) * (wrap64 ((wrap64 ((x0_1.length : Int) * x6_2)) - (wrap64 (x4_2 * x4_2)))))) = 0
                  · rw [if_pos c17] at H
                    exact absurd H (by simp)
                  · rw [if_neg c17] at H
                    have c17b0 : ((wrap64 ((x0_1.length : Int) * (wrap64 ((wrap64 ((x0_1.length : Int) * x6_2)) - (wrap64 (x4_2 * x4_2)))))) == 0) = false := beq_eq_false_iff_ne.mpr c17
                    have c17b1 : ((wrap64 ((x0_1.length : Int) * (wrap64 ((wrap64 ((x0_1.length : Int) * x6_2)) - (wrap64 (x4_2 * x4_2)))))) != 0) = true := bne_iff_ne.mpr c17
                    replace H := Option.bind_eq_some_iff.mp H
                    obtain ⟨t108, A180, H⟩ := H
                    replace H : (some t108) = some r := H
                    have A18 := Aside0.mk A180
                    clear A180
                    obtain rfl := Option.some.inj H
                    go_wp2_with (first | ((with_reducible refine gate_callee (f := 22) rfl ?_); refine goesL_ (some 89) rfl rfl Try.func22 (by kernel_rfl) rfl #[.int .i64 (wrap64 (Int.tdiv (wrap64 ((wrap64 (x5_2 * (wrap64 ((wrap64 ((x0_1.length : Int) * x6_2)) - (wrap64 (x4_2 * x4_2)))))) + (wrap64 ((wrap64 ((wrap64 ((x0_1.length : Int) * x7_2)) - (wrap64 (x4_2 * x5_2)))) * (wrap64 ((wrap64 ((x0_1.length : Int) * (x0_1.length : Int))) - x4_2)))))) (wrap64 ((x0_1.length : Int) * (wrap64 ((wrap64 ((x0_1.length : Int) * x6_2)) - (wrap64 (x4_2 * x4_2)))))))), .int .i64 0, .int .i64 1099511627776] rfl (by (try simp only [List.map_toArray, List.map_cons, List.map_nil]); first | done | rfl | (simp only [List.length_drop, List.length_take]; rfl)) ?_; (with_reducible refine (num_Clamp.calls (wrap64 (Int.tdiv (wrap64 ((wrap64 (x5_2 * (wrap64 ((wrap64 ((x0_1.length : Int) * x6_2)) - (wrap64 (x4_2 * x4_2)))))) + (wrap64 ((wrap64 ((wrap64 ((x0_1.length : Int) * x7_2)) - (wrap64 (x4_2 * x5_2)))) * (wrap64 ((wrap64 ((x0_1.length : Int) * (x0_1.length : Int))) - x4_2)))))) (wrap64 ((x0_1.length : Int) * (wrap64 ((wrap64 ((x0_1.length : Int) * x6_2)) - (wrap64 (x4_2 * x4_2)))))))) 0 1099511627776 t108 _ A18.out).mono ?_); rintro e w19 ⟨rfl, hb⟩; refine ⟨_, rfl, ?_⟩; have n0_ := Aside0.mk (Kd.V_below (by (with_reducible repeat (first | apply Kd.V_alloc | apply Kd.V_drewN | apply Kd.V_drew)); exact HO_24.out) hb); have n1_ := Aside0.mk (below_step (by repeat (first | (with_reducible first | exact HB.out | apply below_alloc | apply pw_below_drewN | apply below_drew1) | exact HB.out)) hb); clear HO_24; clear HB; have HO_24 := n0_; have HB := n1_; clear n0_ n1_; (try clear hb); (try clear hb2); (try clear hk); (try clear hi)))
                    go_ret
                    exact ⟨by first | rfl | (simp [errW_none, errW_some] <;> rfl) | (simp [*, errW_none, errW_some] <;> rfl), by repeat (first | (with_reducible first | exact HB.out | apply below_alloc | apply pw_below_drewN | apply below_drew1) | exact HB.out)⟩

/-! ### greenhouselaw06_head: function 15 -/
def greenhouselaw06_head.f (k : Nat)  : Option (Bool) := (cast_Next.f k (([3, 5, 7] : List Int))).bind fun t112 => (if t112 = 9 then ((cast_Next.f k (([10, 0] : List Int))).bind fun t116 => (if t116 = 0 then ((cast_Next.f k (([4] : List Int))).bind fun t120 => (some (t120 == 4))) else (some false))) else (some false))
theorem greenhouselaw06_head.mono : ∀ k, LeO (greenhouselaw06_head.f k ) (greenhouselaw06_head.f (k + 1) ) := by
  intro  k
  unfold greenhouselaw06_head.f
  repeat' first
      | (with_reducible exact cast_Next.mono _ _)
      | (with_reducible exact LeO.refl _)
      | (with_reducible exact LeO.none _)
      | (with_reducible refine LeO.ite ?_ ?_)
      | (with_reducible refine LeO.bind ?_ (fun _ => ?_))
      | exact cast_Next.mono _ _
      | exact LeO.none _
      | refine LeO.ite ?_ ?_
      | refine LeO.bind ?_ (fun _ => ?_)
set_option maxHeartbeats 8000000 in
set_option maxRecDepth 100000 in
theorem greenhouselaw06_head.calls (k : Nat)  (r : Bool) (w : World) (h : greenhouselaw06_head.f k  = some r) :
    Calls Try.prog 15 #[] w fun e w' => e = .returned (.bool r) ∧ Below w.heap.size w w' := by
  have HB := Aside0.mk (Below.refl w.heap.size w)
  have H : ((cast_Next.f k (([3, 5, 7] : List Int))).bind fun t112 => (if t112 = 9 then ((cast_Next.f k (([10, 0] : List Int))).bind fun t116 => (if t116 = 0 then ((cast_Next.f k (([4] : List Int))).bind fun t120 => (some (t120 == 4))) else (some false))) else (some false))) = some r := h
  clear h
  obtain ⟨y109, hy109⟩ : ∃ y_ : List Int, y_ = (([3, 5, 7] : List Int)) := ⟨_, rfl⟩
  replace H : ((cast_Next.f k y109).bind fun t112 => (if t112 = 9 then ((cast_Next.f k (([10, 0] : List Int))).bind fun t116 => (if t116 = 0 then ((cast_Next.f k (([4] : List Int))).bind fun t120 => (some (t120 == 4))) else (some false))) else (some false))) = some r := by first | (rw [hy109]; with_reducible exact H) | (have H2_ := (Option.bind_some _ _).symm.trans H; rw [hy109]; with_reducible exact H2_) | (have H2_ := (Option.bind_some _ _).symm.trans H; with_reducible exact H2_) | with_reducible exact H | (rw [hy109]; exact H) | exact H
  have Ny109 := Aside0.mk hy109
  clear hy109
  replace H := Option.bind_eq_some_iff.mp H
  obtain ⟨t112, A10, H⟩ := H
  replace H : (if t112 = 9 then ((cast_Next.f k (([10, 0] : List Int))).bind fun t116 => (if t116 = 0 then ((cast_Next.f k (([4] : List Int))).bind fun t120 => (some (t120 == 4))) else (some false))) else (some false)) = some r := H
  have A1 := Aside0.mk A10
  clear A10
  by_cases c2 : t112 = 9
  · rw [if_pos c2] at H
    have c2b0 : (t112 == 9) = true := beq_iff_eq.mpr c2
    have c2b1 : (t112 != 9) = false := bne_eq_false_iff_eq.mpr c2
    clear c2
    obtain ⟨y113, hy113⟩ : ∃ y_ : List Int, y_ = (([10, 0] : List Int)) := ⟨_, rfl⟩
    replace H : ((cast_Next.f k y113).bind fun t116 => (if t116 = 0 then ((cast_Next.f k (([4] : List Int))).bind fun t120 => (some (t120 == 4))) else (some false))) = some r := by first | (rw [hy113]; with_reducible exact H) | (have H2_ := (Option.bind_some _ _).symm.trans H; rw [hy113]; with_reducible exact H2_) | (have H2_ := (Option.bind_some _ _).symm.trans H; with_reducible exact H2_) | with_reducible exact H | (rw [hy113]; exact H) | exact H
    have Ny113 := Aside0.mk hy113
    clear hy113
    replace H := Option.bind_eq_some_iff.mp H
    obtain ⟨t116, A30, H⟩ := H
    replace H : (if t116 = 0 then ((cast_Next.f k (([4] : List Int))).bind fun t120 => (some (t120 == 4))) else (some false)) = some r := H
    have A3 := Aside0.mk A30
    clear A30
    by_cases c4 : t116 = 0
    · rw [if_pos c4] at H
      have c4b0 : (t116 == 0) = true := beq_iff_eq.mpr c4
      have c4b1 : (t116 != 0) = false := bne_eq_false_iff_eq.mpr c4
      clear c4
      obtain ⟨y117, hy117⟩ : ∃ y_ : List Int, y_ = (([4] : List Int)) := ⟨_, rfl⟩
      replace H : ((cast_Next.f k y117).bind fun t120 => (some (t120 == 4))) = some r := by first | (rw [hy117]; with_reducible exact H) | (have H2_ := (Option.bind_some _ _).symm.trans H; rw [hy117]; with_reducible exact H2_) | (have H2_ := (Option.bind_some _ _).symm.trans H; with_reducible exact H2_) | with_reducible exact H | (rw [hy117]; exact H) | exact H
      have Ny117 := Aside0.mk hy117
      clear hy117
      replace H := Option.bind_eq_some_iff.mp H
      obtain ⟨t120, A50, H⟩ := H
      replace H : (some (t120 == 4)) = some r := H
      have A5 := Aside0.mk A50
      clear A50
      obtain rfl := Option.some.inj H
      go_enter Try.func15, Try.ntmps15
      go_wp2_with (first | ((with_reducible refine gate_dst (N := 1) rfl ?_); (try (refine gate_guard (by rfl) ?_; dsimp only)); refine Kd.R_lit (Kd.int .i64) _ 2 ?hg (N := 1) ?hd (xs := ([3, 5, 7] : List Int)) (inner := [.int .i64 3, .int .i64 5, .int .i64 7]) (ok := fun _ => True) (okp := fun _ => True) ?hr ?hp (fun _ hk => hk) trivial (Below.refl _ _) (Nat.le_refl _) (by simp) ?_; (case hd => rfl); (case hg => rfl); (case hr => first | (go_simp; done) | (go_simp; rfl)); (case hp => exact (Reps.one (show Kd.M (Kd.int .i64) _ _ _ 3 [.int .i64 3] from rfl) (Reps.one (show Kd.M (Kd.int .i64) _ _ _ 5 [.int .i64 5] from rfl) (Reps.one (show Kd.M (Kd.int .i64) _ _ _ 7 [.int .i64 7] from rfl) (Reps.none _ _))))); intro v110 w6 ho7 hb hg_ hnew_; clear hg_ hnew_; (first | rw [← Ny109.out] at ho7 | (simp only [Int.reduceToNat] at ho7; rw [← Ny109.out] at ho7)); have n0_ := Aside0.mk (Kd.R_lower ho7 (below_size (by repeat (first | (with_reducible first | exact HB.out | apply below_alloc | apply pw_below_drewN | apply below_drew1) | exact HB.out)))); have n1_ := Aside0.mk (below_step (by repeat (first | (with_reducible first | exact HB.out | apply below_alloc | apply pw_below_drewN | apply below_drew1) | exact HB.out)) hb); clear HB; have HO111 := n0_; have HB := n1_; clear n0_ n1_; clear hb ho7; obtain ⟨Ao8, co8, eo8⟩ := Kd.R_slice HO111.out; subst eo8) | ((with_reducible refine gate_callee (f := 16) rfl ?_); refine goesL_ (some 2) rfl rfl Try.func16 (by kernel_rfl) rfl #[.slice Ao8 y109.length co8] rfl (by (try simp only [List.map_toArray, List.map_cons, List.map_nil]); first | done | rfl | (simp only [List.length_drop, List.length_take]; rfl)) ?_; (with_reducible refine (cast_Next.calls k (fun k_ => some k_ = (.slice Ao8 y109.length co8 : Value).ownBlock) _ _ y109 t112 _ ?side1 A1.out).mono ?_); (case side1 => exact Kd.R_V (Kd.R_tight rfl (HO111.out))); rintro e w9 ⟨rfl, hb⟩; refine ⟨_, rfl, ?_⟩; have n0_ := Aside0.mk (Kd.R_below (by (with_reducible repeat (first | apply Kd.R_alloc | apply Kd.R_drewN | apply Kd.R_drew)); exact HO111.out) hb); have n1_ := Aside0.mk (below_step (by repeat (first | (with_reducible first | exact HB.out | apply below_alloc | apply pw_below_drewN | apply below_drew1) | exact HB.out)) hb); clear HO111; clear HB; have HO111 := n0_; have HB := n1_; clear n0_ n1_; (try clear hb); (try clear hb2); (try clear hk); (try clear hi)) | ((with_reducible refine gate_dst (N := 5) rfl ?_); (try (refine gate_guard (by rfl) ?_; dsimp only)); refine Kd.R_lit (Kd.int .i64) _ 2 ?hg (N := 5) ?hd (xs := ([10, 0] : List Int)) (inner := [.int .i64 10, .int .i64 0]) (ok := fun _ => True) (okp := fun _ => True) ?hr ?hp (fun _ hk => hk) trivial (Below.refl _ _) (Nat.le_refl _) (by simp) ?_; (case hd => rfl); (case hg => rfl); (case hr => first | (go_simp; done) | (go_simp; rfl)); (case hp => exact (Reps.one (show Kd.M (Kd.int .i64) _ _ _ 10 [.int .i64 10] from rfl) (Reps.one (show Kd.M (Kd.int .i64) _ _ _ 0 [.int .i64 0] from rfl) (Reps.none _ _)))); intro v114 w10 ho11 hb hg_ hnew_; clear hg_ hnew_; (first | rw [← Ny113.out] at ho11 | (simp only [Int.reduceToNat] at ho11; rw [← Ny113.out] at ho11)); have n0_ := Aside0.mk (Kd.R_elder' (by (with_reducible repeat (first | apply Kd.R_alloc | apply Kd.R_drewN | apply Kd.R_drew)); exact HO111.out) (Kd.R_base ho11) hb); have n1_ := Aside0.mk (Kd.R_lower (Kd.R_new' ho11 (Kd.R_lt (by (with_reducible repeat (first | apply Kd.R_alloc | apply Kd.R_drewN | apply Kd.R_drew)); exact HO111.out))) (below_size (by repeat (first | (with_reducible first | exact HB.out | apply below_alloc | apply pw_below_drewN | apply below_drew1) | exact HB.out)))); have n2_ := Aside0.mk (below_step (by repeat (first | (with_reducible first | exact HB.out | apply below_alloc | apply pw_below_drewN | apply below_drew1) | exact HB.out)) hb); clear HO111; clear HB; have HO111 := n0_; have HO115 := n1_; have HB := n2_; clear n0_ n1_ n2_; clear hb ho11; obtain ⟨Ao12, co12, eo12⟩ := Kd.R_slice HO115.out; subst eo12) | (go_at_call 16; (with_reducible refine (cast_Next.calls k (fun k_ => some k_ = (.slice Ao12 y113.length co12 : Value).ownBlock) _ _ y113 t116 _ ?side1 A3.out).mono ?_); (case side1 => exact Kd.R_V (Kd.R_tight rfl (HO115.out))); rintro e w13 ⟨rfl, hb⟩; have n0_ := Aside0.mk (Kd.R_below (by (with_reducible repeat (first | apply Kd.R_alloc | apply Kd.R_drewN | apply Kd.R_drew)); exact HO111.out) hb); have n1_ := Aside0.mk (Kd.R_below (by (with_reducible repeat (first | apply Kd.R_alloc | apply Kd.R_drewN | apply Kd.R_drew)); exact HO115.out) hb); have n2_ := Aside0.mk (below_step (by repeat (first | (with_reducible first | exact HB.out | apply below_alloc | apply pw_below_drewN | apply below_drew1) | exact HB.out)) hb); clear HO111; clear HO115; clear HB; have HO111 := n0_; have HO115 := n1_; have HB := n2_; clear n0_ n1_ n2_; (try clear hb); (try clear hb2); (try clear hk); (try clear hi)) | ((with_reducible refine gate_dst (N := 10) rfl ?_); (try (refine gate_guard (by rfl) ?_; dsimp only)); refine Kd.R_lit (Kd.int .i64) _ 2 ?hg (N := 10) ?hd (xs := ([4] : List Int)) (inner := [.int .i64 4]) (ok := fun _ => True) (okp := fun _ => True) ?hr ?hp (fun _ hk => hk) trivial (Below.refl _ _) (Nat.le_refl _) (by simp) ?_; (case hd => rfl); (case hg => rfl); (case hr => first | (go_simp; done) | (go_simp; rfl)); (case hp => exact (Reps.one (show Kd.M (Kd.int .i64) _ _ _ 4 [.int .i64 4] from rfl) (Reps.none _ _))); intro v118 w14 ho15 hb hg_ hnew_; clear hg_ hnew_; (first | rw [← Ny117.out] at ho15 | (simp only [Int.reduceToNat] at ho15; rw [← Ny117.out] at ho15)); have n0_ := Aside0.mk (Kd.R_elder' (by (with_reducible repeat (first | apply Kd.R_alloc | apply Kd.R_drewN | apply Kd.R_drew)); exact HO111.out) (Kd.R_base ho15) hb); have n1_ := Aside0.mk (Kd.R_elder' (by (with_reducible repeat (first | apply Kd.R_alloc | apply Kd.R_drewN | apply Kd.R_drew)); exact HO115.out) (Kd.R_base ho15) hb); have n2_ := Aside0.mk (Kd.R_lower (Kd.R_new' (Kd.R_new' ho15 (Kd.R_lt (by (with_reducible repeat (first | apply Kd.R_alloc | apply Kd.R_drewN | apply Kd.R_drew)); exact HO111.out))) (Kd.R_lt (by (with_reducible repeat (first | apply Kd.R_alloc | apply Kd.R_drewN | apply Kd.R_drew)); exact HO115.out))) (below_size (by repeat (first | (with_reducible first | exact HB.out | apply below_alloc | apply pw_below_drewN | apply below_drew1) | exact HB.out)))); have n3_ := Aside0.mk (below_step (by repeat (first | (with_reducible first | exact HB.out | apply below_alloc | apply pw_below_drewN | apply below_drew1) | exact HB.out)) hb); clear HO111; clear HO115; clear HB; have HO111 := n0_; have HO115 := n1_; have HO119 := n2_; have HB := n3_; clear n0_ n1_ n2_ n3_; clear hb ho15; obtain ⟨Ao16, co16, eo16⟩ := Kd.R_slice HO119.out; subst eo16) | (go_at_call 16; (with_reducible refine (cast_Next.calls k (fun k_ => some k_ = (.slice Ao16 y117.length co16 : Value).ownBlock) _ _ y117 t120 _ ?side1 A5.out).mono ?_); (case side1 => exact Kd.R_V (Kd.R_tight rfl (HO119.out))); rintro e w17 ⟨rfl, hb⟩; have n0_ := Aside0.mk (Kd.R_below (by (with_reducible repeat (first | apply Kd.R_alloc | apply Kd.R_drewN | apply Kd.R_drew)); exact HO111.out) hb); have n1_ := Aside0.mk (Kd.R_below (by (with_reducible repeat (first | apply Kd.R_alloc | apply Kd.R_drewN | apply Kd.R_drew)); exact HO115.out) hb); have n2_ := Aside0.mk (Kd.R_below (by (with_reducible repeat (first | apply Kd.R_alloc | apply Kd.R_drewN | apply Kd.R_drew)); exact HO119.out) hb); have n3_ := Aside0.mk (below_step (by repeat (first | (with_reducible first | exact HB.out | apply below_alloc | apply pw_below_drewN | apply below_drew1) | exact HB.out)) hb); clear HO111; clear HO115; clear HO119; clear HB; have HO111 := n0_; have HO115 := n1_; have HO119 := n2_; have HB := n3_; clear n0_ n1_ n2_ n3_; (try clear hb); (try clear hb2); (try clear hk); (try clear hi)))
      go_ret
      exact ⟨by first | rfl | (simp [errW_none, errW_some] <;> rfl) | (simp [*, errW_none, errW_some] <;> rfl), by repeat (first | (with_reducible first | exact HB.out | apply below_alloc | apply pw_below_drewN | apply below_drew1) | exact HB.out)⟩
    · rw [if_neg c4] at H
      have c4b0 : (t116 == 0) = false := beq_eq_false_iff_ne.mpr c4
      have c4b1 : (t116 != 0) = true := bne_iff_ne.mpr c4
      obtain rfl := Option.some.inj H
      go_enter Try.func15, Try.ntmps15
      go_wp2_with (first | ((with_reducible refine gate_dst (N := 1) rfl ?_); (try (refine gate_guard (by rfl) ?_; dsimp only)); refine Kd.R_lit (Kd.int .i64) _ 2 ?hg (N := 1) ?hd (xs := ([3, 5, 7] : List Int)) (inner := [.int .i64 3, .int .i64 5, .int .i64 7]) (ok := fun _ => True) (okp := fun _ => True) ?hr ?hp (fun _ hk => hk) trivial (Below.refl _ _) (Nat.le_refl _) (by simp) ?_; (case hd => rfl); (case hg => rfl); (case hr => first | (go_simp; done) | (go_simp; rfl)); (case hp => exact (Reps.one (show Kd.M (Kd.int .i64) _ _ _ 3 [.int .i64 3] from rfl) (Reps.one (show Kd.M (Kd.int .i64) _ _ _ 5 [.int .i64 5] from rfl) (Reps.one (show Kd.M (Kd.int .i64) _ _ _ 7 [.int .i64 7] from rfl) (Reps.none _ _))))); intro v110 w18 ho19 hb hg_ hnew_; clear hg_ hnew_; (first | rw [← Ny109.out] at ho19 | (simp only [Int.reduceToNat] at ho19; rw [← Ny109.out] at ho19)); have n0_ := Aside0.mk (Kd.R_lower ho19 (below_size (by repeat (first | (with_reducible first | exact HB.out | apply below_alloc | apply pw_below_drewN | apply below_drew1) | exact HB.out)))); have n1_ := Aside0.mk (below_step (by repeat (first | (with_reducible first | exact HB.out | apply below_alloc | apply pw_below_drewN | apply below_drew1) | exact HB.out)) hb); clear HB; have HO111 := n0_; have HB := n1_; clear n0_ n1_; clear hb ho19; obtain ⟨Ao20, co20, eo20⟩ := Kd.R_slice HO111.out; subst eo20) | ((with_reducible refine gate_callee (f := 16) rfl ?_); refine goesL_ (some 2) rfl rfl Try.func16 (by kernel_rfl) rfl #[.slice Ao20 y109.length co20] rfl (by (try simp only [List.map_toArray, List.map_cons, List.map_nil]); first | done | rfl | (simp only [List.length_drop, List.length_take]; rfl)) ?_; (with_reducible refine (cast_Next.calls k (fun k_ => some k_ = (.slice Ao20 y109.length co20 : Value).ownBlock) _ _ y109 t112 _ ?side1 A1.out).mono ?_); (case side1 => exact Kd.R_V (Kd.R_tight rfl (HO111.out))); rintro e w21 ⟨rfl, hb⟩; refine ⟨_, rfl, ?_⟩; have n0_ := Aside0.mk (Kd.R_below (by (with_reducible repeat (first | apply Kd.R_alloc | apply Kd.R_drewN | apply Kd.R_drew)); exact HO111.out) hb); have n1_ := Aside0.mk (below_step (by repeat (first | (with_reducible first | exact HB.out | apply below_alloc | apply pw_below_drewN | apply below_drew1) | exact HB.out)) hb); clear HO111; clear HB; have HO111 := n0_; have HB := n1_; clear n0_ n1_; (try clear hb); (try clear hb2); (try clear hk); (try clear hi)) | ((with_reducible refine gate_dst (N := 5) rfl ?_); (try (refine gate_guard (by rfl) ?_; dsimp only)); refine Kd.R_lit (Kd.int .i64) _ 2 ?hg (N := 5) ?hd (xs := ([10, 0] : List Int)) (inner := [.int .i64 10, .int .i64 0]) (ok := fun _ => True) (okp := fun _ => True) ?hr ?hp (fun _ hk => hk) trivial (Below.refl _ _) (Nat.le_refl _) (by simp) ?_; (case hd => rfl); (case hg => rfl); (case hr => first | (go_simp; done) | (go_simp; rfl)); (case hp => exact (Reps.one (show Kd.M (Kd.int .i64) _ _ _ 10 [.int .i64 10] from rfl) (Reps.one (show Kd.M (Kd.int .i64) _ _ _ 0 [.int .i64 0] from rfl) (Reps.none _ _)))); intro v114 w22 ho23 hb hg_ hnew_; clear hg_ hnew_; (first | rw [← Ny113.out] at ho23 | (simp only [Int.reduceToNat] at ho23; rw [← Ny113.out] at ho23)); have n0_ := Aside0.mk (Kd.R_elder' (by (with_reducible repeat (first | apply Kd.R_alloc | apply Kd.R_drewN | apply Kd.R_drew)); exact HO111.out) (Kd.R_base ho23) hb); have n1_ := Aside0.mk (Kd.R_lower (Kd.R_new' ho23 (Kd.R_lt (by (with_reducible repeat (first | apply Kd.R_alloc | apply Kd.R_drewN | apply Kd.R_drew)); exact HO111.out))) (below_size (by repeat (first | (with_reducible first | exact HB.out | apply below_alloc | apply pw_below_drewN | apply below_drew1) | exact HB.out)))); have n2_ := Aside0.mk (below_step (by repeat (first | (with_reducible first | exact HB.out | apply below_alloc | apply pw_below_drewN | apply below_drew1) | exact HB.out)) hb); clear HO111; clear HB; have HO111 := n0_; have HO115 := n1_; have HB := n2_; clear n0_ n1_ n2_; clear hb ho23; obtain ⟨Ao24, co24, eo24⟩ := Kd.R_slice HO115.out; subst eo24) | (go_at_call 16; (with_reducible refine (cast_Next.calls k (fun k_ => some k_ = (.slice Ao24 y113.length co24 : Value).ownBlock) _ _ y113 t116 _ ?side1 A3.out).mono ?_); (case side1 => exact Kd.R_V (Kd.R_tight rfl (HO115.out))); rintro e w25 ⟨rfl, hb⟩; have n0_ := Aside0.mk (Kd.R_below (by (with_reducible repeat (first | apply Kd.R_alloc | apply Kd.R_drewN | apply Kd.R_drew)); exact HO111.out) hb); have n1_ := Aside0.mk (Kd.R_below (by (with_reducible repeat (first | apply Kd.R_alloc | apply Kd.R_drewN | apply Kd.R_drew)); exact HO115.out) hb); have n2_ := Aside0.mk (below_step (by repeat (first | (with_reducible first | exact HB.out | apply below_alloc | apply pw_below_drewN | apply below_drew1) | exact HB.out)) hb); clear HO111; clear HO115; clear HB; have HO111 := n0_; have HO115 := n1_; have HB := n2_; clear n0_ n1_ n2_; (try clear hb); (try clear hb2); (try clear hk); (try clear hi)))
      go_ret
      exact ⟨by first | rfl | (simp [errW_none, errW_some] <;> rfl) | (simp [*, errW_none, errW_some] <;> rfl), by repeat (first | (with_reducible first | exact HB.out | apply below_alloc | apply pw_below_drewN | apply below_drew1) | exact HB.out)⟩
  · rw [if_neg c2] at H
    have c2b0 : (t112 == 9) = false := beq_eq_false_iff_ne.mpr c2
    have c2b1 : (t112 != 9) = true := bne_iff_ne.mpr c2
    obtain rfl := Option.some.inj H
    go_enter Try.func15, Try.ntmps15
    go_wp2_with (first | ((with_reducible refine gate_dst (N := 1) rfl ?_); (try (refine gate_guard (by rfl) ?_; dsimp only)); refine Kd.R_lit (Kd.int .i64) _ 2 ?hg (N := 1) ?hd (xs := ([3, 5, 7] : List Int)) (inner := [.int .i64 3, .int .i64 5, .int .i64 7]) (ok := fun _ => True) (okp := fun _ => True) ?hr ?hp (fun _ hk => hk) trivial (Below.refl _ _) (Nat.le_refl _) (by simp) ?_; (case hd => rfl); (case hg => rfl); (case hr => first | (go_simp; done) | (go_simp; rfl)); (case hp => exact (Reps.one (show Kd.M (Kd.int .i64) _ _ _ 3 [.int .i64 3] from rfl) (Reps.one (show Kd.M (Kd.int .i64) _ _ _ 5 [.int .i64 5] from rfl) (Reps.one (show Kd.M (Kd.int .i64) _ _ _ 7 [.int .i64 7] from rfl) (Reps.none _ _))))); intro v110 w26 ho27 hb hg_ hnew_; clear hg_ hnew_; (first | rw [← Ny109.out] at ho27 | (simp only [Int.reduceToNat] at ho27; rw [← Ny109.out] at ho27)); have n0_ := Aside0.mk (Kd.R_lower ho27 (below_size (by repeat (first | (with_reducible first | exact HB.out | apply below_alloc | apply pw_below_drewN | apply below_drew1) | exact HB.out)))); have n1_ := Aside0.mk (below_step (by repeat (first | (with_reducible first | exact HB.out | apply below_alloc | apply pw_below_drewN | apply below_drew1) | exact HB.out)) hb); clear HB; have HO111 := n0_; have HB := n1_; clear n0_ n1_; clear hb ho27; obtain ⟨Ao28, co28, eo28⟩ := Kd.R_slice HO111.out; subst eo28) | ((with_reducible refine gate_callee (f := 16) rfl ?_); refine goesL_ (some 2) rfl rfl Try.func16 (by kernel_rfl) rfl #[.slice Ao28 y109.length co28] rfl (by (try simp only [List.map_toArray, List.map_cons, List.map_nil]); first | done | rfl | (simp only [List.length_drop, List.length_take]; rfl)) ?_; (with_reducible refine (cast_Next.calls k (fun k_ => some k_ = (.slice Ao28 y109.length co28 : Value).ownBlock) _ _ y109 t112 _ ?side1 A1.out).mono ?_); (case side1 => exact Kd.R_V (Kd.R_tight rfl (HO111.out))); rintro e w29 ⟨rfl, hb⟩; refine ⟨_, rfl, ?_⟩; have n0_ := Aside0.mk (Kd.R_below (by (with_reducible repeat (first | apply Kd.R_alloc | apply Kd.R_drewN | apply Kd.R_drew)); exact HO111.out) hb); have n1_ := Aside0.mk (below_step (by repeat (first | (with_reducible first | exact HB.out | apply below_alloc | apply pw_below_drewN | apply below_drew1) | exact HB.out)) hb); clear HO111; clear HB; have HO111 := n0_; have HB := n1_; clear n0_ n1_; (try clear hb); (try clear hb2); (try clear hk); (try clear hi)))
    go_ret
    exact ⟨by first | rfl | (simp [errW_none, errW_some] <;> rfl) | (simp [*, errW_none, errW_some] <;> rfl), by repeat (first | (with_reducible first | exact HB.out | apply below_alloc | apply pw_below_drewN | apply below_drew1) | exact HB.out)⟩

/-! ### greenhouselaw06_cut: function 18 -/
def greenhouselaw06_cut.f (a0 : Int) : Option (Int) := if a0 < 0 then (some 0) else (if a0 > 1099511627776 then (some 1099511627776) else (some a0))
set_option maxHeartbeats 8000000 in
set_option maxRecDepth 100000 in
theorem greenhouselaw06_cut.calls (a0 : Int) (r : Int) (w : World) (h : greenhouselaw06_cut.f a0 = some r) :
    Calls Try.prog 18 #[.int .i64 a0] w fun e w' => e = .returned (.int .i64 r) ∧ Drawn0 w w' := by
  have H : (if a0 < 0 then (some 0) else (if a0 > 1099511627776 then (some 1099511627776) else (some a0))) = some r := h
  clear h
  by_cases c2 : a0 < 0
  · rw [if_pos c2] at H
    have c2b0 : decide (a0 < 0) = true := decide_eq_true c2
    clear c2
    obtain rfl := Option.some.inj H
    go_enter Try.func18, Try.ntmps18
    go_wp2
    go_ret
    exact ⟨by first | rfl | (simp; done) | (simp [*]; done), by repeat (first | exact Drawn0.refl _ | apply Drawn0.step)⟩
  · rw [if_neg c2] at H
    have c2b0 : decide (a0 < 0) = false := decide_eq_false c2
    clear c2
    by_cases c3 : a0 > 1099511627776
    · rw [if_pos c3] at H
      have c3b0 : decide (1099511627776 < a0) = true := decide_eq_true c3
      clear c3
      obtain rfl := Option.some.inj H
      go_enter Try.func18, Try.ntmps18
      go_wp2
      go_ret
      exact ⟨by first | rfl | (simp; done) | (simp [*]; done), by repeat (first | exact Drawn0.refl _ | apply Drawn0.step)⟩
    · rw [if_neg c3] at H
      have c3b0 : decide (1099511627776 < a0) = false := decide_eq_false c3
      clear c3
      obtain rfl := Option.some.inj H
      go_enter Try.func18, Try.ntmps18
      go_wp2
      go_ret
      exact ⟨by first | rfl | (simp; done) | (simp [*]; done), by repeat (first | exact Drawn0.refl _ | apply Drawn0.step)⟩

/-! ### greenhouselaw06_Next: function 17 -/
mutual
def greenhouselaw06_Next.j0 : Nat → List Int → Option (Int)
  | 0, _ => none
  | k + 1, x0 => if (x0.length : Int) = 0 then (some 0) else (if (x0.length : Int) = 1 then (if 0 < (x0.length : Int) then ((greenhouselaw06_cut.f (rd x0 0)).bind fun t127 => (some t127)) else (none)) else (greenhouselaw06_Next.l0 k (x0.length : Int) 0 x0 (x0.length : Int) 0))
def greenhouselaw06_Next.l0 : Nat → Int → Int → List Int → Int → Int → Option (Int)
  | 0, _, _, _, _, _ => none
  | k + 1, x3, x4, x25, x26, x27 => if x27 < x26 then (if 0 ≤ x27 then (if x27 < (x25.length : Int) then ((greenhouselaw06_cut.f (rd x25 x27)).bind fun t129 => (greenhouselaw06_Next.l0 k x3 (wrap64 (x4 + (wrap64 (t129 * (wrap64 ((wrap64 ((wrap64 (6 * x27)) - (wrap64 (2 * x3)))) + 2)))))) x25 x26 (wrap64 (x27 + 1)))) else (none)) else (none)) else (if x4 < 0 then (some 0) else (if (wrap64 (x3 * (wrap64 (x3 - 1)))) = 0 then (none) else ((greenhouselaw06_cut.f (wrap64 (Int.tdiv x4 (wrap64 (x3 * (wrap64 (x3 - 1))))))).bind fun t130 => (some t130))))
end
def greenhouselaw06_Next.f (k : Nat) (l0 : List Int) : Option (Int) := if (l0.length : Int) > 8 then (if 0 ≤ (wrap64 ((l0.length : Int) - 8)) then (if (wrap64 ((l0.length : Int) - 8)) ≤ (l0.length : Int) then (greenhouselaw06_Next.j0 k (l0.drop ((wrap64 ((l0.length : Int) - 8)) : Int).toNat)) else (none)) else (none)) else (greenhouselaw06_Next.j0 k l0)
theorem greenhouselaw06_Next.mono_l : ∀ k, (∀ y0, LeO (greenhouselaw06_Next.j0 k y0) (greenhouselaw06_Next.j0 (k + 1) y0)) ∧ (∀ y0 y1 y2 y3 y4, LeO (greenhouselaw06_Next.l0 k y0 y1 y2 y3 y4) (greenhouselaw06_Next.l0 (k + 1) y0 y1 y2 y3 y4))
  | 0 => ⟨fun _ r h => by simp [greenhouselaw06_Next.j0] at h, fun _ _ _ _ _ r h => by simp [greenhouselaw06_Next.l0] at h⟩
  | k + 1 => by
    obtain ⟨ih0, ih1⟩ := greenhouselaw06_Next.mono_l k
    refine ⟨?_, ?_⟩
    · intro y0
      unfold greenhouselaw06_Next.j0
      repeat' first
      | (with_reducible exact ih0 _)
      | (with_reducible exact ih1 _ _ _ _ _)
      | (with_reducible exact LeO.refl _)
      | (with_reducible exact LeO.none _)
      | (with_reducible refine LeO.ite ?_ ?_)
      | (with_reducible refine LeO.bind ?_ (fun _ => ?_))
      | exact ih0 _
      | exact ih1 _ _ _ _ _
      | exact LeO.none _
      | refine LeO.ite ?_ ?_
      | refine LeO.bind ?_ (fun _ => ?_)
    · intro y0 y1 y2 y3 y4
      unfold greenhouselaw06_Next.l0
      repeat' first
      | (with_reducible exact ih0 _)
      | (with_reducible exact ih1 _ _ _ _ _)
      | (with_reducible exact LeO.refl _)
      | (with_reducible exact LeO.none _)
      | (with_reducible refine LeO.ite ?_ ?_)
      | (with_reducible refine LeO.bind ?_ (fun _ => ?_))
      | exact ih0 _
      | exact ih1 _ _ _ _ _
      | exact LeO.none _
      | refine LeO.ite ?_ ?_
      | refine LeO.bind ?_ (fun _ => ?_)
theorem greenhouselaw06_Next.mono : ∀ a0 k, LeO (greenhouselaw06_Next.f k a0) (greenhouselaw06_Next.f (k + 1) a0) := by
  intro a0 k
  obtain ⟨ih0, ih1⟩ := greenhouselaw06_Next.mono_l k
  unfold greenhouselaw06_Next.f
  repeat' first
      | (with_reducible exact ih0 _)
      | (with_reducible exact ih1 _ _ _ _ _)
      | (with_reducible exact LeO.refl _)
      | (with_reducible exact LeO.none _)
      | (with_reducible refine LeO.ite ?_ ?_)
      | (with_reducible refine LeO.bind ?_ (fun _ => ?_))
      | exact ih0 _
      | exact ih1 _ _ _ _ _
      | exact LeO.none _
      | refine LeO.ite ?_ ?_
      | refine LeO.bind ?_ (fun _ => ?_)
set_option maxHeartbeats 8000000 in
set_option maxRecDepth 100000 in
theorem greenhouselaw06_Next.calls (k : Nat) (P0_ : Nat → Prop) (A0 : Option Addr) (c0 : Nat) (l0 : List Int) (r : Int) (w : World) (hs0 : Kd.V (Kd.int .i64) 2 w w.heap.size (fun k_ => P0_ k_) (.slice A0 l0.length c0) l0) (h : greenhouselaw06_Next.f k l0 = some r) :
    Calls Try.prog 17 #[.slice A0 l0.length c0] w fun e w' => e = .returned (.int .i64 r) ∧ Below w.heap.size w w' := by
  have HO0 := Aside0.mk (show Kd.V (Kd.int .i64) 2 w w.heap.size (fun k_ => (P0_ k_ ∨ w.heap.size ≤ k_)) (.slice A0 l0.length c0) l0 from Kd.V_mono hs0 (fun k_ hk => .inl hk))
  have HB := Aside0.mk (Below.refl w.heap.size w)
  have H : (if (l0.length : Int) > 8 then (if 0 ≤ (wrap64 ((l0.length : Int) - 8)) then (if (wrap64 ((l0.length : Int) - 8)) ≤ (l0.length : Int) then (greenhouselaw06_Next.j0 k (l0.drop ((wrap64 ((l0.length : Int) - 8)) : Int).toNat)) else (none)) else (none)) else (greenhouselaw06_Next.j0 k l0)) = some r := h
  clear h
  have HC2 := Aside0.mk H
  clear H
  go_enter Try.func17, Try.ntmps17
  go_upto_if 9 with (fail)
  go_cut [0] (fun v0 wc => ∃ (kq : Nat) (x0_1 : List Int), Aside0 (greenhouselaw06_Next.j0 kq x0_1 = some r) ∧ Aside0 (kq ≤ k) ∧ Aside0 (Kd.V (Kd.int .i64) 2 wc w.heap.size (fun k_ => (P0_ k_ ∨ w.heap.size ≤ k_)) v0 x0_1) ∧ Aside0 (Below w.heap.size w wc))
  case first =>
    have H := HC2.out
    clear HC2
    by_cases c3 : (l0.length : Int) > 8
    · rw [if_pos c3] at H
      have c3b0 : decide (8 < (l0.length : Int)) = true := decide_eq_true c3
      have c3b1 : decide (8 < l0.length) = true := decide_eq_true (by omega)
      clear c3
      (first | rw [c3b0] | (simp only [i64_w, i32_w]; rw [c3b0]) | skip)
      obtain ⟨ji4, hji4⟩ : ∃ j_ : Int, (wrap64 ((l0.length : Int) - 8)) = j_ := ⟨_, rfl⟩
      replace H : (if 0 ≤ (ji4) then (if (ji4) ≤ (l0.length : Int) then (greenhouselaw06_Next.j0 k (l0.drop ((ji4) : Int).toNat)) else (none)) else (none)) = some r := by first | (rw [hji4] at H; exact H) | (simp only [hji4] at H ⊢; exact H)
      have hji4w : (IntKind.i64.wrap ((l0.length : Int) - 8)) = ji4 := (i64_w _).trans hji4
      by_cases c5 : 0 ≤ (ji4)
      · rw [if_pos c5] at H
        have c5b0 := eq_true c5
        have c5b1 : decide (0 ≤ (ji4)) = true := decide_eq_true c5
        clear c5
        by_cases c6 : (ji4) ≤ (l0.length : Int)
        · rw [if_pos c6] at H
          have c6b0 := eq_true c6
          have c6b1 : decide ((ji4) ≤ (l0.length : Int)) = true := decide_eq_true c6
          clear c6
          obtain ⟨y121, hy121⟩ : ∃ y_ : List Int, y_ = (l0.drop ((ji4) : Int).toNat) := ⟨_, rfl⟩
          replace H : (greenhouselaw06_Next.j0 k y121) = some r := by first | (rw [hy121]; with_reducible exact H) | (have H2_ := (Option.bind_some _ _).symm.trans H; rw [hy121]; with_reducible exact H2_) | (have H2_ := (Option.bind_some _ _).symm.trans H; with_reducible exact H2_) | with_reducible exact H | (rw [hy121]; exact H) | exact H
          have Ny121 := Aside0.mk hy121
          clear hy121
          have H' := Aside0.mk H
          clear H
          have q7 : ((ji4) : Int) ≤ ((l0.length : Int) : Int) := of_decide_eq_true (by first | (with_reducible assumption) | assumption)
          obtain ⟨i07, hi07, _, hsz7, _⟩ := info_parts info2
          have hroom7 : l0.length ≤ c0 := (Kd.V_reads' HO0.out).2.1
          have hC7 : Kd.F (Kd.int .i64) _ _ A0 l0.length l0 := (Kd.V_at (base := w.heap.size) HO0.out).2.2
          have q07 : (0 : Int) ≤ ((ji4) : Int) := of_decide_eq_true (by first | (with_reducible assumption) | assumption)
          have hcut7 := cut_from (P := Try.prog) 22 2 .i64 Try.underlying22 hi07 1 hsz7 A0 l0.length c0 (ji4) q07 q7
          have hr7 := Kd.F_cut (m := ((ji4) : Int).toNat) (c := c0) hC7 (by omega) hroom7
          obtain ⟨A7, hA7⟩ : ∃ A1, A1 = (if c0 = ((ji4) : Int).toNat then A0 else (A0 : Option Addr).map (·.add (((ji4) : Int).toNat * 1))) := ⟨_, rfl⟩
          obtain ⟨c7, hc7⟩ : ∃ c1, c1 = c0 - ((ji4) : Int).toNat := ⟨_, rfl⟩
          have hy7 : y121.length = l0.length - ((ji4) : Int).toNat := (by rw [Ny121.out, List.length_drop] <;> omega)
          rw [show (l0).drop ((ji4) : Int).toNat = y121 from Ny121.out.symm] at hr7
          replace hr7 : Kd.F (Kd.int .i64) _ _ A7 y121.length y121 := (by rw [hA7]; exact hr7)
          rw [← hy7, ← hA7, ← hc7] at hcut7
          have HO125 := Aside0.mk (show Kd.V (Kd.int .i64) 2 _ w.heap.size _ (.slice A7 y121.length c7) y121 from Kd.V_mk (by rw [hy7, hc7]; exact Nat.sub_le_sub_right hroom7 _) hr7)
          have HC125 := Aside0.mk (show y121.length ≤ c7 from by rw [hy7, hc7]; exact Nat.sub_le_sub_right hroom7 _)
          clear hr7 hC7 hroom7 hi07 hsz7 hc7
          have KY7 := Aside0.mk hy7
          have KA7 := Aside0.mk hA7
          clear hy7 hA7
          replace q7 := eq_true q7
          go_wp2
          go_meet
          case rel => exact ⟨_, (y121), H', ⟨by first | omega | exact Nat.le_refl _⟩, ⟨by (with_reducible repeat (first | apply Kd.V_alloc | apply Kd.V_drewN | apply Kd.V_drew)); exact HO125.out⟩, ⟨by repeat (first | (with_reducible first | exact HB.out | apply below_alloc | apply pw_below_drewN | apply below_drew1) | exact HB.out)⟩⟩
        · rw [if_neg c6] at H
          exact absurd H (by simp)
      · rw [if_neg c5] at H
        exact absurd H (by simp)
    · rw [if_neg c3] at H
      have c3b0 : decide (8 < (l0.length : Int)) = false := decide_eq_false c3
      have c3b1 : decide (8 < l0.length) = false := decide_eq_false (by omega)
      clear c3
      (first | rw [c3b0] | (simp only [i64_w, i32_w]; rw [c3b0]) | skip)
      have H' := Aside0.mk H
      clear H
      go_wp2
      go_meet
      case rel => exact ⟨_, (l0), H', ⟨by first | omega | exact Nat.le_refl _⟩, ⟨by (with_reducible repeat (first | apply Kd.V_alloc | apply Kd.V_drewN | apply Kd.V_drew)); exact HO0.out⟩, ⟨by repeat (first | (with_reducible first | exact HB.out | apply below_alloc | apply pw_below_drewN | apply below_drew1) | exact HB.out)⟩⟩
  case rest =>
    clear HC2
    try clear c1
    try clear p2
    try clear c3
    try clear c3b0
    try clear c3b1
    try clear c5
    try clear c5b0
    try clear c5b1
    try clear c6
    try clear c6b0
    try clear c6b1
    try clear p6
    try clear c7
    try clear q7
    try clear q07
    try clear q7
    obtain ⟨kq, x0_1, HA, HJ1, HO_0, HB⟩ := hcut
    cases kq with
    | zero => exact absurd HA.out (by simp [greenhouselaw06_Next.j0])
    | succ kj1 =>
      have H := HA.out
      clear HA
      simp only [greenhouselaw06_Next.j0] at H
      by_cases c8 : (x0_1.length : Int) = 0
      · rw [if_pos c8] at H
        have c8b0 : ((x0_1.length : Int) == 0) = true := beq_iff_eq.mpr c8
        have c8b1 : ((x0_1.length : Int) != 0) = false := bne_eq_false_iff_eq.mpr c8
        clear c8
        obtain rfl := Option.some.inj H
        obtain ⟨Ao9, co9, eo9⟩ := Kd.V_slice HO_0.out
        subst eo9
        go_wp2
        go_ret
        exact ⟨by first | rfl | (simp [errW_none, errW_some] <;> rfl) | (simp [*, errW_none, errW_some] <;> rfl), by repeat (first | (with_reducible first | exact HB.out | apply below_alloc | apply pw_below_drewN | apply below_drew1) | exact HB.out)⟩
      · rw [if_neg c8] at H
        have c8b0 : ((x0_1.length : Int) == 0) = false := beq_eq_false_iff_ne.mpr c8
        have c8b1 : ((x0_1.length : Int) != 0) = true := bne_iff_ne.mpr c8
        have c8b2 : ¬ (x0_1 = []) := fun h_ => c8 (by rw [h_]; rfl)
        by_cases c10 : (x0_1.length : Int) = 1
        · rw [if_pos c10] at H
          have c10b0 : ((x0_1.length : Int) == 1) = true := beq_iff_eq.mpr c10
          have c10b1 : ((x0_1.length : Int) != 1) = false := bne_eq_false_iff_eq.mpr c10
          clear c10
          by_cases c11 : 0 < (x0_1.length : Int)
          · rw [if_pos c11] at H
            have c11b0 : decide (0 < (x0_1.length : Int)) = true := decide_eq_true c11
            have c11b1 : decide (0 < x0_1.length) = true := decide_eq_true (by omega)
            clear c11
            replace H := Option.bind_eq_some_iff.mp H
            obtain ⟨t127, A120, H⟩ := H
            replace H : (some t127) = some r := H
            have A12 := Aside0.mk A120
            clear A120
            obtain rfl := Option.some.inj H
            obtain ⟨Ao13, co13, eo13⟩ := Kd.V_slice HO_0.out
            subst eo13
            have p126 : 0 ≤ (0 : Int) := (by omega)
            have q126 : 0 < (x0_1.length : Int) := of_decide_eq_true (by first | (with_reducible assumption) | assumption)
            obtain ⟨ad126, e126, hx126_0⟩ := Kd.at_int (Kd.V_reads' HO_0.out).2.2 0 p126 q126
            cases e126
            have qi126 : (0 < x0_1.length) = True := eq_true (by omega)
            (try rw [show ((0 : Int)).toNat = 0 from rfl] at hx126_0)
            (try rw [Addr.add_zero'] at hx126_0)
            replace p126 := eq_true p126
            replace q126 := eq_true q126
            go_wp2_with (first | ((with_reducible refine gate_callee (f := 18) rfl ?_); refine goesL_ (some 24) rfl rfl Try.func18 (by kernel_rfl) rfl #[.int .i64 (rd x0_1 0)] rfl (by (try simp only [List.map_toArray, List.map_cons, List.map_nil]); first | done | rfl | (simp only [List.length_drop, List.length_take]; rfl)) ?_; (with_reducible refine (greenhouselaw06_cut.calls (rd x0_1 0) t127 _ A12.out).mono ?_); rintro e w' ⟨rfl, ⟨nd, rfl⟩⟩; refine ⟨_, rfl, ?_⟩))
            go_ret
            exact ⟨by first | rfl | (simp [errW_none, errW_some] <;> rfl) | (simp [*, errW_none, errW_some] <;> rfl), by repeat (first | (with_reducible first | exact HB.out | apply below_alloc | apply pw_below_drewN | apply below_drew1) | exact HB.out)⟩
          · rw [if_neg c11] at H
            exact absurd H (by simp)
        · rw [if_neg c10] at H
          have c10b0 : ((x0_1.length : Int) == 1) = false := beq_eq_false_iff_ne.mpr c10
          have c10b1 : ((x0_1.length : Int) != 1) = true := bne_iff_ne.mpr c10
          have H' := Aside0.mk H
          clear H
          obtain ⟨Ao14, co14, eo14⟩ := Kd.V_slice HO_0.out
          subst eo14
          go_wp2
          go_loopg [4, 27] kj1 (fun kq v4 v27 w' => ∃ (x4_2 : Int) (x27_2 : Int), v4 = .int .i64 x4_2 ∧ v27 = .int .i64 x27_2 ∧ Aside0 (greenhouselaw06_Next.l0 kq (x0_1.length : Int) x4_2 x0_1 (x0_1.length : Int) x27_2 = some r) ∧ Aside0 (kq ≤ kj1) ∧ Aside0 (Kd.V (Kd.int .i64) 2 w' w.heap.size (fun k_ => (P0_ k_ ∨ w.heap.size ≤ k_)) (.slice Ao14 x0_1.length co14) x0_1) ∧ Aside0 (Below w.heap.size w w'))
          case atStart => exact ⟨(0), (0), (by first | rfl | (simp; done) | (simp [*]; done)), (by first | rfl | (simp; done) | (simp [*]; done)), H', ⟨Nat.le_refl _⟩, ⟨by (with_reducible repeat (first | apply Kd.V_alloc | apply Kd.V_drewN | apply Kd.V_drew)); exact HO_0.out⟩, ⟨by repeat (first | (with_reducible first | exact HB.out | apply below_alloc | apply pw_below_drewN | apply below_drew1) | exact HB.out)⟩⟩
          case round =>
            clear H'
            try clear c1
            try clear p1
            try clear q1
            try clear hx1
            try clear qi1
            try clear p2
            try clear c3
            try clear c3b0
            try clear c3b1
            try clear c5
            try clear c5b0
            try clear c5b1
            try clear c6
            try clear c6b0
            try clear c6b1
            try clear p6
            try clear c7
            try clear q7
            try clear c8
            try clear c8b0
            try clear c8b1
            try clear c8b2
            try clear c10
            try clear c10b0
            try clear c10b1
            try clear c11
            try clear c11b0
            try clear c11b1
            try clear p12
            try clear q12
            try clear hx12
            try clear qi12
            try clear hx126_0
            try clear p126
            try clear p2
            try clear p6
            try clear q07
            try clear q126
            try clear q7
            obtain ⟨x4_2, x27_2, rfl, rfl, HA, HK2, HO_25, HB⟩ := hrel
            cases gk with
            | zero => exact absurd HA.out (by simp [greenhouselaw06_Next.l0])
            | succ k2 =>
              have H := HA.out
              clear HA
              simp only [greenhouselaw06_Next.l0] at H
              by_cases c15 : x27_2 < (x0_1.length : Int)
              · rw [if_pos c15] at H
                have c15b0 : decide (x27_2 < (x0_1.length : Int)) = true := decide_eq_true c15
                clear c15
                by_cases c16 : 0 ≤ x27_2
                · rw [if_pos c16] at H
                  have c16b0 : decide (0 ≤ x27_2) = true := decide_eq_true c16
                  clear c16
                  by_cases c17 : x27_2 < (x0_1.length : Int)
                  · rw [if_pos c17] at H
                    have c17b0 : decide (x27_2 < (x0_1.length : Int)) = true := decide_eq_true c17
                    clear c17
                    replace H := Option.bind_eq_some_iff.mp H
                    obtain ⟨t129, A180, H⟩ := H
                    replace H : (greenhouselaw06_Next.l0 k2 (x0_1.length : Int) (wrap64 (x4_2 + (wrap64 (t129 * (wrap64 ((wrap64 ((wrap64 (6 * x27_2)) - (wrap64 (2 * (x0_1.length : Int))))) + 2)))))) x0_1 (x0_1.length : Int) (wrap64 (x27_2 + 1))) = some r := H
                    have A18 := Aside0.mk A180
                    clear A180
                    have H' := Aside0.mk H
                    clear H
                    have p128 : 0 ≤ (x27_2 : Int) := of_decide_eq_true (by first | (with_reducible assumption) | assumption)
                    have q128 : x27_2 < (x0_1.length : Int) := of_decide_eq_true (by first | (with_reducible assumption) | assumption)
                    obtain ⟨ad128, e128, hx128_0⟩ := Kd.at_int (Kd.V_reads' HO_25.out).2.2 x27_2 p128 q128
                    cases e128
                    replace p128 := eq_true p128
                    replace q128 := eq_true q128
                    go_wp2_with (first | ((with_reducible refine gate_callee (f := 18) rfl ?_); refine goesL_ (some 34) rfl rfl Try.func18 (by kernel_rfl) rfl #[.int .i64 (rd x0_1 x27_2)] rfl (by (try simp only [List.map_toArray, List.map_cons, List.map_nil]); first | done | rfl | (simp only [List.length_drop, List.length_take]; rfl)) ?_; (with_reducible refine (greenhouselaw06_cut.calls (rd x0_1 x27_2) t129 _ A18.out).mono ?_); rintro e w' ⟨rfl, ⟨nd, rfl⟩⟩; refine ⟨_, rfl, ?_⟩))
                    go_roundg k2
                    case measure => have := HJ1.out; have := HK2.out; omega
                    case rel => exact ⟨(wrap64 (x4_2 + (wrap64 (t129 * (wrap64 ((wrap64 ((wrap64 (6 * x27_2)) - (wrap64 (2 * (x0_1.length : Int))))) + 2)))))), (wrap64 (x27_2 + 1)), (by first | rfl | (simp; done) | (simp [*]; done)), (by first | rfl | (simp; done) | (simp [*]; done)), H', ⟨by have := HJ1.out; have := HK2.out; omega⟩, ⟨by (with_reducible repeat (first | apply Kd.V_alloc | apply Kd.V_drewN | apply Kd.V_drew)); exact HO_25.out⟩, ⟨by repeat (first | (with_reducible first | exact HB.out | apply below_alloc | apply pw_below_drewN | apply below_drew1) | exact HB.out)⟩⟩
                  · rw [if_neg c17] at H
                    exact absurd H (by simp)
                · rw [if_neg c16] at H
                  exact absurd H (by simp)
              · rw [if_neg c15] at H
                have c15b0 : decide (x27_2 < (x0_1.length : Int)) = false := decide_eq_false c15
                clear c15
                by_cases c19 : x4_2 < 0
                · rw [if_pos c19] at H
                  have c19b0 : decide (x4_2 < 0) = true := decide_eq_true c19
                  clear c19
                  obtain rfl := Option.some.inj H
                  go_wp2
                  go_ret
                  exact ⟨by first | rfl | (simp [errW_none, errW_some] <;> rfl) | (simp [*, errW_none, errW_some] <;> rfl), by repeat (first | (with_reducible first | exact HB.out | apply below_alloc | apply pw_below_drewN | apply below_drew1) | exact HB.out)⟩
                · rw [if_neg c19] at H
                  have c19b0 : decide (x4_2 < 0) = false := decide_eq_false c19
                  clear c19
                  by_cases c20 : (wrap64 ((x0_1.length : Int) * (wrap64 ((x0_1.length : Int) - 1)))) = 0
                  · rw [if_pos c20] at H
                    exact absurd H (by simp)
                  · rw [if_neg c20] at H
                    have c20b0 : ((wrap64 ((x0_1.length : Int) * (wrap64 ((x0_1.length : Int) - 1)))) == 0) = false := beq_eq_false_iff_ne.mpr c20
                    have c20b1 : ((wrap64 ((x0_1.length : Int) * (wrap64 ((x0_1.length : Int) - 1)))) != 0) = true := bne_iff_ne.mpr c20
                    replace H := Option.bind_eq_some_iff.mp H
                    obtain ⟨t130, A210, H⟩ := H
                    replace H : (some t130) = some r := H
                    have A21 := Aside0.mk A210
                    clear A210
                    obtain rfl := Option.some.inj H
                    go_wp2_with (first | ((with_reducible refine gate_callee (f := 18) rfl ?_); refine goesL_ (some 52) rfl rfl Try.func18 (by kernel_rfl) rfl #[.int .i64 (wrap64 (Int.tdiv x4_2 (wrap64 ((x0_1.length : Int) * (wrap64 ((x0_1.length : Int) - 1))))))] rfl (by (try simp only [List.map_toArray, List.map_cons, List.map_nil]); first | done | rfl | (simp only [List.length_drop, List.length_take]; rfl)) ?_; (with_reducible refine (greenhouselaw06_cut.calls (wrap64 (Int.tdiv x4_2 (wrap64 ((x0_1.length : Int) * (wrap64 ((x0_1.length : Int) - 1)))))) t130 _ A21.out).mono ?_); rintro e w' ⟨rfl, ⟨nd, rfl⟩⟩; refine ⟨_, rfl, ?_⟩))
                    go_ret
                    exact ⟨by first | rfl | (simp [errW_none, errW_some] <;> rfl) | (simp [*, errW_none, errW_some] <;> rfl), by repeat (first | (with_reducible first | exact HB.out | apply below_alloc | apply pw_below_drewN | apply below_drew1) | exact HB.out)⟩

/-! ### greenhouselaw06_CastNexts: function 3 -/
def greenhouselaw06_CastNexts.f (k : Nat) (l0 : List Int) : Option (Bool) := (greenhouselaw06_head.f k).bind fun t131 => (if t131 = true then (if (l0.length : Int) > 100 then (some true) else ((cast_Next.f k l0).bind fun t132 => ((greenhouselaw06_Next.f k l0).bind fun t133 => (some (t132 == t133))))) else (some false))
theorem greenhouselaw06_CastNexts.mono : ∀ a0 k, LeO (greenhouselaw06_CastNexts.f k a0) (greenhouselaw06_CastNexts.f (k + 1) a0) := by
  intro a0 k
  unfold greenhouselaw06_CastNexts.f
  repeat' first
      | (with_reducible exact cast_Next.mono _ _)
      | (with_reducible exact greenhouselaw06_Next.mono _ _)
      | (with_reducible exact greenhouselaw06_head.mono _)
      | (with_reducible exact LeO.refl _)
      | (with_reducible exact LeO.none _)
      | (with_reducible refine LeO.ite ?_ ?_)
      | (with_reducible refine LeO.bind ?_ (fun _ => ?_))
      | exact cast_Next.mono _ _
      | exact greenhouselaw06_Next.mono _ _
      | exact greenhouselaw06_head.mono _
      | exact LeO.none _
      | refine LeO.ite ?_ ?_
      | refine LeO.bind ?_ (fun _ => ?_)
set_option maxHeartbeats 8000000 in
set_option maxRecDepth 100000 in
theorem greenhouselaw06_CastNexts.calls (k : Nat) (A0 : Option Addr) (c0 : Nat) (l0 : List Int) (r : Bool) (w : World) (hr0 : Kd.C (Kd.int .i64) w A0 l0.length l0) (hc0 : l0.length ≤ c0) (h : greenhouselaw06_CastNexts.f k l0 = some r) :
    Calls Try.prog 3 #[.slice A0 l0.length c0] w fun e w' => e = .returned (.bool r) ∧ Below w.heap.size w w' := by
  have HR0 := Aside0.mk hr0
  have HC0 := Aside0.mk hc0
  clear hr0 hc0
  have HB := Aside0.mk (Below.refl w.heap.size w)
  have H : ((greenhouselaw06_head.f k).bind fun t131 => (if t131 = true then (if (l0.length : Int) > 100 then (some true) else ((cast_Next.f k l0).bind fun t132 => ((greenhouselaw06_Next.f k l0).bind fun t133 => (some (t132 == t133))))) else (some false))) = some r := h
  clear h
  replace H := Option.bind_eq_some_iff.mp H
  obtain ⟨t131, A20, H⟩ := H
  replace H : (if t131 = true then (if (l0.length : Int) > 100 then (some true) else ((cast_Next.f k l0).bind fun t132 => ((greenhouselaw06_Next.f k l0).bind fun t133 => (some (t132 == t133))))) else (some false)) = some r := H
  have A2 := Aside0.mk A20
  clear A20
  by_cases c3 : t131 = true
  · subst c3
    have H1 : (if (l0.length : Int) > 100 then (some true) else ((cast_Next.f k l0).bind fun t132 => ((greenhouselaw06_Next.f k l0).bind fun t133 => (some (t132 == t133))))) = some r := by rw [if_pos rfl] at H; exact H
    clear H
    have H := H1
    clear H1
    by_cases c4 : (l0.length : Int) > 100
    · rw [if_pos c4] at H
      have c4b0 : decide (100 < (l0.length : Int)) = true := decide_eq_true c4
      have c4b1 : decide (100 < l0.length) = true := decide_eq_true (by omega)
      clear c4
      obtain rfl := Option.some.inj H
      go_enter Try.func3, Try.ntmps3
      go_wp2_with (first | ((with_reducible refine gate_callee (f := 15) rfl ?_); refine goesL_ (some 3) rfl rfl Try.func15 (by kernel_rfl) rfl #[] rfl (by (try simp only [List.map_toArray, List.map_cons, List.map_nil]); first | done | rfl | (simp only [List.length_drop, List.length_take]; rfl)) ?_; (with_reducible refine (greenhouselaw06_head.calls k  true _ A2.out).mono ?_); rintro e w5 ⟨rfl, hb⟩; refine ⟨_, rfl, ?_⟩; have n0_ := Aside0.mk (below_step (by repeat (first | (with_reducible first | exact HB.out | apply below_alloc | apply pw_below_drewN | apply below_drew1) | exact HB.out)) hb); clear HB; have HB := n0_; clear n0_; (try clear hb); (try clear hb2); (try clear hk); (try clear hi)))
      go_ret
      exact ⟨by first | rfl | (simp [errW_none, errW_some] <;> rfl) | (simp [*, errW_none, errW_some] <;> rfl), by repeat (first | (with_reducible first | exact HB.out | apply below_alloc | apply pw_below_drewN | apply below_drew1) | exact HB.out)⟩
    · rw [if_neg c4] at H
      have c4b0 : decide (100 < (l0.length : Int)) = false := decide_eq_false c4
      have c4b1 : decide (100 < l0.length) = false := decide_eq_false (by omega)
      clear c4
      replace H := Option.bind_eq_some_iff.mp H
      obtain ⟨t132, A60, H⟩ := H
      replace H : ((greenhouselaw06_Next.f k l0).bind fun t133 => (some (t132 == t133))) = some r := H
      have A6 := Aside0.mk A60
      clear A60
      replace H := Option.bind_eq_some_iff.mp H
      obtain ⟨t133, A70, H⟩ := H
      replace H : (some (t132 == t133)) = some r := H
      have A7 := Aside0.mk A70
      clear A70
      obtain rfl := Option.some.inj H
      go_enter Try.func3, Try.ntmps3
      go_wp2_with (first | ((with_reducible refine gate_callee (f := 15) rfl ?_); refine goesL_ (some 3) rfl rfl Try.func15 (by kernel_rfl) rfl #[] rfl (by (try simp only [List.map_toArray, List.map_cons, List.map_nil]); first | done | rfl | (simp only [List.length_drop, List.length_take]; rfl)) ?_; (with_reducible refine (greenhouselaw06_head.calls k  true _ A2.out).mono ?_); rintro e w8 ⟨rfl, hb⟩; refine ⟨_, rfl, ?_⟩; have n0_ := Aside0.mk (below_step (by repeat (first | (with_reducible first | exact HB.out | apply below_alloc | apply pw_below_drewN | apply below_drew1) | exact HB.out)) hb); clear HB; have HB := n0_; clear n0_; (try clear hb); (try clear hb2); (try clear hk); (try clear hi)) | ((with_reducible refine gate_callee (f := 16) rfl ?_); refine goesL_ (some 9) rfl rfl Try.func16 (by kernel_rfl) rfl #[.slice A0 l0.length c0] rfl (by (try simp only [List.map_toArray, List.map_cons, List.map_nil]); first | done | rfl | (simp only [List.length_drop, List.length_take]; rfl)) ?_; (with_reducible refine (cast_Next.calls k (fun k_ => k_ < w.heap.size) _ _ l0 t132 _ ?side1 A6.out).mono ?_); (case side1 => exact Kd.V_mk HC0.out (Kd.F_below (Kd.C_F (Kd.heap_int .i64) HR0.out) (by repeat (first | (with_reducible first | exact HB.out | apply below_alloc | apply pw_below_drewN | apply below_drew1) | exact HB.out)))); rintro e w9 ⟨rfl, hb⟩; refine ⟨_, rfl, ?_⟩; have n0_ := Aside0.mk (below_step (by repeat (first | (with_reducible first | exact HB.out | apply below_alloc | apply pw_below_drewN | apply below_drew1) | exact HB.out)) hb); clear HB; have HB := n0_; clear n0_; (try clear hb); (try clear hb2); (try clear hk); (try clear hi)) | ((with_reducible refine gate_callee (f := 17) rfl ?_); refine goesL_ (some 11) rfl rfl Try.func17 (by kernel_rfl) rfl #[.slice A0 l0.length c0] rfl (by (try simp only [List.map_toArray, List.map_cons, List.map_nil]); first | done | rfl | (simp only [List.length_drop, List.length_take]; rfl)) ?_; (with_reducible refine (greenhouselaw06_Next.calls k (fun k_ => k_ < w.heap.size) _ _ l0 t133 _ ?side1 A7.out).mono ?_); (case side1 => exact Kd.V_mk HC0.out (Kd.F_below (Kd.C_F (Kd.heap_int .i64) HR0.out) (by repeat (first | (with_reducible first | exact HB.out | apply below_alloc | apply pw_below_drewN | apply below_drew1) | exact HB.out)))); rintro e w10 ⟨rfl, hb⟩; refine ⟨_, rfl, ?_⟩; have n0_ := Aside0.mk (below_step (by repeat (first | (with_reducible first | exact HB.out | apply below_alloc | apply pw_below_drewN | apply below_drew1) | exact HB.out)) hb); clear HB; have HB := n0_; clear n0_; (try clear hb); (try clear hb2); (try clear hk); (try clear hi)))
      go_ret
      exact ⟨by first | rfl | (simp [errW_none, errW_some] <;> rfl) | (simp [*, errW_none, errW_some] <;> rfl), by repeat (first | (with_reducible first | exact HB.out | apply below_alloc | apply pw_below_drewN | apply below_drew1) | exact HB.out)⟩
  · replace c3 := Bool.eq_false_iff.mpr c3
    subst c3
    have H1 : (some false) = some r := by rw [if_neg (show ¬ (false = true) by decide)] at H; exact H
    clear H
    have H := H1
    clear H1
    obtain rfl := Option.some.inj H
    go_enter Try.func3, Try.ntmps3
    go_wp2_with (first | ((with_reducible refine gate_callee (f := 15) rfl ?_); refine goesL_ (some 3) rfl rfl Try.func15 (by kernel_rfl) rfl #[] rfl (by (try simp only [List.map_toArray, List.map_cons, List.map_nil]); first | done | rfl | (simp only [List.length_drop, List.length_take]; rfl)) ?_; (with_reducible refine (greenhouselaw06_head.calls k  false _ A2.out).mono ?_); rintro e w11 ⟨rfl, hb⟩; refine ⟨_, rfl, ?_⟩; have n0_ := Aside0.mk (below_step (by repeat (first | (with_reducible first | exact HB.out | apply below_alloc | apply pw_below_drewN | apply below_drew1) | exact HB.out)) hb); clear HB; have HB := n0_; clear n0_; (try clear hb); (try clear hb2); (try clear hk); (try clear hi)))
    go_ret
    exact ⟨by first | rfl | (simp [errW_none, errW_some] <;> rfl) | (simp [*, errW_none, errW_some] <;> rfl), by repeat (first | (with_reducible first | exact HB.out | apply below_alloc | apply pw_below_drewN | apply below_drew1) | exact HB.out)⟩

/-- THE ONE PURE STATEMENT of greenhouselaw06_CastNexts: yours. -/
def greenhouselaw06_CastNexts.Pure : Prop := ∀ (l0 : List Int), l0.length ≤ maxLen → l0.length * 8 ≤ 140737488351232 → (∀ x ∈ l0, (Lit.int .i64 x).wf = true) → ∃ k, greenhouselaw06_CastNexts.f k l0 = some true
theorem greenhouselaw06_CastNexts.walk (P : greenhouselaw06_CastNexts.Pure) (a0 : Option Addr) (len0 cap0 : Nat) (z0 : List Int) (w : World) (w0 : (a0 = none ∧ len0 = 0 ∧ cap0 = 0 ∧ z0 = []) ∨ ∃ x, a0 = some x ∧ len0 ≤ cap0 ∧ cap0 ≤ maxLen ∧ z0.length = cap0 ∧ (∀ i, i < z0.length → w.cell? (x.add i) = some (.int .i64 (z0.getD i 0))) ∧ ∀ n ∈ z0, (Lit.int .i64 n).wf = true) (y0 : len0 * 8 ≤ 140737488351232) :
    Calls Try.prog 3 #[.slice a0 len0 cap0] w fun e w' => e = .returned (.bool true) ∧ Below w.heap.size w w' := by
  obtain ⟨l0, rfl, hr0, hm0, hw0, hc0⟩ := ReadsInt.ofRowC w0
  obtain ⟨k, h⟩ := P l0 hm0 y0 hw0
  refine (greenhouselaw06_CastNexts.calls k _ _ l0 true w (Kd.C_of_reads (d := (0 : Int)) (h1 := fun _ => rfl) hr0) hc0 h).mono ?_
  rintro e w' ⟨rfl, hd⟩
  exact ⟨rfl, hd⟩

end Go.Proofs.Ytnhonhdomgmhgaa.PCastNexts
