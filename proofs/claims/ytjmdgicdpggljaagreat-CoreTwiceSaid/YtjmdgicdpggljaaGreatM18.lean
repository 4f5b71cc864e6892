/- Proved: the same of heaps whose keys are pairs of numbers. -/
import Derived.Test.YtjmdgicdpggljaaGreatM16
import Derived.Test.YtjmdgicdpggljaaGreatM14
import Derived.StillTailTactics
import Derived.Deep.DeepCutAuto
import Derived.Deep.CutBlock
import Derived.Deep.RegionHeld3
import Derived.Deep.RegionLaw
import Derived.Deep.AppendLies
set_option linter.all false
namespace Go.Proofs.YtjmdgicdpggljaaGreat.GH
open Go.RowKit Go.Proofs.YtjmdgicdpggljaaGreat.Histo Go.Proofs.YtjmdgicdpggljaaGreat.Event
set_option linter.unusedVariables false
open Go.Proofs.YtjmdgicdpggljaaGreat.MapG (Codec Mk)
open Go.Proofs.YtjmdgicdpggljaaGreat.MapI (W64)

set_option maxRecDepth 100000 in
set_option maxHeartbeats 8000000 in
theorem upT (hb ab r cap i : Nat) (xs : HL TKey TMark) (w : World) (h : HeapAtT w hb ab (.slice (some ⟨r, 0, none⟩) xs.length cap) xs) (hi : i < xs.length) :
    Calls Tryz.prog 154 #[.pointer (some ⟨hb, 0, none⟩), .int .i64 (i : Int)] w fun e w' => e = .returned (.bool ((hup TMark.lt i xs i).2 != i)) ∧ HeapAtT w' hb ab (.slice (some ⟨r, 0, none⟩) xs.length cap) (hup TMark.lt i xs i).1 ∧ Only (fun p => p = r ∨ p = ab) w w' := by
  have st : ∃ ys j n, (i : Int) = (j : Nat) ∧ j ≤ n ∧ j < ys.length ∧ ys.length = xs.length ∧ hup TMark.lt n ys j = hup TMark.lt i xs i ∧ HeapAtT w hb ab (.slice (some ⟨r, 0, none⟩) xs.length cap) ys := ⟨xs, i, i, rfl, Nat.le_refl _, hi, rfl, rfl, h⟩
  have hle := h.le
  obtain ⟨R, hR⟩ : ∃ R, R = hup TMark.lt i xs i := ⟨_, rfl⟩
  obtain ⟨N, hN⟩ : ∃ N, N = xs.length := ⟨_, rfl⟩
  rw [← hR, ← hN] at st
  rw [← hR, ← hN]
  rw [← hN] at hi hle
  have ST := Lib.hid st
  clear h hN hR st
  go_enter Tryz.func154, Tryz.ntmps154
  go_wp2_with (fail)
  go_loopw [1] (fun iv wr => ∃ ys j n, iv = .int .i64 (j : Nat) ∧ j ≤ n ∧ j < ys.length ∧ ys.length = N ∧ hup TMark.lt n ys j = R ∧ HeapAtT wr hb ab (.slice (some ⟨r, 0, none⟩) N cap) ys ∧ Only (fun p => p = r ∨ p = ab) w wr) (fun iv _ => (intOf iv).toNat)
  case atStart =>
    obtain ⟨ys, j, n, h1, h2, h3, h4, h5, h6⟩ := ST.out
    exact ⟨ys, j, n, by rw [h1], h2, h3, h4, h5, h6, Only.refl w⟩
  case round =>
    obtain ⟨ys, j, n, rfl, h2, h3, h4, h5, h6, h7⟩ := hrel
    by_cases hj : 0 < j
    · have hp : (j - 1) / 2 < ys.length := by omega
      obtain ⟨⟨kj, mj⟩, hxj⟩ : ∃ x, ys[j]? = some x := ⟨_, hget_pair h3⟩
      obtain ⟨⟨kp, mp⟩, hxp⟩ : ∃ x, ys[(j - 1) / 2]? = some x := ⟨_, hget_pair hp⟩
      have hvj : hval ys j = mj := by rw [hval_get, hxj]; rfl
      have hvp : hval ys ((j - 1) / 2) = mp := by rw [hval_get, hxp]; rfl
      obtain ⟨p, hpp⟩ : ∃ p, p = (j - 1) / 2 := ⟨_, rfl⟩
      have hstep := hup_stop TMark.lt n ys j
      rw [hvj, hvp] at hstep
      rw [← hpp] at hp hxp hvp
      have hrow := h6.row
      rw [← h4] at hrow
      obtain ⟨j2, _⟩ := row_cell ivT_len hrow hxj (q := 2) (by omega)
      obtain ⟨j3, _⟩ := row_cell ivT_len hrow hxj (q := 3) (by omega)
      obtain ⟨j4, _⟩ := row_cell ivT_len hrow hxj (q := 4) (by omega)
      obtain ⟨p2, _⟩ := row_cell ivT_len hrow hxp (q := 2) (by omega)
      obtain ⟨p3, _⟩ := row_cell ivT_len hrow hxp (q := 3) (by omega)
      obtain ⟨p4, _⟩ := row_cell ivT_len hrow hxp (q := 4) (by omega)
      simp only [ivT, TMark.vals, List.getElem?_cons_zero, List.getElem?_cons_succ] at j2 j3 j4 p2 p3 p4
      have hd0 : wr.cell? ⟨hb, 0, none⟩ = some (.func (.func 19) #[] #[]) := h6.head.cell 0
      have hd1 : wr.cell? ⟨hb, 1, none⟩ = some (.slice (some ⟨r, 0, none⟩) N cap) := h6.head.cell 1
      have ojm := (h6.ok _ (List.mem_of_getElem? hxj)).v
      have opm := (h6.ok _ (List.mem_of_getElem? hxp)).v
      have hless := fun W => tless_any mj mp W
      have hjn : (j : Int) < (N : Int) := by omega
      have hpn : (p : Int) < (N : Int) := by omega
      have hj0 : (0 : Int) < (j : Int) := by omega
      obtain ⟨q, hq⟩ : ∃ q : Nat, q = j - 1 := ⟨_, rfl⟩
      have hw1 : IntKind.i64.wrap ((j : Int) - 1) = (q : Int) := by rw [IntWalk.i64_in _ (by omega)]; omega
      have hw1' : wrap64 ((j : Int) - 1) = (q : Int) := by rw [IntWalk.wrap64_in _ (by omega)]; omega
      have hw3 : (j : Int) - 1 = (q : Int) := by omega
      have hqt : (q : Int).tdiv 2 = (p : Int) := by rw [Int.tdiv_eq_ediv_of_nonneg (by omega)]; omega
      have hw2 : IntKind.i64.wrap (p : Int) = (p : Int) := IntWalk.i64_in _ (by omega)
      have hqe : (q : Int) / 2 = (p : Int) := by omega
      have hwq : IntKind.i64.wrap (q : Int) = (q : Int) := IntWalk.i64_in _ (by omega)
      have hjp : j ≠ p := by omega
      obtain ⟨L, hL⟩ : ∃ L, L = TMark.lt mj mp := ⟨_, rfl⟩
      rw [← hL] at hless hstep
      have HL := Lib.hid hless
      have H6 := Lib.hid h6
      have H7 := Lib.hid h7
      have HS := Lib.hid hstep
      have H5 := Lib.hid h5
      have H4 := Lib.hid h4
      have HVL := Lib.hid (And.intro hvj (And.intro hvp (And.intro hL hpp)))
      clear hxj hxp hrow h6 h7 hless ojm opm hvj hvp hL hpp hstep h5 h4 hq
      simp only [TMark.vals] at HL
      go_wp2_with (fail)
      go_still_tail 25, (by kernel_rfl)
      change wpList _ _ _ _ _ wr.drew
      have h62 := H6.out.drew
      have h72 := H7.out.drew
      generalize wr.drew = W2 at h62 h72 ⊢
      have H62 := Lib.hid h62
      have H72 := Lib.hid h72
      clear h62 h72 hd0 hd1 j2 j3 j4 p2 p3 p4
      cases L
      · go_wp2_with (go_at_call 19; refine (HL.out _).mono ?_; rintro e w3 ⟨rfl, hb3⟩)
        go_ret
        have e := HS.out trivial
        rw [H5.out] at e
        refine ⟨by rw [e, ← cast_bne]; rfl, ?_, H72.out.below hb3⟩
        rw [e]
        exact H62.out.below hb3
      · have hsw := swapT hb ab r cap j p ys
        rw [H4.out] at hsw
        have HSW := Lib.hid hsw
        clear hsw
        go_wp2_with (first
          | (go_at_call 19; refine (HL.out _).mono ?_; rintro e w3 ⟨rfl, hb3⟩; have H63 := Lib.hid (H62.out.below hb3); have H73 := Lib.hid (H72.out.below hb3); clear hb3)
          | (go_at_call 119; refine (HSW.out _ H63.out (by omega) (by omega) hjp).mono ?_; rintro e w4 ⟨rfl, h64, h74⟩; have H64 := Lib.hid h64; have H74 := Lib.hid (H73.out.trans h74 (fun _ _ h => h)); clear h64 h74))
        go_roundw
        case rel => exact ⟨hswap ys j p, p, n - 1, rfl, by omega, by rw [hswap_len]; omega, by rw [hswap_len]; exact H4.out, by
          rw [← H5.out]
          obtain ⟨n', rfl⟩ : ∃ n', n = n' + 1 := ⟨n - 1, by omega⟩
          rw [hup, HVL.out.1, ← HVL.out.2.2.2, HVL.out.2.1, ← HVL.out.2.2.1, if_pos ⟨by omega, rfl⟩]; rfl, H64.out, H74.out⟩
        case measure => simp [intOf]; omega
    · obtain rfl : j = 0 := by omega
      rw [hup_zero] at h5
      have H5 := Lib.hid h5
      have H6 := Lib.hid h6
      have H7 := Lib.hid h7
      have H4 := Lib.hid h4
      clear h4 h5 h6 h7
      go_wp2_with (fail)
      go_quiet (fail)
      go_wp2
      go_ret
      rw [← H5.out]
      exact ⟨by rw [← cast_bne]; rfl, H6.out.drewN _, H7.out.drewN _⟩
end Go.Proofs.YtjmdgicdpggljaaGreat.GH

/- Proved: the same of heaps whose keys are pairs of numbers. -/
namespace Go.Proofs.YtjmdgicdpggljaaGreat.GH
open Go.RowKit Go.Proofs.YtjmdgicdpggljaaGreat.Histo Go.Proofs.YtjmdgicdpggljaaGreat.Event
set_option linter.unusedVariables false
open Go.Proofs.YtjmdgicdpggljaaGreat.MapG (Codec Mk)
open Go.Proofs.YtjmdgicdpggljaaGreat.MapI (W64)

set_option maxRecDepth 100000 in
set_option maxHeartbeats 8000000 in
theorem downT (hb ab r cap i : Nat) (xs : HL TKey TMark) (w : World) (h : HeapAtT w hb ab (.slice (some ⟨r, 0, none⟩) xs.length cap) xs) (hi : i < xs.length) :
    Calls Tryz.prog 155 #[.pointer (some ⟨hb, 0, none⟩), .int .i64 (i : Int)] w fun e w' => e = .returned (.tuple #[]) ∧ HeapAtT w' hb ab (.slice (some ⟨r, 0, none⟩) xs.length cap) (hdown TMark.lt xs.length xs i) ∧ Only (fun p => p = r ∨ p = ab) w w' := by
  have st : ∃ ys j n, (i : Int) = (j : Nat) ∧ ys.length - j ≤ n ∧ j < ys.length ∧ ys.length = xs.length ∧ hdown TMark.lt n ys j = hdown TMark.lt xs.length xs i ∧ HeapAtT w hb ab (.slice (some ⟨r, 0, none⟩) xs.length cap) ys := ⟨xs, i, xs.length, rfl, by omega, hi, rfl, rfl, h⟩
  have hle := h.le
  obtain ⟨R, hR⟩ : ∃ R, R = hdown TMark.lt xs.length xs i := ⟨_, rfl⟩
  obtain ⟨N, hN⟩ : ∃ N, N = xs.length := ⟨_, rfl⟩
  rw [← hR, ← hN] at st
  rw [← hN] at hR
  rw [← hN, ← hR]
  rw [← hN] at hi hle
  have ST := Lib.hid st
  clear h hN hR st
  go_enter Tryz.func155, Tryz.ntmps155
  go_wp2_with (fail)
  go_loopw [1] (fun iv wr => ∃ ys j n, iv = .int .i64 (j : Nat) ∧ ys.length - j ≤ n ∧ j < ys.length ∧ ys.length = N ∧ hdown TMark.lt n ys j = R ∧ HeapAtT wr hb ab (.slice (some ⟨r, 0, none⟩) N cap) ys ∧ Only (fun p => p = r ∨ p = ab) w wr) (fun iv _ => N - (intOf iv).toNat)
  case atStart =>
    obtain ⟨ys, j, n, h1, h2, h3, h4, h5, h6⟩ := ST.out
    exact ⟨ys, j, n, by rw [h1], h2, h3, h4, h5, h6, Only.refl w⟩
  case round =>
    obtain ⟨ys, j, n, rfl, h2, h3, h4, h5, h6, h7⟩ := hrel
    have H4 := Lib.hid h4
    have H5 := Lib.hid h5
    have H6 := Lib.hid h6
    have H7 := Lib.hid h7
    have H2 := Lib.hid h2
    have hjN : j < N := by omega
    obtain ⟨wo, hwo⟩ : ∃ x, x = wr := ⟨_, rfl⟩
    clear h2 h3 h4 h5 h6 h7
    go_wp2_with (fail)
    go_loopw [4, 5] (fun lv cv wi => ∃ c m, cv = .int .i64 ((2 * j + 1 + c : Nat) : Int) ∧ c ≤ 2 ∧ lv = .int .i64 (m : Nat) ∧ m < N ∧ (∀ k, k = c → m = (if k = 0 then j else if k = 1 then hpick TMark.lt ys j (2 * j + 1) else hleast TMark.lt ys j)) ∧ HeapAtT wi hb ab (.slice (some ⟨r, 0, none⟩) N cap) ys ∧ Only (fun p => p = r ∨ p = ab) w wi) (fun _ cv _ => 2 * j + 3 - (intOf cv).toNat)
    case atStart => exact ⟨0, j, by simp, by omega, rfl, hjN, fun k hk => by subst hk; rfl, H6.out, H7.out⟩
    case round =>
      obtain ⟨c, m, rfl, hc, rfl, hm, hmk, h6, h7⟩ := hrel
      have H6 := Lib.hid h6
      have H7 := Lib.hid h7
      have hd0 : wr.cell? ⟨hb, 0, none⟩ = some (.func (.func 19) #[] #[]) := h6.head.cell 0
      have hd1 : wr.cell? ⟨hb, 1, none⟩ = some (.slice (some ⟨r, 0, none⟩) N cap) := h6.head.cell 1
      obtain ⟨q, hq⟩ : ∃ q, q = 2 * j + 1 + c := ⟨_, rfl⟩
      rw [← hq]
      have hN4 := H4.out
      by_cases hin : c < 2 ∧ q < N
      · obtain ⟨hc2, hqN⟩ := hin
        obtain ⟨⟨kq, mq⟩, hxq⟩ : ∃ x, ys[q]? = some x := ⟨_, hget_pair (by omega)⟩
        obtain ⟨⟨km, mm⟩, hxm⟩ : ∃ x, ys[m]? = some x := ⟨_, hget_pair (by omega)⟩
        have hvq : hval ys q = mq := by rw [hval_get, hxq]; rfl
        have hvm : hval ys m = mm := by rw [hval_get, hxm]; rfl
        have hrow := h6.row
        rw [← hN4] at hrow
        obtain ⟨q2, _⟩ := row_cell ivT_len hrow hxq (q := 2) (by omega)
        obtain ⟨q3, _⟩ := row_cell ivT_len hrow hxq (q := 3) (by omega)
        obtain ⟨q4, _⟩ := row_cell ivT_len hrow hxq (q := 4) (by omega)
        obtain ⟨m2, _⟩ := row_cell ivT_len hrow hxm (q := 2) (by omega)
        obtain ⟨m3, _⟩ := row_cell ivT_len hrow hxm (q := 3) (by omega)
        obtain ⟨m4, _⟩ := row_cell ivT_len hrow hxm (q := 4) (by omega)
        simp only [ivT, TMark.vals, List.getElem?_cons_zero, List.getElem?_cons_succ] at q2 q3 q4 m2 m3 m4
        have hless := fun W => tless_any mq mm W
        simp only [TMark.vals] at hless
        have hnext : ∀ k, k = c + 1 → (if TMark.lt mq mm = true then q else m) = (if k = 0 then j else if k = 1 then hpick TMark.lt ys j (2 * j + 1) else hleast TMark.lt ys j) := by
          intro k hk
          subst hk
          have h1 := hmk c rfl
          have hp : (if TMark.lt mq mm = true then q else m) = hpick TMark.lt ys m q := by
            unfold hpick
            rw [hvq, hvm]
            by_cases hl : TMark.lt mq mm = true
            · rw [if_pos hl, if_pos ⟨by omega, hl⟩]
            · rw [if_neg hl, if_neg (fun h => hl h.2)]
          rw [hp]
          have : c = 0 ∨ c = 1 := by omega
          rcases this with rfl | rfl
          · simp at h1
            rw [h1, hq]; rfl
          · simp at h1
            rw [h1, hq]; rfl
        obtain ⟨L, hL⟩ : ∃ L, L = TMark.lt mq mm := ⟨_, rfl⟩
        rw [← hL] at hless hnext
        have HL := Lib.hid hless
        have HNX := Lib.hid hnext
        have HQ := Lib.hid hq
        have hq1 : (q : Int) ≤ 2 * (j : Int) + 2 := by omega
        have hqn : (q : Int) < (N : Int) := by omega
        have hmn : (m : Int) < (N : Int) := by omega
        clear hxq hxm hvq hvm hrow hless hnext hL hmk hN4 h6 h7
        clear hq
        go_wp2_with (fail)
        go_still_tail 20, (by kernel_rfl)
        change wpList _ _ _ _ _ wr.drew
        have h62 := H6.out.drew
        have h72 := H7.out.drew
        generalize wr.drew = W2 at h62 h72 ⊢
        have H62 := Lib.hid h62
        have H72 := Lib.hid h72
        clear h62 h72 hd0 hd1 q2 q3 q4 m2 m3 m4
        cases L
        · go_wp2_with (go_at_call 19; refine (HL.out _).mono ?_; rintro e w3 ⟨rfl, hb3⟩)
          go_roundw
          case rel => exact ⟨c + 1, m, by rw [HQ.out]; go_num, by omega, rfl, hm, fun k hk => by have := HNX.out k hk; simpa using this, H62.out.below hb3, H72.out.below hb3⟩
          case measure => simp [intOf]; have := HQ.out; omega
        · go_wp2_with (go_at_call 19; refine (HL.out _).mono ?_; rintro e w3 ⟨rfl, hb3⟩)
          go_roundw
          case rel => exact ⟨c + 1, q, by rw [HQ.out]; go_num, by omega, rfl, hqN, fun k hk => by have := HNX.out k hk; simpa using this, H62.out.below hb3, H72.out.below hb3⟩
          case measure => simp [intOf]; have := HQ.out; omega
      · have hml : m = hleast TMark.lt ys j := by
          have h1 := hmk c rfl
          by_cases hc2 : c = 2
          · subst hc2; simpa using h1
          · have hqN : N ≤ q := by omega
            have : c = 0 ∨ c = 1 := by omega
            rcases this with rfl | rfl
            · simp at h1
              unfold hleast
              rw [hpick_out _ _ _ _ (by omega), hpick_out _ _ _ _ (by omega), h1]
            · simp at h1
              unfold hleast
              rw [hpick_out _ _ _ (2 * j + 2) (by omega), h1]
        have hstop : (m : Int) = (j : Int) → hdown TMark.lt n ys j = ys := fun e => by
          have e2 : hleast TMark.lt ys j = j := by omega
          cases n with
          | zero => rfl
          | succ n => unfold hdown; rw [if_pos e2]
        have hgo : m ≠ j → ys.length - m ≤ n - 1 ∧ hdown TMark.lt (n - 1) (hswap ys j m) m = hdown TMark.lt n ys j ∧ j < m := fun e => by
          have h2 := H2.out
          obtain ⟨_, h3⟩ := hleast_lt TMark.lt ys j (by omega)
          obtain ⟨n', rfl⟩ : ∃ n', n = n' + 1 := ⟨n - 1, by omega⟩
          refine ⟨by omega, ?_, by omega⟩
          conv => rhs; unfold hdown
          rw [if_neg (by omega), ← hml]; rfl
        have hsw := swapT hb ab r cap j m ys
        rw [hN4] at hsw
        have HSW := Lib.hid hsw
        have HST := Lib.hid hstop
        have HGO := Lib.hid hgo
        have HIN := Lib.hid hin
        have HQ := Lib.hid hq
        have htest : decide ((q : Int) ≤ 2 * (j : Int) + 2) = false ∨ ((q : Int) ≤ 2 * (j : Int) + 2 ∧ decide ((q : Int) < (N : Int)) = false ∧ decide (q < N) = false) := by
          by_cases hc2 : c = 2
          · left; simp; omega
          · right; refine ⟨by omega, by simp; omega, by simp; omega⟩
        clear hml hmk hstop hgo hin hq hsw hN4 h6 h7
        by_cases he : m = j
        · subst he
          have ee : ((m : Int) == (m : Int)) = true := by simp
          rcases htest with ht | ⟨ht, ht2, ht3⟩ <;>
          · go_wp2_with (fail)
            have e := HST.out (by first | rfl | trivial)
            rw [H5.out] at e
            first
              | (go_ret; rw [e]; exact ⟨rfl, H6.out, H7.out⟩)
              | (exact bodyPost_ret (results_none rfl _ _ _) rfl (by rw [e]; exact ⟨rfl, H6.out, H7.out⟩))
              | (go_end0; rw [e]; exact ⟨rfl, H6.out, H7.out⟩)
        · have ee : ((m : Int) == (j : Int)) = false := by simp; omega
          have ee2 : ((j : Int) == (m : Int)) = false := by simp; omega
          rcases htest with ht | ⟨ht, ht2, ht3⟩ <;>
          · go_wp2_with (go_at_call 119; refine (HSW.out _ H6.out hjN hm (fun e => he e.symm)).mono ?_; rintro e w4 ⟨rfl, h64, h74⟩; have H64 := Lib.hid h64; have H74 := Lib.hid (H7.out.trans h74 (fun _ _ h => h)); clear h64 h74)
            have hr : ∃ ys' j' n', Value.int .i64 (m : Int) = .int .i64 ((j' : Nat) : Int) ∧ List.length ys' - j' ≤ n' ∧ j' < List.length ys' ∧ List.length ys' = N ∧ hdown TMark.lt n' ys' j' = R ∧ HeapAtT w4 hb ab (.slice (some ⟨r, 0, none⟩) N cap) ys' ∧ Only (fun p => p = r ∨ p = ab) w w4 :=
              ⟨hswap ys j m, m, n - 1, rfl, by rw [hswap_len]; exact (HGO.out he).1, by rw [hswap_len, H4.out]; exact hm, by rw [hswap_len]; exact H4.out, by rw [(HGO.out he).2.1]; exact H5.out, H64.out, H74.out⟩
            have hms : N - (intOf (Value.int .i64 (m : Int))).toNat < N - (intOf (Value.int .i64 (j : Int))).toNat := by
              have := (HGO.out he).2.2
              simp [intOf]
              omega
            first
              | exact ⟨hr, hms⟩
              | (go_roundw
                 case rel => exact hr
                 case measure => exact hms)
              | (go_frame
                 exact ⟨hr, hms⟩)
set_option maxHeartbeats 4000000 in
theorem fixT (hb ab r cap i : Nat) (xs : HL TKey TMark) (w : World) (h : HeapAtT w hb ab (.slice (some ⟨r, 0, none⟩) xs.length cap) xs) (hi : i < xs.length) :
    Calls Tryz.prog 120 #[.pointer (some ⟨hb, 0, none⟩), .int .i64 (i : Int)] w fun e w' => e = .returned (.tuple #[]) ∧ HeapAtT w' hb ab (.slice (some ⟨r, 0, none⟩) xs.length cap) (hfix TMark.lt xs i) ∧ Only (fun p => p = r ∨ p = ab) w w' := by
  have hup' := upT hb ab r cap i xs w h hi
  obtain ⟨hl1, hl2⟩ := hup_len TMark.lt i xs i hi
  obtain ⟨F, hF⟩ : ∃ F, F = hfix TMark.lt xs i := ⟨_, rfl⟩
  rw [← hF]
  unfold hfix at hF
  obtain ⟨U, hU⟩ : ∃ U, U = hup TMark.lt i xs i := ⟨_, rfl⟩
  rw [← hU] at hup' hF hl1 hl2
  have hle := h.le
  clear hU h
  by_cases e : U.2 = i
  · rw [if_pos e] at hF
    have eb : (U.2 != i) = false := by simp [e]
    rw [eb] at hup'
    have hdn : ∀ W, HeapAtT W hb ab (.slice (some ⟨r, 0, none⟩) xs.length cap) U.1 → Calls Tryz.prog 155 #[.pointer (some ⟨hb, 0, none⟩), .int .i64 (i : Int)] W fun e w' => e = .returned (.tuple #[]) ∧ HeapAtT w' hb ab (.slice (some ⟨r, 0, none⟩) xs.length cap) (hdown TMark.lt xs.length U.1 i) ∧ Only (fun p => p = r ∨ p = ab) W w' := fun W hW => by
      have := downT hb ab r cap i U.1 W (by rw [hl1]; exact hW) (by omega)
      rw [hl1] at this
      exact this
    have HD := Lib.hid hdn
    have HF := Lib.hid hF
    clear hdn e eb hF hl1
    go_enter Tryz.func120, Tryz.ntmps120
    go_wp2_with (first
      | (go_at_call 154; refine hup'.mono ?_; rintro e w1 ⟨rfl, h1, o1⟩; have H1 := Lib.hid h1; have O1 := Lib.hid o1; clear h1 o1)
      | (go_at_call 155; refine (HD.out _ H1.out).mono ?_; rintro e w2 ⟨rfl, h2, o2⟩; have H2 := Lib.hid h2; have O2 := Lib.hid (O1.out.trans o2 (fun _ _ h => h)); clear h2 o2))
    go_end0
    exact ⟨rfl, by rw [HF.out]; exact H2.out, O2.out⟩
  · rw [if_neg e] at hF
    have eb : (U.2 != i) = true := by simpa using e
    rw [eb] at hup'
    have HF := Lib.hid hF
    clear e eb hF hl1
    go_enter Tryz.func120, Tryz.ntmps120
    go_wp2_with (go_at_call 154; refine hup'.mono ?_; rintro e w1 ⟨rfl, h1, o1⟩; have H1 := Lib.hid h1; have O1 := Lib.hid o1; clear h1 o1)
    go_end0
    exact ⟨rfl, by rw [HF.out]; exact H1.out, O1.out⟩
end Go.Proofs.YtjmdgicdpggljaaGreat.GH

/- Proved: what Set leaves of a heap whose keys are pairs of numbers. -/
namespace Go.Proofs.YtjmdgicdpggljaaGreat.GH
open Go.RowKit Go.Proofs.YtjmdgicdpggljaaGreat.Histo Go.Proofs.YtjmdgicdpggljaaGreat.Event
set_option linter.unusedVariables false
open Go.Proofs.YtjmdgicdpggljaaGreat.MapG (Codec Mk)
open Go.Proofs.YtjmdgicdpggljaaGreat.MapI (W64)

theorem info_itemT : (Tryz.prog.info? 193).map (fun i => (i.zero, i.size, i.bytes)) = some (some (.agg #[.int .i64 0, .int .i64 0, .int .i64 0, .int .i64 0, .int .i64 0]), 5, 40) := by kernel_rfl
/-- What Set and Drop leave: the same struct and map, the row where it was or in a new block. -/
def HeapToT (w : World) (hb ab : Nat) (v : Value) (ys : HL TKey TMark) (w' : World) : Prop :=
  ∃ v', HeapAtT w' hb ab v' ys ∧ (v'.ownBlock = v.ownBlock ∨ ∃ p, v'.ownBlock = some p ∧ w.heap.size ≤ p) ∧ Only (fun p => p = hb ∨ p = ab ∨ v.ownBlock = some p) w w'
theorem row_valueT {w : World} {r cap : Nat} {xs : HL TKey TMark} (h : w.ownsRow 0 193 5 (.slice (some ⟨r, 0, none⟩) xs.length cap) xs.length (xs.flatMap ivT)) {i : Nat} (hi : i < xs.length) (m : TMark) :
    (setCells w r (i * 5 + 2) m.vals).ownsRow 0 193 5 (.slice (some ⟨r, 0, none⟩) (xs.set i (hkey xs i, m)).length cap) (xs.set i (hkey xs i, m)).length ((xs.set i (hkey xs i, m)).flatMap ivT) := by
  have h1 := raw_sets m.vals h (i * 5 + 2)
  have h2 : setAll (xs.flatMap ivT) (i * 5 + 2) m.vals = (xs.set i (hkey xs i, m)).flatMap ivT := by
    rw [← setAll_flat ivT_len (hkey xs i, m) xs i hi]
    have g0 := flat_get (z := 5) ivT_len (r := 0) (by omega) xs i
    have g1 := flat_get (z := 5) ivT_len (r := 1) (by omega) xs i
    rw [hget_pair hi] at g0 g1
    have e0 : (xs.flatMap ivT).set (5 * i) (.int .i64 (hkey xs i).kind) = xs.flatMap ivT := set_same g0
    have e1 : (xs.flatMap ivT).set (5 * i + 1) (.int .i64 (hkey xs i).id) = xs.flatMap ivT := set_same g1
    show _ = setAll (((xs.flatMap ivT).set (5 * i) (.int .i64 (hkey xs i).kind)).set (5 * i + 1) (.int .i64 (hkey xs i).id)) (5 * i + 2) m.vals
    rw [e0, e1, Nat.mul_comm]
  rw [h2] at h1
  rw [List.length_set]
  exact h1
set_option maxRecDepth 100000 in
set_option maxHeartbeats 8000000 in
theorem setT_in (hb ab r cap : Nat) (xs : HL TKey TMark) (k : TKey) (i : Nat) (m : TMark) (w : World) (h : HeapAtT w hb ab (.slice (some ⟨r, 0, none⟩) xs.length cap) xs) (hk : KeyOkT k) (hi : hidx xs k = some i) :
    Calls Tryz.prog 115 #[.pointer (some ⟨hb, 0, none⟩), kvalT k, .agg m.vals.toArray] w fun e w' => e = .returned (.tuple #[]) ∧ HeapAtT w' hb ab (.slice (some ⟨r, 0, none⟩) xs.length cap) (hset TMark.lt xs k m) ∧ Only (fun p => p = r ∨ p = ab) w w' := by
  obtain ⟨hil, hkey_i⟩ := (hidx_some h.nodup).1 hi
  have eset : hset TMark.lt xs k m = hfix TMark.lt (xs.set i (hkey xs i, m)) i := by unfold hset; rw [hi]
  obtain ⟨cur, hcur⟩ := ownsRow_blk h.row
  have hne : hb ≠ r := ne_of_types h.head hcur (by decide)
  obtain ⟨l, hm1, hidx1⟩ := h.map
  have hnr : ab ≠ r := fun e => ne_of_map hcur hm1 e.symm
  have hlk : ∀ W, Mk kT Tryz.prog 90 W ab l → (Instr.lookup 111 (.map (some ab)) (.agg #[.int .i64 k.kind, .int .i64 k.id]) true).run Tryz.prog W = .ok (.tuple #[.int .i64 (i : Int), .bool true]) W := fun W hW => by
    have := hW.look_ok keyedT kvT Tryz.underlying111 (zero_intW W) (x := k) hk
    rw [hidx1, hi] at this
    exact this
  have hx := hget_pair hil
  have e2 := row_cell ivT_len h.row hx (q := 2) (by omega)
  have e3 := row_cell ivT_len h.row hx (q := 3) (by omega)
  have e4 := row_cell ivT_len h.row hx (q := 4) (by omega)
  simp only [ivT, TMark.vals, List.getElem?_cons_zero, List.getElem?_cons_succ] at e2 e3 e4
  obtain ⟨c2, f2⟩ := e2
  obtain ⟨c3, f3⟩ := e3
  obtain ⟨c4, f4⟩ := e4
  have hd1 : w.cell? ⟨hb, 1, none⟩ = some (.slice (some ⟨r, 0, none⟩) xs.length cap) := h.head.cell 1
  have hd2 : w.cell? ⟨hb, 2, none⟩ = some (.map (some ab)) := h.head.cell 2
  have hbl := h.head.lt
  have hrl := hcur.lt
  have hal := hm1.lt
  obtain ⟨idx2, nod2⟩ := idx_set hidx1 h.nodup hil m
  have hok : ∀ p ∈ xs.set i (hkey xs i, m), EntT p := fun p hp => by
    rcases mem_set hp with rfl | hp
    · exact ⟨by rw [hkey_i]; exact hk, trivial⟩
    · exact h.ok p hp
  have hfin : ∀ W, (∀ b, b < w.heap.size → W.heap[b]? = w.heap[b]?) → HeapAtT (setCells W r (i * 5 + 2) m.vals) hb ab (.slice (some ⟨r, 0, none⟩) xs.length cap) (xs.set i (hkey xs i, m)) := fun W hW => by
    have hh := h.same (hW hb hbl) (hW ab hal) (fun q hq => by simp [Value.ownBlock] at hq; subst hq; exact hW r hrl)
    have hrow := row_valueT hh.row hil m
    rw [List.length_set] at hrow
    refine ⟨(heap_sets _ hne _).trans hh.head, by rw [List.length_set]; exact hrow, ⟨l, ?_, idx2⟩, nod2, hok, by rw [List.length_set]; exact h.le⟩
    exact (hm1.same (hW ab hal)).same (heap_sets _ hnr _)
  have hfix : ∀ W, HeapAtT W hb ab (.slice (some ⟨r, 0, none⟩) xs.length cap) (xs.set i (hkey xs i, m)) → Calls Tryz.prog 120 #[.pointer (some ⟨hb, 0, none⟩), .int .i64 (i : Int)] W fun e w' => e = .returned (.tuple #[]) ∧ HeapAtT w' hb ab (.slice (some ⟨r, 0, none⟩) xs.length cap) (hset TMark.lt xs k m) ∧ Only (fun p => p = r ∨ p = ab) W w' := fun W hW => by
    have := fixT hb ab r cap i (xs.set i (hkey xs i, m)) W (by rw [List.length_set]; exact hW) (by rw [List.length_set]; exact hil)
    rw [List.length_set, ← eset] at this
    exact this
  have HFIX := Lib.hid hfix
  have HFIN := Lib.hid hfin
  have HM1 := Lib.hid hm1
  have HLK := Lib.hid hlk
  have hle := h.le
  obtain ⟨N, hN⟩ : ∃ N, N = xs.length := ⟨_, rfl⟩
  obtain ⟨old, hold⟩ : ∃ o, o = hval xs i := ⟨_, rfl⟩
  rw [← hold] at c2 c3 c4
  rw [← hN] at hd1 hil HFIN HFIX hle
  rw [← hN]
  have hiN : (i : Int) < (N : Int) := by omega
  obtain ⟨Y, hY⟩ : ∃ Y, Y = hset TMark.lt xs k m := ⟨_, rfl⟩
  rw [← hY] at HFIX ⊢
  obtain ⟨a1, ha1⟩ : ∃ a, a = m.at_ := ⟨_, rfl⟩
  obtain ⟨a2, ha2⟩ : ∃ a, a = m.key.kind := ⟨_, rfl⟩
  obtain ⟨a3, ha3⟩ : ∃ a, a = m.key.id := ⟨_, rfl⟩
  obtain ⟨k1, hk1⟩ : ∃ a, a = k.kind := ⟨_, rfl⟩
  obtain ⟨k2, hk2⟩ : ∃ a, a = k.id := ⟨_, rfl⟩
  simp only [TMark.vals, kvalT] at HFIN ⊢
  rw [← ha1, ← ha2, ← ha3] at HFIN
  rw [← ha1, ← ha2, ← ha3, ← hk1, ← hk2]
  rw [← hk1, ← hk2] at HLK
  clear h hcur hm1 hidx1 hlk hx idx2 nod2 hok hfin hfix hi hkey_i eset hN hold hY hal ha1 ha2 ha3 hk1 hk2 hk
  go_enter Tryz.func115, Tryz.ntmps115
  go_upto_region 1 with (fail)
  have hb1 := two_new w (.cells #[.int .i64 k1, .int .i64 k2] 90) (.cells #[.int .i64 a1, .int .i64 a2, .int .i64 a3] 92)
  have hx1 := (Blk.new w 90 #[.int .i64 k1, .int .i64 k2]).alloc (.cells #[.int .i64 a1, .int .i64 a2, .int .i64 a3] 92)
  have hy1 := two_blk w (.cells #[.int .i64 k1, .int .i64 k2] 90) 92 #[.int .i64 a1, .int .i64 a2, .int .i64 a3]
  generalize (w.alloc _).alloc _ = w1 at hb1 hx1 hy1 ⊢
  have hne2 : r ≠ w.heap.size := by omega
  have hne3 : hb ≠ w.heap.size := by omega
  have hne4 : r ≠ w.heap.size + 1 := by omega
  have hne5 : hb ≠ w.heap.size + 1 := by omega
  have g2 := (hb1.cell (p := ⟨r, i * 5 + 2, none⟩) hrl).trans c2
  have g3 := (hb1.cell (p := ⟨r, i * 5 + 3, none⟩) hrl).trans c3
  have g4 := (hb1.cell (p := ⟨r, i * 5 + 4, none⟩) hrl).trans c4
  have q2 := (hb1.frozen (p := ⟨r, i * 5 + 2, none⟩) hrl).trans f2
  have q3 := (hb1.frozen (p := ⟨r, i * 5 + 3, none⟩) hrl).trans f3
  have q4 := (hb1.frozen (p := ⟨r, i * 5 + 4, none⟩) hrl).trans f4
  have hd1' := (hb1.cell (p := ⟨hb, 1, none⟩) hbl).trans hd1
  have hd2' := (hb1.cell (p := ⟨hb, 2, none⟩) hbl).trans hd2
  generalize w.heap.size + 1 = gy at hy1 hne4 hne5 ⊢
  obtain ⟨gx, hgx⟩ : ∃ g, g = w.heap.size := ⟨_, rfl⟩
  rw [← hgx] at hx1 hne2 hne3
  rw [← hgx]
  have x0 : w1.cell? ⟨gx, 0, none⟩ = some (.int .i64 k1) := hx1.cell 0
  have x1 : w1.cell? ⟨gx, 1, none⟩ = some (.int .i64 k2) := hx1.cell 1
  have y0 : w1.cell? ⟨gy, 0, none⟩ = some (.int .i64 a1) := hy1.cell 0
  have y1 : w1.cell? ⟨gy, 1, none⟩ = some (.int .i64 a2) := hy1.cell 1
  have y2 : w1.cell? ⟨gy, 2, none⟩ = some (.int .i64 a3) := hy1.cell 2
  have hl1 : ∀ n, (Instr.lookup 111 (.map (some ab)) (.agg #[.int .i64 k1, .int .i64 k2]) true).run Tryz.prog (w1.drewN n) = .ok (.tuple #[.int .i64 (i : Int), .bool true]) (w1.drewN n) := fun n => HLK.out _ (HM1.out.same (hb1.block ab HM1.out.lt))
  have HB1 := Lib.hid hb1
  clear c2 c3 c4 f2 f3 f4 hd1 hd2 hb1 hx1 hy1 hgx
  go_quiet (fail)
  have hf := HFIN.out ((w1.drewN nq).drew) (fun b hb' => HB1.out.block b hb')
  have ho : Only (fun p => p = r ∨ p = ab) w (setCells ((w1.drewN nq).drew) r (i * 5 + 2) [.int .i64 a1, .int .i64 a2, .int .i64 a3]) := only_sets _ ((((Only.refl w).below HB1.out).drewN _).drew) (fun _ => .inl rfl) _
  have HF := Lib.hid hf
  have HO := Lib.hid ho
  clear hf ho
  go_wp2_with (fail)
  go_region
  go_wp2_with (go_at_call 120; refine (HFIX.out _ HF.out).mono ?_; rintro e w2 ⟨rfl, h2, o2⟩; have H2 := Lib.hid h2; have O2 := Lib.hid (HO.out.trans o2 (fun _ _ h => h)); clear h2 o2)
  go_end0
  exact ⟨rfl, H2.out, O2.out⟩
end Go.Proofs.YtjmdgicdpggljaaGreat.GH

/- Proved: what Set leaves of a heap whose keys are pairs of numbers, where the key is new. -/
namespace Go.Proofs.YtjmdgicdpggljaaGreat.GH
open Go.RowKit Go.Proofs.YtjmdgicdpggljaaGreat.Histo Go.Proofs.YtjmdgicdpggljaaGreat.Event
set_option linter.unusedVariables false
open Go.Proofs.YtjmdgicdpggljaaGreat.MapG (Codec Mk)
open Go.Proofs.YtjmdgicdpggljaaGreat.MapI (W64)

theorem step_append_at {P : Program} (w : World) {ops : Array Oper} {o : Oper} {a : Act} {K : Act → World → Prop} {Q : Exit → Act → World → Prop} {E : Prop} (hgd : o.guard = none) (s x : Operand) (t : TypeId)
    (ho : o.op = .call { callee := .builtin .append, args := #[s, x], argTypes := #[t, t] })
    (e : TypeId) (i : TypeInfo) (z : Value) (size bytes : Nat) (ht : P.underlying t = some (.slice e)) (hi : P.info? e = some i) (hz : i.zero = some z)
    (hsize : i.size = size) (hby : i.bytes = bytes) (hzs : z.cells.size = size) (hsz : 0 < size)
    (v : Value) (n : Nat) (xs : List Value) (hs : a.eval s = v) (hown : w.ownsRow 0 e size v n xs)
    (ad : Addr) (m c : Nat) (news : List Value) (hx : a.eval x = .slice (some ad) m c) (hl : news.length = m * size) (hnews : ∀ j u, news[j]? = some u → w.cell? (ad.add j) = some u) (h1 : ∀ u ∈ news, u.oneCell' = true)
    (h63 : n + m ≤ maxLen) (hbytes : (n + m) * bytes ≤ 140737488355328) (hm : 0 < m)
    (h : ∀ r' cap' w', w'.ownsRow 0 e size (.slice (some ⟨r', 0, none⟩) (n + m : Nat) cap') (n + m) (xs ++ news) → w.grownBy w' v.ownBlock → (some r' = v.ownBlock ∨ r' = w.heap.size) → n + m ≤ cap' → K (a.put o.dst (.slice (some ⟨r', 0, none⟩) (n + m : Nat) cap')) w') :
    if Region.wanted o (yielded ops a.tmps) = true then Oper.wp P o a w K Q else E := by
  have hw : Region.wanted o (yielded ops a.tmps) = true := by simp [Region.wanted, hgd]
  rw [if_pos hw]
  obtain ⟨v', w', hr, h2, h3, h4, h5⟩ := run_append_own_at (P := P) w 0 t o.type e i z size bytes ht hi hz hsize hby hzs hsz v n xs hown ad m c news hl hnews h1 h63 hbytes (Nat.zero_le _)
  unfold Oper.wp execOp
  simp only [ho, resolve, invoke, builtin, Sem.run_bind, Sem.run_pure, Result.andThen_ok, List.map_toArray, List.map_cons, List.map_nil, hs, hx, hr]
  obtain ⟨r', cap', rfl, hc⟩ := row_slice h2 (by omega)
  refine h r' cap' w' h2 h3 ?_ hc
  rcases h5 with h5 | h5
  · exact .inl h5
  · simp [Value.ownBlock] at h5; exact .inr h5
def zeroMarkT : TMark := ⟨0, ⟨0, 0⟩⟩
theorem set_lastT {xs : HL TKey TMark} {k : TKey} {m z : TMark} : (xs ++ [(k, z)]).set xs.length (hkey (xs ++ [(k, z)]) xs.length, m) = xs ++ [(k, m)] := by
  have : hkey (xs ++ [(k, z)]) xs.length = k := by unfold hkey; simp
  rw [this]
  simp
theorem own_ne_mapT {w : World} {e : TypeId} {z n : Nat} {v : Value} {raw : List Value} {b : Nat} {k : TypeId} {l : MapG.AL TKey} (h : w.ownsRow 0 e z v n raw) (hb : Mk kT Tryz.prog k w b l) : v.ownBlock ≠ some b := by
  intro e1
  rcases h.2 with ⟨h1, h2⟩ | ⟨g, cap, cur, h1, h3, h4, hc, hl⟩
  · subst h1; simp [Value.ownBlock] at e1
  · subst h1
    simp [Value.ownBlock] at e1
    subst e1
    exact ne_of_map (show Blk w g e cur by assumption) hb rfl
theorem one5 (x y : Int) : ∀ u ∈ ([.int .i64 x, .int .i64 y, .int .i64 0, .int .i64 0, .int .i64 0] : List Value), u.oneCell' = true := by
  intro u hu
  simp only [List.mem_cons, List.not_mem_nil, or_false] at hu
  rcases hu with rfl | rfl | rfl | rfl | rfl <;> rfl
/-- The world behind 'h.row = append(h.row, item{key: key})'. -/
structure AppT (w2 w6 : World) (hb ab gx gy r' cap' : Nat) (v : Value) (N : Nat) (xs : HL TKey TMark) (k1 k2 a1 a2 a3 : Int) (l : MapG.AL TKey) : Prop where
  head : Blk w6 hb 114 #[.func (.func 19) #[] #[], .slice (some ⟨r', 0, none⟩) (N + 1) cap', .map (some ab)]
  row : w6.ownsRow 0 193 5 (.slice (some ⟨r', 0, none⟩) (N + 1) cap') (N + 1) ((xs ++ [((⟨k1, k2⟩ : TKey), zeroMarkT)]).flatMap ivT)
  map : Mk kT Tryz.prog 90 w6 ab l
  x : Blk w6 gx 90 #[.int .i64 k1, .int .i64 k2]
  y : Blk w6 gy 92 #[.int .i64 a1, .int .i64 a2, .int .i64 a3]
  only : Only (fun p => p = hb ∨ p = ab ∨ v.ownBlock = some p) w2 w6
  n1 : r' ≠ hb
  n2 : r' ≠ ab
  n4 : gy ≠ r'
  n5 : gy ≠ ab
  own : some r' = v.ownBlock ∨ w2.heap.size ≤ r'
theorem app_world {w2 w5 : World} {hb ab gx gy r' cap' : Nat} {v : Value} {N : Nat} {xs : HL TKey TMark} {k1 k2 a1 a2 a3 : Int} {l : MapG.AL TKey} (h2 : HeapAtT w2 hb ab v xs) (hm : Mk kT Tryz.prog 90 w2 ab l)
    (hx : Blk w2 gx 90 #[.int .i64 k1, .int .i64 k2]) (hy : Blk w2 gy 92 #[.int .i64 a1, .int .i64 a2, .int .i64 a3]) (o : Obj)
    (hown : w5.ownsRow 0 193 5 (.slice (some ⟨r', 0, none⟩) (N + 1) cap') (N + 1) (xs.flatMap ivT ++ [.int .i64 k1, .int .i64 k2, .int .i64 0, .int .i64 0, .int .i64 0]))
    (hg : (w2.alloc o).grownBy w5 v.ownBlock) (hat : some r' = v.ownBlock ∨ w2.heap.size ≤ r') :
    AppT w2 (w5.setCell ⟨hb, 1, none⟩ (.slice (some ⟨r', 0, none⟩) (N + 1) cap')) hb ab gx gy r' cap' v N xs k1 k2 a1 a2 a3 l := by
  have n1 := own_ne h2.row h2.head (by decide)
  have n2 := own_ne_mapT h2.row hm
  have n3 := own_ne h2.row hx (by decide)
  have n4 := own_ne h2.row hy (by decide)
  have h5 : Blk w5 hb _ _ := (h2.head.alloc o).grown hg (fun e => n1 e.symm)
  have hx5 : Blk w5 gx _ _ := (hx.alloc o).grown hg (fun e => n3 e.symm)
  have hy5 : Blk w5 gy _ _ := (hy.alloc o).grown hg (fun e => n4 e.symm)
  have hm5 : Mk kT Tryz.prog 90 w5 ab l := (hm.alloc o).same (hg.block ab (hm.alloc o).lt (fun e => n2 e.symm))
  obtain ⟨cur, hcur⟩ := ownsRow_blk hown
  have m1 : r' ≠ hb := fun e => ne_of_types h5 hcur (by decide) e.symm
  have m2 : r' ≠ ab := fun e => ne_of_map hcur hm5 e
  have m4 : gy ≠ r' := ne_of_types hy5 hcur (by decide)
  have p1 : gx ≠ hb := ne_of_types hx5 h5 (by decide)
  have p2 : gy ≠ hb := ne_of_types hy5 h5 (by decide)
  have p3 : hb ≠ ab := ne_of_map h5 hm5
  refine ⟨by simpa using h5.set_ 1 (.slice (some ⟨r', 0, none⟩) (N + 1) cap'), ?_, hm5.same (Below.heap_setCell _ _ _ _ (Ne.symm p3)), hx5.far p1 _, hy5.far p2 _, (((Only.refl w2).alloc o).grown hg (fun q _ e => .inr (.inr e))).setCell (fun _ => .inl rfl) 1 _, m1, m2, m4, ne_of_map hy5 hm5, hat⟩
  rw [List.flatMap_append]
  exact hown.kept (only_at (only_refl w5 (some hb)) 1 _) (.inr (by simp [Value.ownBlock]; exact m1))
set_option maxRecDepth 100000 in
set_option maxHeartbeats 8000000 in
theorem setT_new (hb ab : Nat) (v : Value) (xs : HL TKey TMark) (k : TKey) (m : TMark) (w : World) (h : HeapAtT w hb ab v xs) (hk : KeyOkT k) (hi : hidx xs k = none) (hlt : xs.length < 1099511627776) :
    Calls Tryz.prog 115 #[.pointer (some ⟨hb, 0, none⟩), kvalT k, .agg m.vals.toArray] w fun e w' => e = .returned (.tuple #[]) ∧ HeapToT w hb ab v (hset TMark.lt xs k m) w' := by
  have eset : hset TMark.lt xs k m = hfix TMark.lt (xs ++ [(k, m)]) xs.length := by unfold hset; rw [hi]
  obtain ⟨l, hm1, hidx1⟩ := h.map
  have hlk : ∀ W, Mk kT Tryz.prog 90 W ab l → (Instr.lookup 111 (.map (some ab)) (.agg #[.int .i64 k.kind, .int .i64 k.id]) true).run Tryz.prog W = .ok (.tuple #[.int .i64 0, .bool false]) W := fun W hW => by
    have := hW.look_ok keyedT kvT Tryz.underlying111 (zero_intW W) (x := k) hk
    rw [hidx1, hi] at this
    exact this
  obtain ⟨idx2, nod2⟩ := idx_app (C := kT) hidx1 h.nodup hi m
  have hll := hidx1.le (hm1.nodup keyedT)
  have hvb : v.ownBlock ≠ some hb := own_ne h.row h.head (by decide)
  have hva : v.ownBlock ≠ some ab := own_ne_mapT h.row hm1
  have hba : hb ≠ ab := ne_of_map h.head hm1
  have hbl := h.head.lt
  have hal := hm1.lt
  have hd2 : w.cell? ⟨hb, 2, none⟩ = some (.map (some ab)) := h.head.cell 2
  obtain ⟨i0, hi0, hz0, hz1, hz2⟩ := info_parts info_itemT
  have H := Lib.hid h
  obtain ⟨N, hN⟩ : ∃ N, N = xs.length := ⟨_, rfl⟩
  rw [← hN] at hlt hll
  obtain ⟨a, cap, hv, hcapN⟩ : ∃ a cap, v = .slice a N cap ∧ N ≤ cap := by
    rcases h.row.2 with ⟨h1, h2⟩ | ⟨g, cap, cur, h1, _, _, hc, _⟩
    · have : N = 0 := by rw [hN]; exact h2
      subst this
      exact ⟨none, 0, h1, Nat.le_refl _⟩
    · exact ⟨_, cap, by rw [h1, hN], by omega⟩
  obtain ⟨a1, a2, a3, hma⟩ : ∃ a1 a2 a3, m = (⟨a1, ⟨a2, a3⟩⟩ : TMark) := ⟨m.at_, m.key.kind, m.key.id, rfl⟩
  obtain ⟨k1, k2, hka⟩ : ∃ k1 k2, k = (⟨k1, k2⟩ : TKey) := ⟨k.kind, k.id, rfl⟩
  subst hma hka
  simp only [TMark.vals, kvalT] at hlk ⊢
  subst hv
  have hrow := h.row
  rw [← hN] at hrow
  have HR := Lib.hid hrow
  have HI0 := Lib.hid (And.intro hi0 (And.intro hz0 (And.intro hz1 hz2)))
  have HID := Lib.hid (And.intro idx2 nod2)
  have HN := Lib.hid hN
  have HM1 := Lib.hid hm1
  have ES := Lib.hid eset
  have HK := Lib.hid hk
  have HLK := Lib.hid hlk
  have HLT := Lib.hid (And.intro hlt (And.intro hll hcapN))
  have HNE := Lib.hid (And.intro hvb (And.intro hva hba))
  have HLS := Lib.hid (And.intro hbl hal)
  obtain ⟨Y, hY⟩ : ∃ Y, Y = hset TMark.lt xs ⟨k1, k2⟩ ⟨a1, ⟨a2, a3⟩⟩ := ⟨_, rfl⟩
  rw [← hY] at ES ⊢
  clear h hm1 hidx1 idx2 nod2 hrow hi0 hz0 hz1 hz2 hN eset hi hk hlk hlt hll hcapN hvb hva hba hY hal
  go_enter Tryz.func115, Tryz.ntmps115
  go_upto_region 1 with (fail)
  have hb1 := two_new w (.cells #[.int .i64 k1, .int .i64 k2] 90) (.cells #[.int .i64 a1, .int .i64 a2, .int .i64 a3] 92)
  have hx1 := (Blk.new w 90 #[.int .i64 k1, .int .i64 k2]).alloc (.cells #[.int .i64 a1, .int .i64 a2, .int .i64 a3] 92)
  have hy1 := two_blk w (.cells #[.int .i64 k1, .int .i64 k2] 90) 92 #[.int .i64 a1, .int .i64 a2, .int .i64 a3]
  generalize (w.alloc _).alloc _ = w1 at hb1 hx1 hy1 ⊢
  have hd2' := (hb1.cell (p := ⟨hb, 2, none⟩) hbl).trans hd2
  obtain ⟨gy, hgy⟩ : ∃ g, g = w.heap.size + 1 := ⟨_, rfl⟩
  rw [← hgy] at hy1 ⊢
  obtain ⟨gx, hgx⟩ : ∃ g, g = w.heap.size := ⟨_, rfl⟩
  rw [← hgx] at hx1 ⊢
  have HG := Lib.hid (And.intro hgx hgy)
  have x0 : w1.cell? ⟨gx, 0, none⟩ = some (.int .i64 k1) := hx1.cell 0
  have x1 : w1.cell? ⟨gx, 1, none⟩ = some (.int .i64 k2) := hx1.cell 1
  have hl1 : ∀ n, (Instr.lookup 111 (.map (some ab)) (.agg #[.int .i64 k1, .int .i64 k2]) true).run Tryz.prog (w1.drewN n) = .ok (.tuple #[.int .i64 0, .bool false]) (w1.drewN n) := fun n => HLK.out _ (HM1.out.same (hb1.block ab HM1.out.lt))
  have HB1 := Lib.hid hb1
  have HX1 := Lib.hid hx1
  have HY1 := Lib.hid hy1
  clear hd2 hb1 hx1 hy1 hgx hgy hbl
  go_quiet (fail)
  have hb2 : Below w.heap.size w (w1.drewN nq) := below_drewN HB1.out nq
  have hx2 : Blk (w1.drewN nq) gx 90 #[.int .i64 k1, .int .i64 k2] := HX1.out.drewN nq
  have hy2 : Blk (w1.drewN nq) gy 92 #[.int .i64 a1, .int .i64 a2, .int .i64 a3] := HY1.out.drewN nq
  clear x0 x1 hl1 hd2' HB1 HX1 HY1
  generalize w1.drewN nq = w2 at hb2 hx2 hy2 ⊢
  have x0 : w2.cell? ⟨gx, 0, none⟩ = some (.int .i64 k1) := hx2.cell 0
  have x1 : w2.cell? ⟨gx, 1, none⟩ = some (.int .i64 k2) := hx2.cell 1
  have h2 := H.out.below hb2
  have d1 : w2.cell? ⟨hb, 1, none⟩ = some (.slice a N cap) := h2.head.cell 1
  have f1 := h2.head.frozen 1
  have H2 := Lib.hid h2
  have HB2 := Lib.hid hb2
  have HX2 := Lib.hid hx2
  have HY2 := Lib.hid hy2
  clear h2 hb2 hx2 hy2
  go_upto_region 4 with (fail)
  have hown2 : w2.ownsRow 0 193 5 (.slice a N cap) N (xs.flatMap ivT) := by have := H2.out.row; rw [← HN.out] at this; exact this
  have HOWN := Lib.hid hown2
  have hm1 : N + 1 ≤ maxLen := by have := HLT.out.1; unfold maxLen; omega
  have hm2 : (N + 1) * 40 ≤ 140737488355328 := by have := HLT.out.1; omega
  have HM := Lib.hid (And.intro hm1 hm2)
  have KA := Lib.hid (fun (o : Obj) (w5 : World) (hg : (w2.alloc o).grownBy w5 (Value.slice a N cap).ownBlock) => (⟨((H2.out.head.alloc o).grown hg (fun e => HNE.out.1 e.symm)).cell 1, ((H2.out.head.alloc o).grown hg (fun e => HNE.out.1 e.symm)).frozen 1⟩ : w5.cell? ⟨hb, 1, none⟩ = some (.slice a N cap) ∧ w5.frozen? ⟨hb, 1, none⟩ = false))
  have d1' : (w2.alloc (.cells #[.int .i64 k1, .int .i64 k2, .int .i64 0, .int .i64 0, .int .i64 0] 193)).drew.cell? ⟨hb, 1, none⟩ = some (.slice a N cap) := (H2.out.head.alloc _).cell 1
  have d1'' : (w2.alloc (.cells #[.int .i64 k1, .int .i64 k2, .int .i64 0, .int .i64 0, .int .i64 0] 193)).cell? ⟨hb, 1, none⟩ = some (.slice a N cap) := (H2.out.head.alloc _).cell 1
  clear hown2 hm1 hm2 f1
  go_region_law
    (first
      | ((refine step_append_at _ (by rfl) _ _ _ (by rfl) 193 i0 (.agg #[.int .i64 0, .int .i64 0, .int .i64 0, .int .i64 0, .int .i64 0]) 5 40 Tryz.underlying112 HI0.out.1 HI0.out.2.1 HI0.out.2.2.1 HI0.out.2.2.2 rfl (by decide) (.slice a N cap) N (xs.flatMap ivT) (by rfl) (HOWN.out.alloc _) ⟨w2.heap.size, 0, none⟩ 1 1 [.int .i64 k1, .int .i64 k2, .int .i64 0, .int .i64 0, .int .i64 0] (by rfl) rfl (fun j u hj => World.news_of_block (heap_alloc_new w2 _) j u hj) (one5 k1 k2) HM.out.1 HM.out.2 (by omega) ?_); intro r' cap' w5 hown5 hgrow5 hat5 hcap5; obtain ⟨ca5, fa5⟩ := KA.out _ w5 ⟨hgrow5.os, hgrow5.tape, hgrow5.output, hgrow5.size, hgrow5.block⟩))
  all_goals
    have A := app_world (l := l) H2.out (HM1.out.same (HB2.out.block ab HLS.out.2)) HX2.out HY2.out _ hown5 ⟨hgrow5.os, hgrow5.tape, hgrow5.output, hgrow5.size, hgrow5.block⟩ (hat5.imp_right fun e => by rw [e]; show w2.heap.size ≤ (w2.alloc _).heap.size; rw [World.size_alloc]; exact Nat.le_succ _)
    clear hown5 hgrow5 hat5 ca5 fa5 d1 d1' d1'' x0 x1
    generalize w5.setCell _ _ = w6 at A ⊢
    have d2 : w6.cell? ⟨hb, 2, none⟩ = some (.map (some ab)) := A.head.cell 2
    have x0 : w6.cell? ⟨gx, 0, none⟩ = some (.int .i64 k1) := A.x.cell 0
    have x1 : w6.cell? ⟨gx, 1, none⟩ = some (.int .i64 k2) := A.x.cell 1
    have HA := Lib.hid A
    clear A
    go_upto_region 5 with (fail)
    go_still_tail 6, (by kernel_rfl)
    change wpList _ _ _ _ _ w6.drew
    go_wp2_with (at_mapUpdate; refine MapG.wp_store keyedT kvT _ rfl _ _ _ 111 rfl Tryz.underlying111 rfl (HA.out.map.same rfl) (by have := HLT.out.1; have := HLT.out.2.1; unfold maxLen; omega) ⟨k1, k2⟩ rfl HK.out (.int .i64 (N : Int)) rfl ?_; intro w7 hm7 hg7 _)
    have hB7 : Blk w7 hb 114 #[.func (.func 19) #[] #[], .slice (some ⟨r', 0, none⟩) (N + 1) cap', .map (some ab)] := HA.out.head.drew.grown hg7 (fun e => HNE.out.2.2 (by cases e; rfl))
    have hY7 : Blk w7 gy 92 #[.int .i64 a1, .int .i64 a2, .int .i64 a3] := HA.out.y.drew.grown hg7 (fun e => HA.out.n5 (by cases e; rfl))
    have hR7 : w7.ownsRow 0 193 5 (.slice (some ⟨r', 0, none⟩) (N + 1) cap') (N + 1) ((xs ++ [((⟨k1, k2⟩ : TKey), zeroMarkT)]).flatMap ivT) := (ownsRow_drew HA.out.row).kept hg7 (.inr (by simp [Value.ownBlock]; exact HA.out.n2))
    have hO7 : Only (fun p => p = hb ∨ p = ab ∨ (Value.slice a N cap).ownBlock = some p) w w7 := ((((Only.refl w).below HB2.out).trans HA.out.only (fun _ _ h => h)).drew).grown hg7 (fun q _ e => by cases e; exact .inr (.inl rfl))
    have hN1 : (xs ++ [((⟨k1, k2⟩ : TKey), zeroMarkT)]).length = N + 1 := by rw [List.length_append, ← HN.out]; rfl
    have hgetN : (xs ++ [((⟨k1, k2⟩ : TKey), zeroMarkT)])[N]? = some ((⟨k1, k2⟩ : TKey), zeroMarkT) := by rw [HN.out, List.getElem?_append_right (Nat.le_refl _)]; simp
    have hR7' : w7.ownsRow 0 193 5 (.slice (some ⟨r', 0, none⟩) (xs ++ [((⟨k1, k2⟩ : TKey), zeroMarkT)]).length cap') (xs ++ [((⟨k1, k2⟩ : TKey), zeroMarkT)]).length ((xs ++ [((⟨k1, k2⟩ : TKey), zeroMarkT)]).flatMap ivT) := by rw [hN1]; exact hR7
    have e2 := row_cell ivT_len hR7' hgetN (q := 2) (by omega)
    have e3 := row_cell ivT_len hR7' hgetN (q := 3) (by omega)
    have e4 := row_cell ivT_len hR7' hgetN (q := 4) (by omega)
    simp only [ivT, TMark.vals, zeroMarkT, List.getElem?_cons_zero, List.getElem?_cons_succ] at e2 e3 e4
    obtain ⟨c2, f2⟩ := e2
    obtain ⟨c3, f3⟩ := e3
    obtain ⟨c4, f4⟩ := e4
    have hrowV := row_valueT (w := w7.drew) (xs := xs ++ [((⟨k1, k2⟩ : TKey), zeroMarkT)]) (r := r') (cap := cap') (ownsRow_drew hR7') (i := xs.length) (by rw [hN1, ← HN.out]; omega) ⟨a1, ⟨a2, a3⟩⟩
    rw [set_lastT, ← HN.out] at hrowV
    simp only [TMark.vals] at hrowV
    have hd1 : w7.cell? ⟨hb, 1, none⟩ = some (.slice (some ⟨r', 0, none⟩) (N + 1) cap') := hB7.cell 1
    have hN2 : (xs ++ [((⟨k1, k2⟩ : TKey), (⟨a1, ⟨a2, a3⟩⟩ : TMark))]).length = N + 1 := by rw [List.length_append, ← HN.out]; rfl
    have hl2 : (xs ++ [((⟨k1, k2⟩ : TKey), (⟨a1, ⟨a2, a3⟩⟩ : TMark))]).length ≤ 1099511627776 := by rw [hN2]; have := HLT.out.1; omega
    have hfin : HeapAtT (setCells w7.drew r' (N * 5 + 2) [.int .i64 a1, .int .i64 a2, .int .i64 a3]) hb ab (.slice (some ⟨r', 0, none⟩) (xs ++ [((⟨k1, k2⟩ : TKey), (⟨a1, ⟨a2, a3⟩⟩ : TMark))]).length cap') (xs ++ [(⟨k1, k2⟩, ⟨a1, ⟨a2, a3⟩⟩)]) := by
      refine ⟨(heap_sets _ HA.out.n1.symm _).trans (by rw [hN2]; exact hB7), hrowV, ⟨_, hm7.same ?_, ?_⟩, HID.out.2, fun p hp => ?_, hl2⟩
      · exact heap_sets _ HA.out.n2.symm _
      · have := HID.out.1
        rw [← HN.out] at this
        exact this
      · rcases List.mem_append.1 hp with hp | hp
        · exact H.out.ok p hp
        · simp at hp; subst hp; exact ⟨HK.out, trivial⟩
    have hown' : some r' = (Value.slice a N cap).ownBlock ∨ w.heap.size ≤ r' := HA.out.own.imp_right fun e => Nat.le_trans HB2.out.size e
    have honly : Only (fun p => p = hb ∨ p = ab ∨ (Value.slice a N cap).ownBlock = some p) w (setCells w7.drew r' (N * 5 + 2) [.int .i64 a1, .int .i64 a2, .int .i64 a3]) := only_sets _ hO7.drew (fun hlt2 => by
      rcases hown' with e | e
      · exact .inr (.inr e.symm)
      · omega) _
    have hfix := fun W (hW : HeapAtT W hb ab (.slice (some ⟨r', 0, none⟩) (xs ++ [((⟨k1, k2⟩ : TKey), (⟨a1, ⟨a2, a3⟩⟩ : TMark))]).length cap') (xs ++ [(⟨k1, k2⟩, ⟨a1, ⟨a2, a3⟩⟩)])) => fixT hb ab r' cap' N (xs ++ [(⟨k1, k2⟩, ⟨a1, ⟨a2, a3⟩⟩)]) W hW (by rw [hN2]; omega)
    rw [← HN.out] at ES
    rw [← ES.out, hN2] at hfix
    rw [hN2] at hfin
    have hend : ∀ w8, HeapAtT w8 hb ab (.slice (some ⟨r', 0, none⟩) (N + 1) cap') Y → Only (fun p => p = r' ∨ p = ab) (setCells w7.drew r' (N * 5 + 2) [.int .i64 a1, .int .i64 a2, .int .i64 a3]) w8 → HeapToT w hb ab (.slice a N cap) Y w8 := fun w8 h8 o8 => by
      refine ⟨_, h8, hown'.imp (fun e => e) (fun e => ⟨r', rfl, e⟩), honly.trans o8 (fun q hq hr => ?_)⟩
      rcases hr with rfl | rfl
      · rcases hown' with e | e
        · exact .inr (.inr e.symm)
        · omega
      · exact .inr (.inl rfl)
    obtain ⟨N1, hN3⟩ : ∃ N1, N1 = N + 1 := ⟨_, rfl⟩
    rw [← hN3] at hfin hfix hd1 hend ⊢
    have hNN : (N : Int) < (N1 : Int) := by omega
    have HF := Lib.hid hfin
    have HFIX := Lib.hid hfix
    have HEND := Lib.hid hend
    have y0 : w7.cell? ⟨gy, 0, none⟩ = some (.int .i64 a1) := hY7.cell 0
    have y1 : w7.cell? ⟨gy, 1, none⟩ = some (.int .i64 a2) := hY7.cell 1
    have y2 : w7.cell? ⟨gy, 2, none⟩ = some (.int .i64 a3) := hY7.cell 2
    have hyr := HA.out.n4
    have hbr := HA.out.n1
    clear hB7 hY7 hR7 hO7 hN1 hgetN hR7' hrowV hN2 hl2 hfin hown' honly hfix hend hN3 hm7 hg7 x0 x1 d2
    go_wp2_with (fail)
    go_region
    all_goals
      go_wp2_with (go_at_call 120; refine (HFIX.out _ HF.out).mono ?_; rintro e w8 ⟨rfl, h8, o8⟩; have H8 := Lib.hid (HEND.out _ h8 o8); clear h8 o8)
    all_goals
      go_end0
      exact ⟨rfl, H8.out⟩
end Go.Proofs.YtjmdgicdpggljaaGreat.GH
