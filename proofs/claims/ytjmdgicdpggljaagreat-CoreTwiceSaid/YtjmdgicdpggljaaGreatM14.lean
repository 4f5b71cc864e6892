/- Proved: what heap.Heap's up leaves. -/
import Derived.Test.YtjmdgicdpggljaaGreatM12
import Derived.StillTailTactics
import Derived.Laws.AppendOwn
set_option linter.all false
namespace Go.Proofs.YtjmdgicdpggljaaGreat.GH
open Go.RowKit Go.Proofs.YtjmdgicdpggljaaGreat.Histo Go.Proofs.YtjmdgicdpggljaaGreat.Event
set_option linter.unusedVariables false
open Go.Proofs.YtjmdgicdpggljaaGreat.MapG (Codec Mk)
open Go.Proofs.YtjmdgicdpggljaaGreat.MapI (W64)

section
variable {K V : Type} [DecidableEq K] [Inhabited K] [Inhabited V]
theorem hup_len (lt : V → V → Bool) : ∀ (n : Nat) (xs : HL K V) (i : Nat), i < xs.length → (hup lt n xs i).1.length = xs.length ∧ (hup lt n xs i).2 < xs.length
  | 0, xs, i, h => ⟨rfl, h⟩
  | n + 1, xs, i, h => by
    unfold hup
    split
    · next hc =>
      have := hup_len lt n (hswap xs i ((i - 1) / 2)) ((i - 1) / 2) (by rw [hswap_len]; omega)
      rw [hswap_len] at this
      exact this
    · exact ⟨rfl, h⟩
theorem hup_zero (lt : V → V → Bool) : ∀ (n : Nat) (xs : HL K V), hup lt n xs 0 = (xs, 0)
  | 0, _ => rfl
  | n + 1, xs => by unfold hup; rw [if_neg (by simp)]
theorem hup_stop (lt : V → V → Bool) (n : Nat) (xs : HL K V) (i : Nat) (h : lt (hval xs i) (hval xs ((i - 1) / 2)) = false) : hup lt n xs i = (xs, i) := by
  cases n with
  | zero => rfl
  | succ n => unfold hup; rw [if_neg (by rw [h]; simp)]
end
theorem cast_bne (a b : Nat) : ((a : Int) != (b : Int)) = (a != b) := by rw [Bool.eq_iff_iff]; simp; omega
set_option maxRecDepth 100000 in
set_option maxHeartbeats 8000000 in
theorem upW (hb ab r cap i : Nat) (xs : HL Int Mark) (w : World) (h : HeapAtW w hb ab (.slice (some ⟨r, 0, none⟩) xs.length cap) xs) (hi : i < xs.length) :
    Calls Tryz.prog 171 #[.pointer (some ⟨hb, 0, none⟩), .int .i64 (i : Int)] w fun e w' => e = .returned (.bool ((hup Mark.lt i xs i).2 != i)) ∧ HeapAtW w' hb ab (.slice (some ⟨r, 0, none⟩) xs.length cap) (hup Mark.lt i xs i).1 ∧ Only (fun p => p = r ∨ p = ab) w w' := by
  have st : ∃ ys j n, (i : Int) = (j : Nat) ∧ j ≤ n ∧ j < ys.length ∧ ys.length = xs.length ∧ hup Mark.lt n ys j = hup Mark.lt i xs i ∧ HeapAtW w hb ab (.slice (some ⟨r, 0, none⟩) xs.length cap) ys := ⟨xs, i, i, rfl, Nat.le_refl _, hi, rfl, rfl, h⟩
  have hle := h.le
  obtain ⟨R, hR⟩ : ∃ R, R = hup Mark.lt i xs i := ⟨_, rfl⟩
  obtain ⟨N, hN⟩ : ∃ N, N = xs.length := ⟨_, rfl⟩
  rw [← hR, ← hN] at st
  rw [← hR, ← hN]
  rw [← hN] at hi hle
  have ST := Lib.hid st
  clear h hN hR st
  go_enter Tryz.func171, Tryz.ntmps171
  go_wp2_with (fail)
  go_loopw [1] (fun iv wr => ∃ ys j n, iv = .int .i64 (j : Nat) ∧ j ≤ n ∧ j < ys.length ∧ ys.length = N ∧ hup Mark.lt n ys j = R ∧ HeapAtW wr hb ab (.slice (some ⟨r, 0, none⟩) N cap) ys ∧ Only (fun p => p = r ∨ p = ab) w wr) (fun iv _ => (intOf iv).toNat)
  case atStart =>
    obtain ⟨ys, j, n, h1, h2, h3, h4, h5, h6⟩ := ST.out
    exact ⟨ys, j, n, by rw [h1], h2, h3, h4, h5, h6, Only.refl w⟩
  case round =>
    obtain ⟨ys, j, n, rfl, h2, h3, h4, h5, h6, h7⟩ := hrel
    by_cases hj : 0 < j
    · have hp : (j - 1) / 2 < ys.length := by omega
      obtain ⟨⟨kj, mj⟩, hxj⟩ : ∃ x, ys[j]? = some x := ⟨_, hget_pair h3⟩
      obtain ⟨⟨kp, mp⟩, hxp⟩ : ∃ x, ys[(j - 1) / 2]? = some x := ⟨_, hget_pair hp⟩
      have hvj : hval ys j = mj := by rw [hval_get, hxj]; rfl
      have hvp : hval ys ((j - 1) / 2) = mp := by rw [hval_get, hxp]; rfl
      obtain ⟨p, hpp⟩ : ∃ p, p = (j - 1) / 2 := ⟨_, rfl⟩
      have hstep := hup_stop Mark.lt n ys j
      rw [hvj, hvp] at hstep
      rw [← hpp] at hp hxp hvp
      have hrow := h6.row
      rw [← h4] at hrow
      obtain ⟨j1, _⟩ := row_cell ivW_len hrow hxj (q := 1) (by omega)
      obtain ⟨j2, _⟩ := row_cell ivW_len hrow hxj (q := 2) (by omega)
      obtain ⟨j3, _⟩ := row_cell ivW_len hrow hxj (q := 3) (by omega)
      obtain ⟨p1, _⟩ := row_cell ivW_len hrow hxp (q := 1) (by omega)
      obtain ⟨p2, _⟩ := row_cell ivW_len hrow hxp (q := 2) (by omega)
      obtain ⟨p3, _⟩ := row_cell ivW_len hrow hxp (q := 3) (by omega)
      simp only [ivW, Mark.vals, List.getElem?_cons_zero, List.getElem?_cons_succ] at j1 j2 j3 p1 p2 p3
      have hd0 : wr.cell? ⟨hb, 0, none⟩ = some (.func (.func 157) #[] #[]) := h6.head.cell 0
      have hd1 : wr.cell? ⟨hb, 1, none⟩ = some (.slice (some ⟨r, 0, none⟩) N cap) := h6.head.cell 1
      have ojm := (h6.ok _ (List.mem_of_getElem? hxj)).v
      have opm := (h6.ok _ (List.mem_of_getElem? hxp)).v
      have hless := fun W => wless_any mj mp W ojm opm
      have hjn : (j : Int) < (N : Int) := by omega
      have hpn : (p : Int) < (N : Int) := by omega
      have hj0 : (0 : Int) < (j : Int) := by omega
      obtain ⟨q, hq⟩ : ∃ q : Nat, q = j - 1 := ⟨_, rfl⟩
      have hw1 : IntKind.i64.wrap ((j : Int) - 1) = (q : Int) := by rw [IntWalk.i64_in _ (by omega)]; omega
      have hw1' : wrap64 ((j : Int) - 1) = (q : Int) := by rw [IntWalk.wrap64_in _ (by omega)]; omega
      have hw3 : (j : Int) - 1 = (q : Int) := by omega
      have hqt : (q : Int).tdiv 2 = (p : Int) := by rw [Int.tdiv_eq_ediv_of_nonneg (by omega)]; omega
      have hw2 : IntKind.i64.wrap (p : Int) = (p : Int) := IntWalk.i64_in _ (by omega)
      have hqe : (q : Int) / 2 = (p : Int) := by omega
      have hwq : IntKind.i64.wrap (q : Int) = (q : Int) := IntWalk.i64_in _ (by omega)
      have hjp : j ≠ p := by omega
      obtain ⟨L, hL⟩ : ∃ L, L = Mark.lt mj mp := ⟨_, rfl⟩
      rw [← hL] at hless hstep
      have HL := Lib.hid hless
      have H6 := Lib.hid h6
      have H7 := Lib.hid h7
      have HS := Lib.hid hstep
      have H5 := Lib.hid h5
      have H4 := Lib.hid h4
      have HVL := Lib.hid (And.intro hvj (And.intro hvp (And.intro hL hpp)))
      clear hxj hxp hrow h6 h7 hless ojm opm hvj hvp hL hpp hstep h5 h4 hq
      simp only [Mark.vals] at HL
      go_wp2_with (fail)
      go_still_tail 25, (by kernel_rfl)
      change wpList _ _ _ _ _ wr.drew
      have h62 := H6.out.drew
      have h72 := H7.out.drew
      generalize wr.drew = W2 at h62 h72 ⊢
      have H62 := Lib.hid h62
      have H72 := Lib.hid h72
      clear h62 h72 hd0 hd1 j1 j2 j3 p1 p2 p3
      cases L
      · go_wp2_with (go_at_call 157; refine (HL.out _).mono ?_; rintro e w3 ⟨rfl, hb3⟩)
        go_ret
        have e := HS.out trivial
        rw [H5.out] at e
        refine ⟨by rw [e, ← cast_bne]; rfl, ?_, H72.out.below hb3⟩
        rw [e]
        exact H62.out.below hb3
      · have hsw := swapW hb ab r cap j p ys
        rw [H4.out] at hsw
        have HSW := Lib.hid hsw
        clear hsw
        go_wp2_with (first
          | (go_at_call 157; refine (HL.out _).mono ?_; rintro e w3 ⟨rfl, hb3⟩; have H63 := Lib.hid (H62.out.below hb3); have H73 := Lib.hid (H72.out.below hb3); clear hb3)
          | (go_at_call 158; refine (HSW.out _ H63.out (by omega) (by omega) hjp).mono ?_; rintro e w4 ⟨rfl, h64, h74⟩; have H64 := Lib.hid h64; have H74 := Lib.hid (H73.out.trans h74 (fun _ _ h => h)); clear h64 h74))
        go_roundw
        case rel => exact ⟨hswap ys j p, p, n - 1, rfl, by omega, by rw [hswap_len]; omega, by rw [hswap_len]; exact H4.out, by
          rw [← H5.out]
          obtain ⟨n', rfl⟩ : ∃ n', n = n' + 1 := ⟨n - 1, by omega⟩
          rw [hup, HVL.out.1, ← HVL.out.2.2.2, HVL.out.2.1, ← HVL.out.2.2.1, if_pos ⟨by omega, rfl⟩]; rfl, H64.out, H74.out⟩
        case measure => simp [intOf]; omega
    · obtain rfl : j = 0 := by omega
      rw [hup_zero] at h5
      have H5 := Lib.hid h5
      have H6 := Lib.hid h6
      have H7 := Lib.hid h7
      have H4 := Lib.hid h4
      clear h4 h5 h6 h7
      go_wp2_with (fail)
      go_quiet (fail)
      go_wp2
      go_ret
      rw [← H5.out]
      exact ⟨by rw [← cast_bne]; rfl, H6.out.drewN _, H7.out.drewN _⟩
end Go.Proofs.YtjmdgicdpggljaaGreat.GH

/- Proved: what heap.Heap's down and fix leave. -/
namespace Go.Proofs.YtjmdgicdpggljaaGreat.GH
open Go.RowKit Go.Proofs.YtjmdgicdpggljaaGreat.Histo Go.Proofs.YtjmdgicdpggljaaGreat.Event
set_option linter.unusedVariables false
open Go.Proofs.YtjmdgicdpggljaaGreat.MapG (Codec Mk)
open Go.Proofs.YtjmdgicdpggljaaGreat.MapI (W64)

section
variable {K V : Type} [DecidableEq K] [Inhabited K] [Inhabited V]
theorem hpick_lt (lt : V → V → Bool) (xs : HL K V) (m c : Nat) (h : m < xs.length) : hpick lt xs m c < xs.length := by unfold hpick; split <;> omega
theorem hpick_out (lt : V → V → Bool) (xs : HL K V) (m c : Nat) (h : xs.length ≤ c) : hpick lt xs m c = m := by unfold hpick; rw [if_neg (by omega)]
theorem hleast_lt (lt : V → V → Bool) (xs : HL K V) (i : Nat) (h : i < xs.length) : hleast lt xs i < xs.length ∧ (hleast lt xs i = i ∨ i < hleast lt xs i) := by
  unfold hleast
  refine ⟨hpick_lt _ _ _ _ (hpick_lt _ _ _ _ h), ?_⟩
  unfold hpick
  split <;> (try split) <;> omega
theorem hdown_len (lt : V → V → Bool) : ∀ (n : Nat) (xs : HL K V) (i : Nat), (hdown lt n xs i).length = xs.length
  | 0, _, _ => rfl
  | n + 1, xs, i => by
    unfold hdown
    split
    · rfl
    · rw [hdown_len lt n, hswap_len]
end
set_option maxRecDepth 100000 in
set_option maxHeartbeats 8000000 in
theorem downW (hb ab r cap i : Nat) (xs : HL Int Mark) (w : World) (h : HeapAtW w hb ab (.slice (some ⟨r, 0, none⟩) xs.length cap) xs) (hi : i < xs.length) :
    Calls Tryz.prog 172 #[.pointer (some ⟨hb, 0, none⟩), .int .i64 (i : Int)] w fun e w' => e = .returned (.tuple #[]) ∧ HeapAtW w' hb ab (.slice (some ⟨r, 0, none⟩) xs.length cap) (hdown Mark.lt xs.length xs i) ∧ Only (fun p => p = r ∨ p = ab) w w' := by
  have st : ∃ ys j n, (i : Int) = (j : Nat) ∧ ys.length - j ≤ n ∧ j < ys.length ∧ ys.length = xs.length ∧ hdown Mark.lt n ys j = hdown Mark.lt xs.length xs i ∧ HeapAtW w hb ab (.slice (some ⟨r, 0, none⟩) xs.length cap) ys := ⟨xs, i, xs.length, rfl, by omega, hi, rfl, rfl, h⟩
  have hle := h.le
  obtain ⟨R, hR⟩ : ∃ R, R = hdown Mark.lt xs.length xs i := ⟨_, rfl⟩
  obtain ⟨N, hN⟩ : ∃ N, N = xs.length := ⟨_, rfl⟩
  rw [← hR, ← hN] at st
  rw [← hN] at hR
  rw [← hN, ← hR]
  rw [← hN] at hi hle
  have ST := Lib.hid st
  clear h hN hR st
  go_enter Tryz.func172, Tryz.ntmps172
  go_wp2_with (fail)
  go_loopw [1] (fun iv wr => ∃ ys j n, iv = .int .i64 (j : Nat) ∧ ys.length - j ≤ n ∧ j < ys.length ∧ ys.length = N ∧ hdown Mark.lt n ys j = R ∧ HeapAtW wr hb ab (.slice (some ⟨r, 0, none⟩) N cap) ys ∧ Only (fun p => p = r ∨ p = ab) w wr) (fun iv _ => N - (intOf iv).toNat)
  case atStart =>
    obtain ⟨ys, j, n, h1, h2, h3, h4, h5, h6⟩ := ST.out
    exact ⟨ys, j, n, by rw [h1], h2, h3, h4, h5, h6, Only.refl w⟩
  case round =>
    obtain ⟨ys, j, n, rfl, h2, h3, h4, h5, h6, h7⟩ := hrel
    have H4 := Lib.hid h4
    have H5 := Lib.hid h5
    have H6 := Lib.hid h6
    have H7 := Lib.hid h7
    have H2 := Lib.hid h2
    have hjN : j < N := by omega
    obtain ⟨wo, hwo⟩ : ∃ x, x = wr := ⟨_, rfl⟩
    clear h2 h3 h4 h5 h6 h7
    go_wp2_with (fail)
    go_loopw [4, 5] (fun lv cv wi => ∃ c m, cv = .int .i64 ((2 * j + 1 + c : Nat) : Int) ∧ c ≤ 2 ∧ lv = .int .i64 (m : Nat) ∧ m < N ∧ (∀ k, k = c → m = (if k = 0 then j else if k = 1 then hpick Mark.lt ys j (2 * j + 1) else hleast Mark.lt ys j)) ∧ HeapAtW wi hb ab (.slice (some ⟨r, 0, none⟩) N cap) ys ∧ Only (fun p => p = r ∨ p = ab) w wi) (fun _ cv _ => 2 * j + 3 - (intOf cv).toNat)
    case atStart => exact ⟨0, j, by simp, by omega, rfl, hjN, fun k hk => by subst hk; rfl, H6.out, H7.out⟩
    case round =>
      obtain ⟨c, m, rfl, hc, rfl, hm, hmk, h6, h7⟩ := hrel
      have H6 := Lib.hid h6
      have H7 := Lib.hid h7
      have hd0 : wr.cell? ⟨hb, 0, none⟩ = some (.func (.func 157) #[] #[]) := h6.head.cell 0
      have hd1 : wr.cell? ⟨hb, 1, none⟩ = some (.slice (some ⟨r, 0, none⟩) N cap) := h6.head.cell 1
      obtain ⟨q, hq⟩ : ∃ q, q = 2 * j + 1 + c := ⟨_, rfl⟩
      rw [← hq]
      have hN4 := H4.out
      by_cases hin : c < 2 ∧ q < N
      · obtain ⟨hc2, hqN⟩ := hin
        obtain ⟨⟨kq, mq⟩, hxq⟩ : ∃ x, ys[q]? = some x := ⟨_, hget_pair (by omega)⟩
        obtain ⟨⟨km, mm⟩, hxm⟩ : ∃ x, ys[m]? = some x := ⟨_, hget_pair (by omega)⟩
        have hvq : hval ys q = mq := by rw [hval_get, hxq]; rfl
        have hvm : hval ys m = mm := by rw [hval_get, hxm]; rfl
        have hrow := h6.row
        rw [← hN4] at hrow
        obtain ⟨q1, _⟩ := row_cell ivW_len hrow hxq (q := 1) (by omega)
        obtain ⟨q2, _⟩ := row_cell ivW_len hrow hxq (q := 2) (by omega)
        obtain ⟨q3, _⟩ := row_cell ivW_len hrow hxq (q := 3) (by omega)
        obtain ⟨m1, _⟩ := row_cell ivW_len hrow hxm (q := 1) (by omega)
        obtain ⟨m2, _⟩ := row_cell ivW_len hrow hxm (q := 2) (by omega)
        obtain ⟨m3, _⟩ := row_cell ivW_len hrow hxm (q := 3) (by omega)
        simp only [ivW, Mark.vals, List.getElem?_cons_zero, List.getElem?_cons_succ] at q1 q2 q3 m1 m2 m3
        have hless := fun W => wless_any mq mm W (h6.ok _ (List.mem_of_getElem? hxq)).v (h6.ok _ (List.mem_of_getElem? hxm)).v
        simp only [Mark.vals] at hless
        have hnext : ∀ k, k = c + 1 → (if Mark.lt mq mm = true then q else m) = (if k = 0 then j else if k = 1 then hpick Mark.lt ys j (2 * j + 1) else hleast Mark.lt ys j) := by
          intro k hk
          subst hk
          have h1 := hmk c rfl
          have hp : (if Mark.lt mq mm = true then q else m) = hpick Mark.lt ys m q := by
            unfold hpick
            rw [hvq, hvm]
            by_cases hl : Mark.lt mq mm = true
            · rw [if_pos hl, if_pos ⟨by omega, hl⟩]
            · rw [if_neg hl, if_neg (fun h => hl h.2)]
          rw [hp]
          have : c = 0 ∨ c = 1 := by omega
          rcases this with rfl | rfl
          · simp at h1
            rw [h1, hq]; rfl
          · simp at h1
            rw [h1, hq]; rfl
        obtain ⟨L, hL⟩ : ∃ L, L = Mark.lt mq mm := ⟨_, rfl⟩
        rw [← hL] at hless hnext
        have HL := Lib.hid hless
        have HNX := Lib.hid hnext
        have HQ := Lib.hid hq
        have hq1 : (q : Int) ≤ 2 * (j : Int) + 2 := by omega
        have hqn : (q : Int) < (N : Int) := by omega
        have hmn : (m : Int) < (N : Int) := by omega
        clear hxq hxm hvq hvm hrow hless hnext hL hmk hN4 h6 h7
        clear hq
        go_wp2_with (fail)
        go_still_tail 20, (by kernel_rfl)
        change wpList _ _ _ _ _ wr.drew
        have h62 := H6.out.drew
        have h72 := H7.out.drew
        generalize wr.drew = W2 at h62 h72 ⊢
        have H62 := Lib.hid h62
        have H72 := Lib.hid h72
        clear h62 h72 hd0 hd1 q1 q2 q3 m1 m2 m3
        cases L
        · go_wp2_with (go_at_call 157; refine (HL.out _).mono ?_; rintro e w3 ⟨rfl, hb3⟩)
          go_roundw
          case rel => exact ⟨c + 1, m, by rw [HQ.out]; go_num, by omega, rfl, hm, fun k hk => by have := HNX.out k hk; simpa using this, H62.out.below hb3, H72.out.below hb3⟩
          case measure => simp [intOf]; have := HQ.out; omega
        · go_wp2_with (go_at_call 157; refine (HL.out _).mono ?_; rintro e w3 ⟨rfl, hb3⟩)
          go_roundw
          case rel => exact ⟨c + 1, q, by rw [HQ.out]; go_num, by omega, rfl, hqN, fun k hk => by have := HNX.out k hk; simpa using this, H62.out.below hb3, H72.out.below hb3⟩
          case measure => simp [intOf]; have := HQ.out; omega
      · have hml : m = hleast Mark.lt ys j := by
          have h1 := hmk c rfl
          by_cases hc2 : c = 2
          · subst hc2; simpa using h1
          · have hqN : N ≤ q := by omega
            have : c = 0 ∨ c = 1 := by omega
            rcases this with rfl | rfl
            · simp at h1
              unfold hleast
              rw [hpick_out _ _ _ _ (by omega), hpick_out _ _ _ _ (by omega), h1]
            · simp at h1
              unfold hleast
              rw [hpick_out _ _ _ (2 * j + 2) (by omega), h1]
        have hstop : (m : Int) = (j : Int) → hdown Mark.lt n ys j = ys := fun e => by
          have e2 : hleast Mark.lt ys j = j := by omega
          cases n with
          | zero => rfl
          | succ n => unfold hdown; rw [if_pos e2]
        have hgo : m ≠ j → ys.length - m ≤ n - 1 ∧ hdown Mark.lt (n - 1) (hswap ys j m) m = hdown Mark.lt n ys j ∧ j < m := fun e => by
          have h2 := H2.out
          obtain ⟨_, h3⟩ := hleast_lt Mark.lt ys j (by omega)
          obtain ⟨n', rfl⟩ : ∃ n', n = n' + 1 := ⟨n - 1, by omega⟩
          refine ⟨by omega, ?_, by omega⟩
          conv => rhs; unfold hdown
          rw [if_neg (by omega), ← hml]; rfl
        have hsw := swapW hb ab r cap j m ys
        rw [hN4] at hsw
        have HSW := Lib.hid hsw
        have HST := Lib.hid hstop
        have HGO := Lib.hid hgo
        have HIN := Lib.hid hin
        have HQ := Lib.hid hq
        have htest : decide ((q : Int) ≤ 2 * (j : Int) + 2) = false ∨ ((q : Int) ≤ 2 * (j : Int) + 2 ∧ decide ((q : Int) < (N : Int)) = false ∧ decide (q < N) = false) := by
          by_cases hc2 : c = 2
          · left; simp; omega
          · right; refine ⟨by omega, by simp; omega, by simp; omega⟩
        clear hml hmk hstop hgo hin hq hsw hN4 h6 h7
        by_cases he : m = j
        · subst he
          have ee : ((m : Int) == (m : Int)) = true := by simp
          rcases htest with ht | ⟨ht, ht2, ht3⟩ <;>
          · go_wp2_with (fail)
            have e := HST.out (by first | rfl | trivial)
            rw [H5.out] at e
            first
              | (go_ret; rw [e]; exact ⟨rfl, H6.out, H7.out⟩)
              | (exact bodyPost_ret (results_none rfl _ _ _) rfl (by rw [e]; exact ⟨rfl, H6.out, H7.out⟩))
              | (go_end0; rw [e]; exact ⟨rfl, H6.out, H7.out⟩)
        · have ee : ((m : Int) == (j : Int)) = false := by simp; omega
          have ee2 : ((j : Int) == (m : Int)) = false := by simp; omega
          rcases htest with ht | ⟨ht, ht2, ht3⟩ <;>
          · go_wp2_with (go_at_call 158; refine (HSW.out _ H6.out hjN hm (fun e => he e.symm)).mono ?_; rintro e w4 ⟨rfl, h64, h74⟩; have H64 := Lib.hid h64; have H74 := Lib.hid (H7.out.trans h74 (fun _ _ h => h)); clear h64 h74)
            have hr : ∃ ys' j' n', Value.int .i64 (m : Int) = .int .i64 ((j' : Nat) : Int) ∧ List.length ys' - j' ≤ n' ∧ j' < List.length ys' ∧ List.length ys' = N ∧ hdown Mark.lt n' ys' j' = R ∧ HeapAtW w4 hb ab (.slice (some ⟨r, 0, none⟩) N cap) ys' ∧ Only (fun p => p = r ∨ p = ab) w w4 :=
              ⟨hswap ys j m, m, n - 1, rfl, by rw [hswap_len]; exact (HGO.out he).1, by rw [hswap_len, H4.out]; exact hm, by rw [hswap_len]; exact H4.out, by rw [(HGO.out he).2.1]; exact H5.out, H64.out, H74.out⟩
            have hms : N - (intOf (Value.int .i64 (m : Int))).toNat < N - (intOf (Value.int .i64 (j : Int))).toNat := by
              have := (HGO.out he).2.2
              simp [intOf]
              omega
            first
              | exact ⟨hr, hms⟩
              | (go_roundw
                 case rel => exact hr
                 case measure => exact hms)
              | (go_frame
                 exact ⟨hr, hms⟩)
set_option maxHeartbeats 4000000 in
theorem fixW (hb ab r cap i : Nat) (xs : HL Int Mark) (w : World) (h : HeapAtW w hb ab (.slice (some ⟨r, 0, none⟩) xs.length cap) xs) (hi : i < xs.length) :
    Calls Tryz.prog 159 #[.pointer (some ⟨hb, 0, none⟩), .int .i64 (i : Int)] w fun e w' => e = .returned (.tuple #[]) ∧ HeapAtW w' hb ab (.slice (some ⟨r, 0, none⟩) xs.length cap) (hfix Mark.lt xs i) ∧ Only (fun p => p = r ∨ p = ab) w w' := by
  have hup' := upW hb ab r cap i xs w h hi
  obtain ⟨hl1, hl2⟩ := hup_len Mark.lt i xs i hi
  obtain ⟨F, hF⟩ : ∃ F, F = hfix Mark.lt xs i := ⟨_, rfl⟩
  rw [← hF]
  unfold hfix at hF
  obtain ⟨U, hU⟩ : ∃ U, U = hup Mark.lt i xs i := ⟨_, rfl⟩
  rw [← hU] at hup' hF hl1 hl2
  have hle := h.le
  clear hU h
  by_cases e : U.2 = i
  · rw [if_pos e] at hF
    have eb : (U.2 != i) = false := by simp [e]
    rw [eb] at hup'
    have hdn : ∀ W, HeapAtW W hb ab (.slice (some ⟨r, 0, none⟩) xs.length cap) U.1 → Calls Tryz.prog 172 #[.pointer (some ⟨hb, 0, none⟩), .int .i64 (i : Int)] W fun e w' => e = .returned (.tuple #[]) ∧ HeapAtW w' hb ab (.slice (some ⟨r, 0, none⟩) xs.length cap) (hdown Mark.lt xs.length U.1 i) ∧ Only (fun p => p = r ∨ p = ab) W w' := fun W hW => by
      have := downW hb ab r cap i U.1 W (by rw [hl1]; exact hW) (by omega)
      rw [hl1] at this
      exact this
    have HD := Lib.hid hdn
    have HF := Lib.hid hF
    clear hdn e eb hF hl1
    go_enter Tryz.func159, Tryz.ntmps159
    go_wp2_with (first
      | (go_at_call 171; refine hup'.mono ?_; rintro e w1 ⟨rfl, h1, o1⟩; have H1 := Lib.hid h1; have O1 := Lib.hid o1; clear h1 o1)
      | (go_at_call 172; refine (HD.out _ H1.out).mono ?_; rintro e w2 ⟨rfl, h2, o2⟩; have H2 := Lib.hid h2; have O2 := Lib.hid (O1.out.trans o2 (fun _ _ h => h)); clear h2 o2))
    go_end0
    exact ⟨rfl, by rw [HF.out]; exact H2.out, O2.out⟩
  · rw [if_neg e] at hF
    have eb : (U.2 != i) = true := by simpa using e
    rw [eb] at hup'
    have HF := Lib.hid hF
    clear e eb hF hl1
    go_enter Tryz.func159, Tryz.ntmps159
    go_wp2_with (go_at_call 171; refine hup'.mono ?_; rintro e w1 ⟨rfl, h1, o1⟩; have H1 := Lib.hid h1; have O1 := Lib.hid o1; clear h1 o1)
    go_end0
    exact ⟨rfl, by rw [HF.out]; exact H1.out, O1.out⟩
end Go.Proofs.YtjmdgicdpggljaaGreat.GH

/- Proved: what heap.Heap's Set leaves. -/
namespace Go.Proofs.YtjmdgicdpggljaaGreat.GH
open Go.RowKit Go.Proofs.YtjmdgicdpggljaaGreat.Histo Go.Proofs.YtjmdgicdpggljaaGreat.Event
set_option linter.unusedVariables false
open Go.Proofs.YtjmdgicdpggljaaGreat.MapG (Codec Mk)
open Go.Proofs.YtjmdgicdpggljaaGreat.MapI (W64)

theorem info_itemW : (Tryz.prog.info? 233).map (fun i => (i.zero, i.size, i.bytes)) = some (some (.agg #[.int .i64 0, .int .u64 0, .int .u64 0, .int .i64 0]), 4, 32) := by kernel_rfl
section
variable {K V : Type} [DecidableEq K] [Inhabited K] [Inhabited V]
theorem hfix_len (lt : V → V → Bool) (xs : HL K V) (i : Nat) (h : i < xs.length) : (hfix lt xs i).length = xs.length := by
  unfold hfix
  have := (hup_len lt i xs i h).1
  split
  · rw [hdown_len, this]
  · exact this
theorem idx_set {l : MapG.AL K} {xs : HL K V} (h : Idx l xs) (hn : (xs.map (·.1)).Nodup) {i : Nat} (hi : i < xs.length) (v : V) : Idx l (xs.set i (hkey xs i, v)) ∧ ((xs.set i (hkey xs i, v)).map (·.1)).Nodup := by
  have e : (xs.set i (hkey xs i, v)).map (·.1) = xs.map (·.1) := by
    rw [List.map_set]
    apply List.ext_getElem?
    intro m
    rw [List.getElem?_set]
    by_cases he : i = m
    · subst he
      rw [if_pos rfl, if_pos (by rw [List.length_map]; exact hi), List.getElem?_map, hget_pair hi]; rfl
    · rw [if_neg he]
  refine ⟨fun k => ?_, by rw [e]; exact hn⟩
  rw [h k]
  congr 1
  have : ∀ ys : HL K V, hidx ys k = (ys.map (·.1)).findIdx? (fun q => q == k) := fun ys => by
    unfold hidx; rw [List.findIdx?_map]; rfl
  rw [this, this, e]
theorem idx_app {C : Codec K} {l : MapG.AL K} {xs : HL K V} (h : Idx l xs) (hn : (xs.map (·.1)).Nodup) {k : K} (hk : hidx xs k = none) (v : V) : Idx (MapG.put C l k (.int .i64 (xs.length : Int))) (xs ++ [(k, v)]) ∧ ((xs ++ [(k, v)]).map (·.1)).Nodup := by
  have hn2 : ((xs ++ [(k, v)]).map (·.1)).Nodup := by
    rw [List.map_append, List.nodup_append]
    refine ⟨hn, by simp, fun a ha b hb => ?_⟩
    obtain ⟨p, hp, rfl⟩ := List.mem_map.1 ha
    simp at hb
    subst hb
    exact (hidx_none.1 hk) p hp
  refine ⟨fun q => ?_, hn2⟩
  rw [MapG.get_put]
  by_cases e : q = k
  · subst e
    rw [if_pos rfl, (hidx_some hn2 (i := xs.length)).2 ⟨by simp, by rw [hkey_get, List.getElem?_append_right (Nat.le_refl _)]; simp⟩]; rfl
  · rw [if_neg e, h q]
    congr 1
    cases h3 : hidx xs q with
    | none =>
      symm
      rw [hidx_none] at h3 ⊢
      intro p hp
      rcases List.mem_append.1 hp with hp | hp
      · exact h3 p hp
      · simp at hp; rw [hp]; exact fun h => e h.symm
    | some n =>
      symm
      obtain ⟨a, b⟩ := (hidx_some hn).1 h3
      refine (hidx_some hn2).2 ⟨by simp; omega, ?_⟩
      rw [hkey_get, List.getElem?_append_left a, ← hkey_get, b]
end
/-- What Set and Drop leave: the same struct and map, the row where it was or in a new block. -/
def HeapToW (w : World) (hb ab : Nat) (v : Value) (ys : HL Int Mark) (w' : World) : Prop :=
  ∃ v', HeapAtW w' hb ab v' ys ∧ (v'.ownBlock = v.ownBlock ∨ ∃ p, v'.ownBlock = some p ∧ w.heap.size ≤ p) ∧ Only (fun p => p = hb ∨ p = ab ∨ v.ownBlock = some p) w w'
theorem set_same {l : List Value} {n : Nat} {v : Value} (h : l[n]? = some v) : l.set n v = l := by
  apply List.ext_getElem?
  intro m
  rw [List.getElem?_set]
  by_cases e : n = m
  · subst e
    rw [if_pos rfl, if_pos (List.getElem?_eq_some_iff.1 h).1, h]
  · rw [if_neg e]
theorem row_value {w : World} {r cap : Nat} {xs : HL Int Mark} (h : w.ownsRow 0 233 4 (.slice (some ⟨r, 0, none⟩) xs.length cap) xs.length (xs.flatMap ivW)) {i : Nat} (hi : i < xs.length) (m : Mark) :
    (setCells w r (i * 4 + 1) m.vals).ownsRow 0 233 4 (.slice (some ⟨r, 0, none⟩) (xs.set i (hkey xs i, m)).length cap) (xs.set i (hkey xs i, m)).length ((xs.set i (hkey xs i, m)).flatMap ivW) := by
  have h1 := raw_sets m.vals h (i * 4 + 1)
  have h2 : setAll (xs.flatMap ivW) (i * 4 + 1) m.vals = (xs.set i (hkey xs i, m)).flatMap ivW := by
    rw [← setAll_flat ivW_len (hkey xs i, m) xs i hi]
    show _ = setAll ((xs.flatMap ivW).set (4 * i) _) (4 * i + 1) m.vals
    rw [set_same (by
      have := flat_get (z := 4) ivW_len (r := 0) (by omega) xs i
      rw [hget_pair hi] at this
      exact this), Nat.mul_comm]
  rw [h2] at h1
  rw [List.length_set]
  exact h1
theorem row_slice {w : World} {e : TypeId} {z n : Nat} {v : Value} {raw : List Value} (h : w.ownsRow 0 e z v n raw) (hn : 0 < n) : ∃ r cap, v = .slice (some ⟨r, 0, none⟩) n cap ∧ n ≤ cap := by
  rcases h.2 with ⟨_, h⟩ | ⟨g, cap, cur, h, _, _, hc, _⟩
  · omega
  · exact ⟨g, cap, h, hc⟩
set_option maxRecDepth 100000 in
set_option maxHeartbeats 8000000 in
theorem setW_in (hb ab r cap : Nat) (xs : HL Int Mark) (k : Int) (i : Nat) (m : Mark) (w : World) (h : HeapAtW w hb ab (.slice (some ⟨r, 0, none⟩) xs.length cap) xs) (hk : W64 k) (hm : m.Ok) (hi : hidx xs k = some i) :
    Calls Tryz.prog 142 #[.pointer (some ⟨hb, 0, none⟩), .int .i64 k, .agg m.vals.toArray] w fun e w' => e = .returned (.tuple #[]) ∧ HeapAtW w' hb ab (.slice (some ⟨r, 0, none⟩) xs.length cap) (hset Mark.lt xs k m) ∧ Only (fun p => p = r ∨ p = ab) w w' := by
  obtain ⟨hil, hkey_i⟩ := (hidx_some h.nodup).1 hi
  have eset : hset Mark.lt xs k m = hfix Mark.lt (xs.set i (hkey xs i, m)) i := by unfold hset; rw [hi]
  obtain ⟨cur, hcur⟩ := ownsRow_blk h.row
  have hne : hb ≠ r := ne_of_types h.head hcur (by decide)
  obtain ⟨l, hm1, hidx1⟩ := h.map
  have hnr : ab ≠ r := fun e => ne_of_map hcur hm1 e.symm
  have hlk : ∀ W, Mk kW Tryz.prog 3 W ab l → (Instr.lookup 229 (.map (some ab)) (.int .i64 k) true).run Tryz.prog W = .ok (.tuple #[.int .i64 (i : Int), .bool true]) W := fun W hW => by
    have := hW.look_ok keyedW kvW Tryz.underlying229 (zero_intW W) (x := k) hk
    rw [hidx1, hi] at this
    exact this
  have hlw : ∀ o, (Instr.lookup 229 (.map (some ab)) (.int .i64 k) true).run Tryz.prog (w.alloc o) = .ok (.tuple #[.int .i64 (i : Int), .bool true]) (w.alloc o) := fun o => hlk _ (hm1.alloc o)
  have hx := hget_pair hil
  have e1 := row_cell ivW_len h.row hx (q := 1) (by omega)
  have e2 := row_cell ivW_len h.row hx (q := 2) (by omega)
  have e3 := row_cell ivW_len h.row hx (q := 3) (by omega)
  simp only [ivW, Mark.vals, List.getElem?_cons_zero, List.getElem?_cons_succ] at e1 e2 e3
  obtain ⟨c1, f1⟩ := e1
  obtain ⟨c2, f2⟩ := e2
  obtain ⟨c3, f3⟩ := e3
  have hd1 : w.cell? ⟨hb, 1, none⟩ = some (.slice (some ⟨r, 0, none⟩) xs.length cap) := h.head.cell 1
  have hd2 : w.cell? ⟨hb, 2, none⟩ = some (.map (some ab)) := h.head.cell 2
  have hbl := h.head.lt
  have hrl := hcur.lt
  have hal := hm1.lt
  obtain ⟨idx2, nod2⟩ := idx_set hidx1 h.nodup hil m
  have hok : ∀ p ∈ xs.set i (hkey xs i, m), EntW p := fun p hp => by
    rcases mem_set hp with rfl | hp
    · exact ⟨by rw [hkey_i]; exact hk, hm⟩
    · exact h.ok p hp
  have hfin : ∀ W, (∀ b, b < w.heap.size → W.heap[b]? = w.heap[b]?) → HeapAtW (setCells W r (i * 4 + 1) m.vals) hb ab (.slice (some ⟨r, 0, none⟩) xs.length cap) (xs.set i (hkey xs i, m)) := fun W hW => by
    have hh := h.same (hW hb hbl) (hW ab hal) (fun q hq => by simp [Value.ownBlock] at hq; subst hq; exact hW r hrl)
    have hrow := row_value hh.row hil m
    rw [List.length_set] at hrow
    refine ⟨(heap_sets _ hne _).trans hh.head, by rw [List.length_set]; exact hrow, ⟨l, ?_, idx2⟩, nod2, hok, by rw [List.length_set]; exact h.le⟩
    exact (hm1.same (hW ab hal)).same (heap_sets _ hnr _)
  have hfix : ∀ W, HeapAtW W hb ab (.slice (some ⟨r, 0, none⟩) xs.length cap) (xs.set i (hkey xs i, m)) → Calls Tryz.prog 159 #[.pointer (some ⟨hb, 0, none⟩), .int .i64 (i : Int)] W fun e w' => e = .returned (.tuple #[]) ∧ HeapAtW w' hb ab (.slice (some ⟨r, 0, none⟩) xs.length cap) (hset Mark.lt xs k m) ∧ Only (fun p => p = r ∨ p = ab) W w' := fun W hW => by
    have := fixW hb ab r cap i (xs.set i (hkey xs i, m)) W (by rw [List.length_set]; exact hW) (by rw [List.length_set]; exact hil)
    rw [List.length_set, ← eset] at this
    exact this
  have HFIX := Lib.hid hfix
  have HFIN := Lib.hid hfin
  have hle := h.le
  obtain ⟨N, hN⟩ : ∃ N, N = xs.length := ⟨_, rfl⟩
  obtain ⟨old, hold⟩ : ∃ o, o = hval xs i := ⟨_, rfl⟩
  rw [← hold] at c1 c2 c3
  rw [← hN] at hd1 hil HFIN HFIX hle
  rw [← hN]
  obtain ⟨mn, md, mi⟩ := m
  have hiN : (i : Int) < (N : Int) := by omega
  obtain ⟨Y, hY⟩ : ∃ Y, Y = hset Mark.lt xs k ⟨mn, md, mi⟩ := ⟨_, rfl⟩
  rw [← hY] at HFIX ⊢
  simp only [Mark.vals] at HFIN ⊢
  clear h hcur hm1 hidx1 hlk hx idx2 nod2 hok hfin hfix hi hkey_i eset hN hold hm hY hal
  go_enter Tryz.func142, Tryz.ntmps142
  go_wp2_with (fail)
  have hb1 : Below w.heap.size w (w.alloc (.cells #[.int .u64 (mn : Int), .int .u64 (md : Int), .int .i64 mi] 200)) := (Below.refl _ _).alloc (Nat.le_refl _) _
  have hg := Blk.new w 200 #[.int .u64 (mn : Int), .int .u64 (md : Int), .int .i64 mi]
  generalize w.alloc (.cells #[.int .u64 (mn : Int), .int .u64 (md : Int), .int .i64 mi] 200) = w1 at hb1 hg ⊢
  have g1 := (hb1.cell (p := ⟨r, i * 4 + 1, none⟩) hrl).trans c1
  have g2 := (hb1.cell (p := ⟨r, i * 4 + 2, none⟩) hrl).trans c2
  have g3 := (hb1.cell (p := ⟨r, i * 4 + 3, none⟩) hrl).trans c3
  have k1 := (hb1.frozen (p := ⟨r, i * 4 + 1, none⟩) hrl).trans f1
  have k2 := (hb1.frozen (p := ⟨r, i * 4 + 2, none⟩) hrl).trans f2
  have k3 := (hb1.frozen (p := ⟨r, i * 4 + 3, none⟩) hrl).trans f3
  have hd1' := (hb1.cell (p := ⟨hb, 1, none⟩) hbl).trans hd1
  have hne2 : r ≠ w.heap.size := by omega
  have hne3 : hb ≠ w.heap.size := by omega
  generalize w.heap.size = gx at hg hne2 hne3 ⊢
  have x0 : w1.cell? ⟨gx, 0, none⟩ = some (.int .u64 (mn : Int)) := hg.cell 0
  have x1 : w1.cell? ⟨gx, 1, none⟩ = some (.int .u64 (md : Int)) := hg.cell 1
  have x2 : w1.cell? ⟨gx, 2, none⟩ = some (.int .i64 mi) := hg.cell 2
  have hf := HFIN.out w1.drew (fun b hb' => hb1.block b hb')
  have ho : Only (fun p => p = r ∨ p = ab) w (setCells w1.drew r (i * 4 + 1) [.int .u64 (mn : Int), .int .u64 (md : Int), .int .i64 mi]) := only_sets _ (((Only.refl w).below hb1).drew) (fun _ => .inl rfl) _
  have HF := Lib.hid hf
  have HO := Lib.hid ho
  clear c1 c2 c3 f1 f2 f3 hd1 hd2 hb1 hg hlw hf ho hk
  go_region
  go_wp2_with (go_at_call 159; refine (HFIX.out _ HF.out).mono ?_; rintro e w2 ⟨rfl, h2, o2⟩; have H2 := Lib.hid h2; have O2 := Lib.hid (HO.out.trans o2 (fun _ _ h => h)); clear h2 o2)
  go_end0
  exact ⟨rfl, H2.out, O2.out⟩
end Go.Proofs.YtjmdgicdpggljaaGreat.GH

/- Proved: what heap.Heap's Set leaves where the key is a new one. -/
namespace Go.Proofs.YtjmdgicdpggljaaGreat.GH
open Go.RowKit Go.Proofs.YtjmdgicdpggljaaGreat.Histo Go.Proofs.YtjmdgicdpggljaaGreat.Event
set_option linter.unusedVariables false
open Go.Proofs.YtjmdgicdpggljaaGreat.MapG (Codec Mk)
open Go.Proofs.YtjmdgicdpggljaaGreat.MapI (W64)

def zeroMark : Mark := ⟨0, 0, 0⟩
theorem set_last {xs : HL Int Mark} {k : Int} {m z : Mark} : (xs ++ [(k, z)]).set xs.length (hkey (xs ++ [(k, z)]) xs.length, m) = xs ++ [(k, m)] := by
  have : hkey (xs ++ [(k, z)]) xs.length = k := by rw [hkey_get, List.getElem?_append_right (Nat.le_refl _)]; simp
  rw [this, List.set_append_right _ _ (Nat.le_refl _)]
  simp
theorem own_ne {w : World} {e : TypeId} {z n : Nat} {v : Value} {raw : List Value} {b : Nat} {t : TypeId} {c : Array Value} (h : w.ownsRow 0 e z v n raw) (hb : Blk w b t c) (hn : t ≠ e) : v.ownBlock ≠ some b := by
  intro hv
  obtain ⟨_, h2⟩ := h
  rcases h2 with ⟨h2, _⟩ | ⟨g, cap', cur, h2, h0, hg, _⟩
  · rw [h2] at hv; cases hv
  · rw [h2] at hv
    simp [Value.ownBlock] at hv
    subst hv
    exact ne_of_types hb hg hn rfl
theorem own_ne_map {w : World} {e : TypeId} {z n : Nat} {v : Value} {raw : List Value} {b : Nat} {k : TypeId} {l : MapG.AL Int} (h : w.ownsRow 0 e z v n raw) (hb : Mk kW Tryz.prog k w b l) : v.ownBlock ≠ some b := by
  intro hv
  obtain ⟨_, h2⟩ := h
  rcases h2 with ⟨h2, _⟩ | ⟨g, cap', cur, h2, h0, hg, _⟩
  · rw [h2] at hv; cases hv
  · rw [h2] at hv
    simp [Value.ownBlock] at hv
    subst hv
    exact ne_of_map hg hb rfl
set_option maxRecDepth 100000 in
set_option maxHeartbeats 8000000 in
theorem setW_new (hb ab : Nat) (v : Value) (xs : HL Int Mark) (k : Int) (m : Mark) (w : World) (h : HeapAtW w hb ab v xs) (hk : W64 k) (hm : m.Ok) (hi : hidx xs k = none) (hlt : xs.length < 1099511627776) :
    Calls Tryz.prog 142 #[.pointer (some ⟨hb, 0, none⟩), .int .i64 k, .agg m.vals.toArray] w fun e w' => e = .returned (.tuple #[]) ∧ HeapToW w hb ab v (hset Mark.lt xs k m) w' := by
  have eset : hset Mark.lt xs k m = hfix Mark.lt (xs ++ [(k, m)]) xs.length := by unfold hset; rw [hi]
  obtain ⟨l, hm1, hidx1⟩ := h.map
  have hlw : ∀ o, (Instr.lookup 229 (.map (some ab)) (.int .i64 k) true).run Tryz.prog (w.alloc o) = .ok (.tuple #[.int .i64 0, .bool false]) (w.alloc o) := fun o => by
    have := (hm1.alloc o).look_ok keyedW kvW Tryz.underlying229 (zero_intW _) (x := k) hk
    rw [hidx1, hi] at this
    exact this
  obtain ⟨idx2, nod2⟩ := idx_app (C := kW) hidx1 h.nodup hi m
  have hles := h.le
  have hll := hidx1.le (hm1.nodup keyedW)
  have hvb : v.ownBlock ≠ some hb := own_ne h.row h.head (by decide)
  have hva : v.ownBlock ≠ some ab := own_ne_map h.row hm1
  have hba : hb ≠ ab := ne_of_map h.head hm1
  have hbl := h.head.lt
  have hal := hm1.lt
  have hd1 : w.cell? ⟨hb, 1, none⟩ = some v := h.head.cell 1
  have hd2 : w.cell? ⟨hb, 2, none⟩ = some (.map (some ab)) := h.head.cell 2
  have hf1 := h.head.frozen 1
  have hlen : (Builtin.len_ #[228] 3 #[v]) = (Builtin.len_ #[228] 3 #[v]) := rfl
  obtain ⟨i0, hi0, hz0, hz1, hz2⟩ := info_parts info_itemW
  have H := Lib.hid h
  obtain ⟨N, hN⟩ : ∃ N, N = xs.length := ⟨_, rfl⟩
  rw [← hN] at hlt hll
  obtain ⟨a, cap, hv, hcapN⟩ : ∃ a cap, v = .slice a N cap ∧ N ≤ cap := by
    rcases h.row.2 with ⟨h1, h2⟩ | ⟨g, cap, cur, h1, _, _, hc, _⟩
    · exact ⟨none, 0, by rw [h1, hN, h2], by omega⟩
    · exact ⟨_, cap, by rw [h1, hN], by omega⟩
  obtain ⟨mn, md, mi⟩ := m
  simp only [Mark.vals]
  subst hv
  have hrow := h.row
  rw [← hN] at hrow
  have HR := Lib.hid hrow
  have HI0 := Lib.hid (And.intro hi0 (And.intro hz0 (And.intro hz1 hz2)))
  have HID := Lib.hid (And.intro idx2 nod2)
  have HN := Lib.hid hN
  have HM1 := Lib.hid hm1
  have ES := Lib.hid eset
  have HK := Lib.hid hk
  have HMM := Lib.hid hm
  clear h hm1 hidx1 idx2 nod2 hrow hi0 hz0 hz1 hz2 hN eset hlen hi hk hm
  go_enter Tryz.func142, Tryz.ntmps142
  go_wp2_with (at_builtin; refine wp_append _ rfl _ _ 228 rfl 233 i0 (.agg #[.int .i64 0, .int .u64 0, .int .u64 0, .int .i64 0]) 4 32 Tryz.underlying228 HI0.out.1 HI0.out.2.1 HI0.out.2.2.1 HI0.out.2.2.2 rfl (by decide) _ N (xs.flatMap ivW) rfl ((HR.out.alloc _).alloc _) ⟨w.heap.size + 1, 0, none⟩ 1 1 [.int .i64 k, .int .u64 0, .int .u64 0, .int .i64 0] rfl rfl ?c1 ?c2 ?c3 ?c4 (by omega) ?_)
  case c1 =>
    intro j u hj
    have := (Blk.new (w.alloc (.cells #[.int .u64 (mn : Int), .int .u64 (md : Int), .int .i64 mi] 200)) 233 #[.int .i64 k, .int .u64 0, .int .u64 0, .int .i64 0]).cell j
    simp only [World.size_alloc] at this
    rw [show (⟨w.heap.size + 1, 0, none⟩ : Addr).add j = ⟨w.heap.size + 1, j, none⟩ by unfold Addr.add; split <;> simp_all, this, ← hj, List.getElem?_toArray]
  case c2 => simp [Value.oneCell']
  case c3 => unfold maxLen; omega
  case c4 => omega
  intro v' w3 hown' hg3 hblk
  have hbx := (Blk.new w 200 #[.int .u64 (mn : Int), .int .u64 (md : Int), .int .i64 mi]).alloc (.cells #[.int .i64 k, .int .u64 0, .int .u64 0, .int .i64 0] 233)
  have hb2 : Below w.heap.size w ((w.alloc (.cells #[.int .u64 (mn : Int), .int .u64 (md : Int), .int .i64 mi] 200)).alloc (.cells #[.int .i64 k, .int .u64 0, .int .u64 0, .int .i64 0] 233)) := two_new _ _ _
  generalize (w.alloc (.cells #[.int .u64 (mn : Int), .int .u64 (md : Int), .int .i64 mi] 200)).alloc (.cells #[.int .i64 k, .int .u64 0, .int .u64 0, .int .i64 0] 233) = w2 at hbx hb2 hg3 ⊢
  have hs2 := hb2.size
  have hx : ∀ b, b < w.heap.size → some b ≠ (Value.slice a N cap).ownBlock → w3.heap[b]? = w.heap[b]? := fun b hb hn => (hg3.block b (by omega) hn).trans (hb2.block b hb)
  have hhead : Blk w3 hb 231 #[.func (.func 157) #[] #[], .slice a N cap, .map (some ab)] := (hx hb hbl (fun e => hvb e.symm)).trans H.out.head
  have hmk3 : Mk kW Tryz.prog 3 w3 ab l := HM1.out.same (hx ab hal (fun e => hva e.symm))
  have hvx : (Value.slice a N cap).ownBlock ≠ some w.heap.size := fun e => by have := (HR.out.lt _ e).2; omega
  have hbx3 : Blk w3 w.heap.size 200 #[.int .u64 (mn : Int), .int .u64 (md : Int), .int .i64 mi] := hbx.grown hg3 (fun e => hvx e.symm)
  have hcell1 : w3.cell? ⟨hb, 1, none⟩ = some (.slice a N cap) := hhead.cell 1
  have hcell2 : w3.cell? ⟨hb, 2, none⟩ = some (.map (some ab)) := hhead.cell 2
  have hfr1 := hhead.frozen 1
  have hrow3 : w3.ownsRow 0 233 4 v' (xs ++ [(k, zeroMark)]).length ((xs ++ [(k, zeroMark)]).flatMap ivW) := by
    rw [List.length_append, List.flatMap_append, ← HN.out]
    exact hown'
  have honly3 : Only (fun p => p = hb ∨ p = ab ∨ (Value.slice a N cap).ownBlock = some p) w w3 := ((Only.refl w).below hb2).grown hg3 (fun q _ e => .inr (.inr e))
  obtain ⟨r', cap', rfl, hcap'⟩ := row_slice hrow3 (by simp)
  have hr' : ∃ cur, Blk w3 r' 233 cur := ownsRow_blk hrow3
  obtain ⟨cur', hcur'⟩ := hr'
  have hr1 : r' ≠ hb := fun e => ne_of_types hhead hcur' (by decide) e.symm
  have hr2 : r' ≠ ab := fun e => ne_of_map hcur' hmk3 e
  have hbxl : w.heap.size ≠ r' := ne_of_types hbx3 hcur' (by decide)
  have hbxb : w.heap.size ≠ hb := by omega
  have hbxa : w.heap.size ≠ ab := by omega
  have HR3 := Lib.hid hrow3
  have HB3 := Lib.hid hhead
  have HM3 := Lib.hid hmk3
  have HX3 := Lib.hid hbx3
  have HO3 := Lib.hid honly3
  have HBK := Lib.hid hblk
  have hsz3 : w.heap.size ≤ w3.heap.size := honly3.size
  have hN1 : (xs ++ [(k, zeroMark)]).length = N + 1 := by rw [List.length_append, ← HN.out]; rfl
  rw [hN1] at HR3 HBK
  rw [hN1]
  rw [hN1] at hcap'
  clear hx hhead hmk3 hbx3 hrow3 honly3 hblk hcur' hown' hg3 hbx hb2 hs2 hvx hlw hd2 hf1 hd1 hvb hva
  go_wp2_with (at_mapUpdate; refine MapG.wp_store keyedW kvW _ rfl _ _ _ 229 rfl Tryz.underlying229 rfl (HM3.out.same (Below.heap_setCell _ _ _ _ (Ne.symm hba))) (by unfold maxLen; omega) k rfl HK.out (.int .i64 (N : Int)) rfl ?_; intro w5 hm5 hg5 _)
  have hB5 : Blk w5 hb 231 #[.func (.func 157) #[] #[], .slice (some ⟨r', 0, none⟩) (N + 1) cap', .map (some ab)] := (HB3.out.set_ 1 _).grown hg5 (by simp; exact hba)
  have hX5 : Blk w5 w.heap.size 200 #[.int .u64 (mn : Int), .int .u64 (md : Int), .int .i64 mi] := (HX3.out.far hbxb _).grown hg5 (by simp; exact hbxa)
  have hR5 : w5.ownsRow 0 233 4 (.slice (some ⟨r', 0, none⟩) (N + 1) cap') (N + 1) ((xs ++ [(k, zeroMark)]).flatMap ivW) :=
    (HR3.out.kept (only_at (only_refl w3 (some hb)) 1 _) (.inr (by simp [Value.ownBlock]; exact hr1))).kept hg5 (.inr (by simp [Value.ownBlock]; exact hr2))
  have hO5 : Only (fun p => p = hb ∨ p = ab ∨ (Value.slice a N cap).ownBlock = some p) w w5 := (HO3.out.setCell (fun _ => .inl rfl) 1 _).grown hg5 (fun q _ e => by cases e; exact .inr (.inl rfl))
  have hgetN : (xs ++ [(k, zeroMark)])[N]? = some (k, zeroMark) := by rw [HN.out, List.getElem?_append_right (Nat.le_refl _)]; simp
  have hR5' : w5.ownsRow 0 233 4 (.slice (some ⟨r', 0, none⟩) (xs ++ [(k, zeroMark)]).length cap') (xs ++ [(k, zeroMark)]).length ((xs ++ [(k, zeroMark)]).flatMap ivW) := by rw [hN1]; exact hR5
  have e1 := row_cell ivW_len hR5' hgetN (q := 1) (by omega)
  have e2 := row_cell ivW_len hR5' hgetN (q := 2) (by omega)
  have e3 := row_cell ivW_len hR5' hgetN (q := 3) (by omega)
  simp only [ivW, Mark.vals, zeroMark, List.getElem?_cons_zero, List.getElem?_cons_succ] at e1 e2 e3
  obtain ⟨c1, f1⟩ := e1
  obtain ⟨c2, f2⟩ := e2
  obtain ⟨c3, f3⟩ := e3
  have hrowV := row_value (w := w5.drew) (xs := xs ++ [(k, zeroMark)]) (r := r') (cap := cap') (ownsRow_drew hR5') (i := xs.length) (by rw [hN1, ← HN.out]; omega) ⟨mn, md, mi⟩
  rw [set_last, ← HN.out] at hrowV
  simp only [Mark.vals] at hrowV
  have hd1 : w5.cell? ⟨hb, 1, none⟩ = some (.slice (some ⟨r', 0, none⟩) (N + 1) cap') := hB5.cell 1
  have hN2 : (xs ++ [(k, (⟨mn, md, mi⟩ : Mark))]).length = N + 1 := by rw [List.length_append, ← HN.out]; rfl
  have hl2 : (xs ++ [(k, (⟨mn, md, mi⟩ : Mark))]).length ≤ 1099511627776 := by rw [hN2]; omega
  have hfin : HeapAtW (setCells w5.drew r' (N * 4 + 1) [.int .u64 (mn : Int), .int .u64 (md : Int), .int .i64 mi]) hb ab (.slice (some ⟨r', 0, none⟩) (xs ++ [(k, (⟨mn, md, mi⟩ : Mark))]).length cap') (xs ++ [(k, ⟨mn, md, mi⟩)]) := by
    refine ⟨(heap_sets _ hr1.symm _).trans (by rw [hN2]; exact hB5), hrowV, ⟨_, hm5.same ?_, ?_⟩, HID.out.2, fun p hp => ?_, hl2⟩
    · exact heap_sets _ hr2.symm _
    · have := HID.out.1
      rw [← HN.out] at this
      exact this
    · rcases List.mem_append.1 hp with hp | hp
      · exact H.out.ok p hp
      · simp at hp; subst hp; exact ⟨HK.out, HMM.out⟩
  have honly : Only (fun p => p = hb ∨ p = ab ∨ (Value.slice a N cap).ownBlock = some p) w (setCells w5.drew r' (N * 4 + 1) [.int .u64 (mn : Int), .int .u64 (md : Int), .int .i64 mi]) := only_sets _ hO5.drew (fun hlt2 => by
    rcases HBK.out with e | ⟨p, e, hp⟩
    · exact .inr (.inr e.symm)
    · simp [Value.ownBlock] at e; omega) _
  have hfix := fun W (hW : HeapAtW W hb ab (.slice (some ⟨r', 0, none⟩) (xs ++ [(k, (⟨mn, md, mi⟩ : Mark))]).length cap') (xs ++ [(k, ⟨mn, md, mi⟩)])) => fixW hb ab r' cap' N (xs ++ [(k, ⟨mn, md, mi⟩)]) W hW (by rw [hN2]; omega)
  rw [hN2] at hfin hfix
  obtain ⟨N1, hN3⟩ : ∃ N1, N1 = N + 1 := ⟨_, rfl⟩
  rw [← hN3] at hfin hfix hd1 ⊢
  have hNN : (N : Int) < (N1 : Int) := by omega
  have HF := Lib.hid hfin
  have HFIX := Lib.hid hfix
  have HO := Lib.hid honly
  have x0 : w5.cell? ⟨w.heap.size, 0, none⟩ = some (.int .u64 (mn : Int)) := hX5.cell 0
  have x1 : w5.cell? ⟨w.heap.size, 1, none⟩ = some (.int .u64 (md : Int)) := hX5.cell 1
  have x2 : w5.cell? ⟨w.heap.size, 2, none⟩ = some (.int .i64 mi) := hX5.cell 2
  clear hB5 hX5 hR5 hR5' hO5 hgetN hrowV hfin honly hfix hN1 hN2 hl2 hm5 hg5 hcap' hcapN hN3
  generalize w.heap.size = gx at x0 x1 x2 hbxl hbxb ⊢
  go_wp2_with (fail)
  have hend : ∀ w6, HeapAtW w6 hb ab (.slice (some ⟨r', 0, none⟩) N1 cap') (hfix Mark.lt (xs ++ [(k, (⟨mn, md, mi⟩ : Mark))]) N) → Only (fun p => p = r' ∨ p = ab) (setCells w5.drew r' (N * 4 + 1) [.int .u64 (mn : Int), .int .u64 (md : Int), .int .i64 mi]) w6 → HeapToW w hb ab (.slice a N cap) (hset Mark.lt xs k ⟨mn, md, mi⟩) w6 := fun w6 h6 o6 => by
    refine ⟨_, (by rw [ES.out, ← HN.out]; exact h6), ?_, HO.out.trans o6 (fun q hq hr => ?_)⟩
    · rcases HBK.out with e | ⟨p, e, hp⟩
      · exact .inl e
      · exact .inr ⟨p, e, by omega⟩
    · rcases hr with rfl | rfl
      · rcases HBK.out with e | ⟨p, e, hp⟩
        · exact .inr (.inr e.symm)
        · exfalso
          simp [Value.ownBlock] at e
          omega
      · exact .inr (.inl rfl)
  have HEND := Lib.hid hend
  clear hend
  go_region
  all_goals
    go_wp2_with (go_at_call 159; refine (HFIX.out _ HF.out).mono ?_; rintro e w6 ⟨rfl, h6, o6⟩; have H6 := Lib.hid (HEND.out _ h6 o6); clear h6 o6)
  all_goals
    go_end0
    exact ⟨rfl, H6.out⟩
end Go.Proofs.YtjmdgicdpggljaaGreat.GH
