/- Proved: what the law's own Of answers of the law's counts and the numbers that came last. -/
import Derived.Test.YtopbhdpfakjkjaaPolicy
namespace Go.Proofs.Ytopbhdpfakjkjaa.Policy
open Go.RowKit Go.Proofs.Ytopbhdpfakjkjaa.Histo Go.Proofs.Ytopbhdpfakjkjaa.Ring Go.Proofs.Ytopbhdpfakjkjaa.Cast

set_option maxHeartbeats 2000000 in
set_option maxRecDepth 100000 in
theorem lof_few (g : Nat) (v : Value) (s : S) (ts : List Int) (w : World) (hg : Blk w g 31 (mc s.bs s.o)) (ok : Ok s) (hr : Sl w v (last8 ts)) (h : s.a + s.o < 4) : Calls Try.prog 17 #[.pointer (some ⟨g, 0, none⟩), v] w (RetW wfix w) := by
  have hlg := hg.lt
  have a0 := ok.a0
  have o0 := ok.over
  have few := ok.few
  have hsum := ok.sum
  obtain ⟨a, ha⟩ : ∃ a, a = s.a := ⟨_, rfl⟩
  obtain ⟨o, ho⟩ : ∃ a, a = s.o := ⟨_, rfl⟩
  have CI : ∀ W : World, Below w.heap.size w W → ∀ n, Calls Try.prog 26 #[.pointer (some ⟨g, 0, none⟩)] (W.drewN n) (RetI a (W.drewN n)) := fun W hb n => by
    rw [ha, hsum]; exact min_any g s.bs s.o _ ((hg.below hb hlg).drewN n) ok.len (fun x hx => by have := ok.bd x hx; omega)
  have CO : ∀ W : World, Below w.heap.size w W → W.cell? ⟨g, 240, none⟩ = some (.int .i64 o) := fun W hb => by rw [ho, (hg.below hb hlg).cell, mc_over ok.len]
  rw [← ha, ← ho] at few
  rw [← ha] at a0
  rw [← ho] at o0
  have HA := Lib.hid ha
  have HO := Lib.hid ho
  have HCI := Lib.hid CI
  have HCO := Lib.hid CO
  have HOK := Lib.hid ok
  have HG := Lib.hid hg
  have HLG := Lib.hid hlg
  clear ha ho CI CO ok hg hlg hsum
  rw [← HA.out, ← HO.out] at h
  clear few hr
  have d1 : decide (4 ≤ a + o) = false := decide_eq_false (by omega)
  go_enter Try.func17, Try.ntmps17
  go_wp2
  generalize hW : w.alloc _ = W
  have hS : RS w w.heap.size W := by rw [← hW]; exact RS.start w
  obtain ⟨r, hr⟩ : ∃ r, r = w.heap.size := ⟨_, rfl⟩
  rw [← hr] at hS ⊢
  have HS := Lib.hid hS
  clear hW hr hS
  have co := HCO.out W HS.out.below
  have h12 : o ≤ 4096 := by omega
  have h13 : a ≤ 4096 := by omega
  go_quiet ((go_at_call 26; exact Calls.quiet_of (HCI.out W HS.out.below _)))
  generalize hg9 : W.drewN _ = W9
  have HS9 := Lib.hid (show RS w r W9 by rw [← hg9]; exact HS.out.drewN _)
  clear hg9
  obtain ⟨c0, c1, c2, f0, f1, f2⟩ := HS9.out.facts
  go_wp2
  exact bodyPost_ret (v := .agg #[.int .i64 0, .int .i64 0, .int .i64 10]) (by simp [results, Try.results17, go_sem, c0, c1, c2]) rfl (RetW.mk rfl (HS9.out.three _ _ _))

set_option maxHeartbeats 2000000 in
set_option maxRecDepth 100000 in
theorem lof_far (g : Nat) (v : Value) (s : S) (ts : List Int) (w : World) (hg : Blk w g 31 (mc s.bs s.o)) (ok : Ok s) (hr : Sl w v (last8 ts)) (h : 4 ≤ s.a + s.o) (h2 : s.a + s.o < 2 * s.o) : Calls Try.prog 17 #[.pointer (some ⟨g, 0, none⟩), v] w (RetW (wcast (nx (last8 ts))) w) := by
  have CN0 : ∀ W : World, Below w.heap.size w W → Calls Try.prog 21 #[v] W (RetI (nx (last8 ts)) W) := fun W hb => by
    have := mnext_any v (last8 ts) W (hr.below hb (Nat.le_refl _))
    rwa [last8_small (last8_len ts)] at this
  have hx := nx_bd (last8 ts) (last8_len ts)
  obtain ⟨x, hxe⟩ : ∃ x, x = nx (last8 ts) := ⟨_, rfl⟩
  rw [← hxe] at CN0 hx ⊢
  have HCN := Lib.hid CN0
  clear CN0 hr hxe
  have hlg := hg.lt
  have a0 := ok.a0
  have o0 := ok.over
  have few := ok.few
  have hsum := ok.sum
  obtain ⟨a, ha⟩ : ∃ a, a = s.a := ⟨_, rfl⟩
  obtain ⟨o, ho⟩ : ∃ a, a = s.o := ⟨_, rfl⟩
  have CI : ∀ W : World, Below w.heap.size w W → ∀ n, Calls Try.prog 26 #[.pointer (some ⟨g, 0, none⟩)] (W.drewN n) (RetI a (W.drewN n)) := fun W hb n => by
    rw [ha, hsum]; exact min_any g s.bs s.o _ ((hg.below hb hlg).drewN n) ok.len (fun x hx => by have := ok.bd x hx; omega)
  have CO : ∀ W : World, Below w.heap.size w W → W.cell? ⟨g, 240, none⟩ = some (.int .i64 o) := fun W hb => by rw [ho, (hg.below hb hlg).cell, mc_over ok.len]
  rw [← ha, ← ho] at few
  rw [← ha] at a0
  rw [← ho] at o0
  have HA := Lib.hid ha
  have HO := Lib.hid ho
  have HCI := Lib.hid CI
  have HCO := Lib.hid CO
  have HOK := Lib.hid ok
  have HG := Lib.hid hg
  have HLG := Lib.hid hlg
  clear ha ho CI CO ok hg hlg hsum
  rw [← HA.out, ← HO.out] at h h2
  have d1 : decide (4 ≤ a + o) = true := decide_eq_true (by omega)
  have hn4 : ¬ a + o < 4 := by omega
  obtain ⟨x0, x1⟩ := hx
  go_enter Try.func17, Try.ntmps17
  go_wp2
  generalize hW : w.alloc _ = W
  have hS : RS w w.heap.size W := by rw [← hW]; exact RS.start w
  obtain ⟨r, hr⟩ : ∃ r, r = w.heap.size := ⟨_, rfl⟩
  rw [← hr] at hS ⊢
  have HS := Lib.hid hS
  clear hW hr hS
  have co := HCO.out W HS.out.below
  have h12 : o ≤ 4096 := by omega
  have h13 : a ≤ 4096 := by omega
  go_quiet ((go_at_call 26; exact Calls.quiet_of (HCI.out W HS.out.below _)))
  go_wp2_with fail
  (try go_quiet (fail))
  go_wp2_with fail
  generalize hg4 : W.drewN _ = W4
  have HS4 := Lib.hid (show RS w r W4 by rw [← hg4]; exact HS.out.drewN _)
  clear hg4
  refine (HCN.out W4 HS4.out.below).mono ?_
  rintro e w' ⟨rfl, n4, rfl⟩
  generalize hg9 : W4.drewN _ = W9
  have HS9 := Lib.hid (show RS w r W9 by rw [← hg9]; exact HS4.out.drewN _)
  clear hg9
  obtain ⟨c0, c1, c2, f0, f1, f2⟩ := HS9.out.facts
  obtain ⟨p, hp⟩ : ∃ p, p = x * 85 / 100 := ⟨_, rfl⟩
  obtain ⟨q, hq⟩ : ∃ p, p = (x * 115 + 99) / 100 := ⟨_, rfl⟩
  have hp2 : x * 85 / 100 = p := hp.symm
  have hp3 : (x * 85).tdiv 100 = p := by rw [Int.tdiv_eq_ediv_of_nonneg (by omega), hp]
  have hq2 : (x * 115 + 99) / 100 = q := hq.symm
  have hq3 : (x * 115 + 99).tdiv 100 = q := by rw [Int.tdiv_eq_ediv_of_nonneg (by omega), hq]
  have hp0 : 0 ≤ p := by omega
  have hp1 : p ≤ 1099511627776 := by omega
  have hq0 : 0 ≤ q := by omega
  have hq1 : q ≤ 10995116277760 := by omega
  have hv : (wcast x).val = .agg #[.int .i64 2, .int .i64 p, .int .i64 (max q (p + 1))] := by unfold Win.val wcast; rw [hp, hq]
  have HV := Lib.hid hv
  clear hp hq hv
  by_cases hqp : q ≤ p
  · have em : max q (p + 1) = p + 1 := by omega
    have HV2 := Lib.hid (HV.out.trans (by rw [em]))
    clear em
    go_wp2
    exact bodyPost_ret (v := .agg #[.int .i64 2, .int .i64 p, .int .i64 (p + 1)]) (by simp [results, Try.results17, go_sem, c0, c1, c2]) rfl (RetW.mk HV2.out.symm (HS9.out.three _ _ _))
  · have em : max q (p + 1) = q := by omega
    have HV2 := Lib.hid (HV.out.trans (by rw [em]))
    clear em
    go_wp2
    exact bodyPost_ret (v := .agg #[.int .i64 2, .int .i64 p, .int .i64 q]) (by simp [results, Try.results17, go_sem, c0, c1, c2]) rfl (RetW.mk HV2.out.symm (HS9.out.three _ _ _))

set_option maxHeartbeats 2000000 in
set_option maxRecDepth 100000 in
theorem lof_flat (g : Nat) (v : Value) (s : S) (ts : List Int) (w : World) (hg : Blk w g 31 (mc s.bs s.o)) (ok : Ok s) (hr : Sl w v (last8 ts)) (h : 4 ≤ s.a + s.o) (h2 : ¬ s.a + s.o < 2 * s.o) (h3 : s.spread = false) : Calls Try.prog 17 #[.pointer (some ⟨g, 0, none⟩), v] w (RetW wfix w) := by
  clear hr
  have hlg := hg.lt
  have a0 := ok.a0
  have o0 := ok.over
  have few := ok.few
  have hsum := ok.sum
  obtain ⟨a, ha⟩ : ∃ a, a = s.a := ⟨_, rfl⟩
  obtain ⟨o, ho⟩ : ∃ a, a = s.o := ⟨_, rfl⟩
  have CI : ∀ W : World, Below w.heap.size w W → ∀ n, Calls Try.prog 26 #[.pointer (some ⟨g, 0, none⟩)] (W.drewN n) (RetI a (W.drewN n)) := fun W hb n => by
    rw [ha, hsum]; exact min_any g s.bs s.o _ ((hg.below hb hlg).drewN n) ok.len (fun x hx => by have := ok.bd x hx; omega)
  have CO : ∀ W : World, Below w.heap.size w W → W.cell? ⟨g, 240, none⟩ = some (.int .i64 o) := fun W hb => by rw [ho, (hg.below hb hlg).cell, mc_over ok.len]
  rw [← ha, ← ho] at few
  rw [← ha] at a0
  rw [← ho] at o0
  have HA := Lib.hid ha
  have HO := Lib.hid ho
  have HCI := Lib.hid CI
  have HCO := Lib.hid CO
  have HOK := Lib.hid ok
  have HG := Lib.hid hg
  have HLG := Lib.hid hlg
  clear ha ho CI CO ok hg hlg hsum
  rw [← HA.out, ← HO.out] at h h2
  have d1 : decide (4 ≤ a + o) = true := decide_eq_true (by omega)
  have hn4 : ¬ a + o < 4 := by omega
  have d2 : decide (a + o < 4) = false := decide_eq_false (by omega)
  have CS : ∀ W : World, Below w.heap.size w W → ∀ n, Calls Try.prog 35 #[.pointer (some ⟨g, 0, none⟩)] (W.drewN n) (RetB s.spread (W.drewN n)) := fun W hb n => mspread_any g s _ ((HG.out.below hb HLG.out).drewN n) HOK.out
  rw [h3] at CS
  have HCS := Lib.hid CS
  clear CS h3
  go_enter Try.func17, Try.ntmps17
  go_wp2
  generalize hW : w.alloc _ = W
  have hS : RS w w.heap.size W := by rw [← hW]; exact RS.start w
  obtain ⟨r, hr⟩ : ∃ r, r = w.heap.size := ⟨_, rfl⟩
  rw [← hr] at hS ⊢
  have HS := Lib.hid hS
  clear hW hr hS
  have co := HCO.out W HS.out.below
  have h12 : o ≤ 4096 := by omega
  have h13 : a ≤ 4096 := by omega
  go_quiet ((go_at_call 26; exact Calls.quiet_of (HCI.out W HS.out.below _)))
  go_wp2_with fail
  (try go_quiet (fail))
  go_wp2_with fail
  refine (HCS.out W HS.out.below _).mono ?_
  rintro e w' ⟨rfl, n4, rfl⟩
  generalize hg9 : W.drewN _ = W9
  have HS9 := Lib.hid (show RS w r W9 by rw [← hg9]; exact HS.out.drewN _)
  clear hg9
  obtain ⟨c0, c1, c2, f0, f1, f2⟩ := HS9.out.facts
  go_wp2
  exact bodyPost_ret (v := .agg #[.int .i64 0, .int .i64 0, .int .i64 10]) (by simp [results, Try.results17, go_sem, c0, c1, c2]) rfl (RetW.mk rfl ((HS9.out.drewN _).three _ _ _))

set_option maxHeartbeats 2000000 in
set_option maxRecDepth 100000 in
theorem lof_hist (g : Nat) (v : Value) (s : S) (ts : List Int) (w : World) (hg : Blk w g 31 (mc s.bs s.o)) (ok : Ok s) (hr : Sl w v (last8 ts)) (h : 4 ≤ s.a + s.o) (h2 : ¬ s.a + s.o < 2 * s.o) (h3 : s.spread = true) : Calls Try.prog 17 #[.pointer (some ⟨g, 0, none⟩), v] w (RetW (whist (s.cut 5) (s.cut 99)) w) := by
  clear hr
  have hlg := hg.lt
  have a0 := ok.a0
  have o0 := ok.over
  have few := ok.few
  have hsum := ok.sum
  obtain ⟨a, ha⟩ : ∃ a, a = s.a := ⟨_, rfl⟩
  obtain ⟨o, ho⟩ : ∃ a, a = s.o := ⟨_, rfl⟩
  have CI : ∀ W : World, Below w.heap.size w W → ∀ n, Calls Try.prog 26 #[.pointer (some ⟨g, 0, none⟩)] (W.drewN n) (RetI a (W.drewN n)) := fun W hb n => by
    rw [ha, hsum]; exact min_any g s.bs s.o _ ((hg.below hb hlg).drewN n) ok.len (fun x hx => by have := ok.bd x hx; omega)
  have CO : ∀ W : World, Below w.heap.size w W → W.cell? ⟨g, 240, none⟩ = some (.int .i64 o) := fun W hb => by rw [ho, (hg.below hb hlg).cell, mc_over ok.len]
  rw [← ha, ← ho] at few
  rw [← ha] at a0
  rw [← ho] at o0
  have HA := Lib.hid ha
  have HO := Lib.hid ho
  have HCI := Lib.hid CI
  have HCO := Lib.hid CO
  have HOK := Lib.hid ok
  have HG := Lib.hid hg
  have HLG := Lib.hid hlg
  clear ha ho CI CO ok hg hlg hsum
  rw [← HA.out, ← HO.out] at h h2
  have d1 : decide (4 ≤ a + o) = true := decide_eq_true (by omega)
  have hn4 : ¬ a + o < 4 := by omega
  have d2 : decide (a + o < 4) = false := decide_eq_false (by omega)
  have CS : ∀ W : World, Below w.heap.size w W → ∀ n, Calls Try.prog 35 #[.pointer (some ⟨g, 0, none⟩)] (W.drewN n) (RetB s.spread (W.drewN n)) := fun W hb n => mspread_any g s _ ((HG.out.below hb HLG.out).drewN n) HOK.out
  rw [h3] at CS
  have HCS := Lib.hid CS
  have l1 := cut_lt s 5
  have l2 := cut_lt s 99
  obtain ⟨u, hu⟩ : ∃ u, u = s.cut 5 := ⟨_, rfl⟩
  obtain ⟨v', hv⟩ : ∃ u, u = s.cut 99 := ⟨_, rfl⟩
  rw [← hu] at l1
  rw [← hv] at l2
  obtain ⟨b, hb⟩ : ∃ b, b = decide (0 < s.a) := ⟨_, rfl⟩
  have C5 : ∀ W : World, Below w.heap.size w W → ∀ n, Calls Try.prog 36 #[.pointer (some ⟨g, 0, none⟩), .int .i64 5] (W.drewN n) (RetC (u : Int) b (W.drewN n)) := fun W hW n => by rw [hu, hb]; exact mcut_any g s 5 _ ((HG.out.below hW HLG.out).drewN n) HOK.out (by omega) (by omega)
  have C99 : ∀ W : World, Below w.heap.size w W → ∀ n, Calls Try.prog 36 #[.pointer (some ⟨g, 0, none⟩), .int .i64 99] (W.drewN n) (RetC (v' : Int) b (W.drewN n)) := fun W hW n => by rw [hv, hb]; exact mcut_any g s 99 _ ((HG.out.below hW HLG.out).drewN n) HOK.out (by omega) (by omega)
  obtain ⟨p, hp⟩ : ∃ p, p = (u : Int) * 9 / 10 := ⟨_, rfl⟩
  obtain ⟨q, hq⟩ : ∃ p, p = ((v' : Int) * 11 + 20) / 10 := ⟨_, rfl⟩
  have hval : (whist (s.cut 5) (s.cut 99)).val = .agg #[.int .i64 1, .int .i64 p, .int .i64 q] := by unfold Win.val whist; rw [hp, hq, hu, hv]
  have hp2 : (u : Int) * 9 / 10 = p := hp.symm
  have hp3 : ((u : Int) * 9).tdiv 10 = p := by rw [Int.tdiv_eq_ediv_of_nonneg (by omega), hp]
  have hq2 : ((v' : Int) * 11 + 20) / 10 = q := hq.symm
  have hq3 : ((v' : Int) * 11 + 20).tdiv 10 = q := by rw [Int.tdiv_eq_ediv_of_nonneg (by omega), hq]
  have hq4 : ((v' : Int) * 11 + 11 + 9) / 10 = q := by rw [hq]; congr 1
  have hq5 : ((v' : Int) * 11 + 11 + 9).tdiv 10 = q := by rw [Int.tdiv_eq_ediv_of_nonneg (by omega), hq4]
  have hp0 : 0 ≤ p := by omega
  have hp1 : p ≤ 1099511627776 := by omega
  have hq0 : 0 ≤ q := by omega
  have hq1 : q ≤ 10995116277760 := by omega
  have HV := Lib.hid hval
  have HC5 := Lib.hid C5
  have HC99 := Lib.hid C99
  clear CS h3 hu hv C5 C99 hb hp hq hval
  go_enter Try.func17, Try.ntmps17
  go_wp2
  generalize hW : w.alloc _ = W
  have hS : RS w w.heap.size W := by rw [← hW]; exact RS.start w
  obtain ⟨r, hr⟩ : ∃ r, r = w.heap.size := ⟨_, rfl⟩
  rw [← hr] at hS ⊢
  have HS := Lib.hid hS
  clear hW hr hS
  have co := HCO.out W HS.out.below
  have h12 : o ≤ 4096 := by omega
  have h13 : a ≤ 4096 := by omega
  go_quiet ((go_at_call 26; exact Calls.quiet_of (HCI.out W HS.out.below _)))
  go_wp2_with fail
  (try go_quiet (fail))
  go_wp2_with fail
  refine (HCS.out W HS.out.below _).mono ?_
  rintro e w' ⟨rfl, n4, rfl⟩
  go_wp2_with fail
  refine (HC5.out W HS.out.below _).mono ?_
  rintro e w' ⟨rfl, n5, rfl⟩
  go_wp2_with fail
  refine (HC99.out W HS.out.below _).mono ?_
  rintro e w' ⟨rfl, n6, rfl⟩
  generalize hg9 : W.drewN _ = W9
  have HS9 := Lib.hid (show RS w r W9 by rw [← hg9]; exact HS.out.drewN _)
  clear hg9
  obtain ⟨c0, c1, c2, f0, f1, f2⟩ := HS9.out.facts
  go_wp2
  exact bodyPost_ret (v := .agg #[.int .i64 1, .int .i64 p, .int .i64 q]) (by simp [results, Try.results17, go_sem, c0, c1, c2]) rfl (RetW.mk HV.out.symm ((HS9.out.drewN _).three _ _ _))
theorem lof_any (g : Nat) (v : Value) (s : S) (ts : List Int) (w : World) (hg : Blk w g 31 (mc s.bs s.o)) (ok : Ok s) (hr : Sl w v (last8 ts)) : Calls Try.prog 17 #[.pointer (some ⟨g, 0, none⟩), v] w (RetW (win s ts) w) := by
  unfold win
  by_cases h : s.a + s.o < 4
  · rw [if_pos h]; exact lof_few g v s ts w hg ok hr h
  · rw [if_neg h]
    by_cases h2 : s.a + s.o < 2 * s.o
    · rw [if_pos h2]; exact lof_far g v s ts w hg ok hr (by omega) h2
    · rw [if_neg h2]
      by_cases h3 : s.spread = false
      · rw [if_pos h3]; exact lof_flat g v s ts w hg ok hr (by omega) h2 h3
      · rw [if_neg h3]; exact lof_hist g v s ts w hg ok hr (by omega) h2 (by simpa using h3)
end Go.Proofs.Ytopbhdpfakjkjaa.Policy
