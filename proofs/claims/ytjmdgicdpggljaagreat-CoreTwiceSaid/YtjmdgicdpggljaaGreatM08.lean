/- Proved: what quota.Ledger's SetFunc answers, and leaves in its block. -/
import Derived.Test.YtjmdgicdpggljaaGreatM07
import Derived.BigRegion
set_option linter.all false
namespace Go.Proofs.YtjmdgicdpggljaaGreat.GH
open Go.RowKit Go.Proofs.YtjmdgicdpggljaaGreat.Histo
set_option linter.unusedVariables false

set_option maxRecDepth 100000 in
set_option maxHeartbeats 8000000 in
theorem setFunc_out (p : Nat) (q : Quota) (k x r : Int) (w : World) (h : QuotaAt w p q) (hc : k < 0 ∨ 64 ≤ k ∨ x < 0 ∨ 16 ≤ x ∨ r < 0 ∨ 1000 < r) : Calls Tryz.prog 47 #[.pointer (some ⟨p, 0, none⟩), .int .i64 k, .int .i64 x, .int .i64 r] w (QWrote p q (.int .i64 1) w) := by
  have H := Lib.hid h
  have HC := Lib.hid hc
  clear h hc
  go_enter Tryz.func47, Tryz.ntmps47
  go_wp2_with (fail)
  all_goals first
    | (go_ret; exact QWrote.mk rfl H.out rfl (only_refl _ _))
    | (exfalso; have := HC.out; omega)
set_option maxRecDepth 100000 in
set_option maxHeartbeats 8000000 in
theorem setFunc_in (p : Nat) (q : Quota) (n m : Nat) (r : Int) (w : World) (h : QuotaAt w p q) (ok : q.Ok) (h0 : n < 64) (h1 : m < 16) (h2 : 0 ≤ r) (h3 : r ≤ 1000) : Calls Tryz.prog 47 #[.pointer (some ⟨p, 0, none⟩), .int .i64 (n : Int), .int .i64 (m : Int), .int .i64 r] w (QWrote p (q.setFunc n m r).2 (.int .i64 (q.setFunc n m r).1) w) := by
  have es : q.setFunc n m r = if (q.acs.getD m ⟨false, 0⟩).there = false then (2, q)
      else if (q.fs.getD n ⟨false, 0, 0, 0⟩).there = true ∧ (q.fs.getD n ⟨false, 0, 0, 0⟩).acc ≠ m then (3, q)
      else if (q.acs.getD m ⟨false, 0⟩).lim < q.res m - (q.fs.getD n ⟨false, 0, 0, 0⟩).res + r then (4, q)
      else (0, { q with fs := q.fs.set n { q.fs.getD n ⟨false, 0, 0, 0⟩ with there := true, acc := m, res := r } }) := by
    unfold Quota.setFunc
    rw [if_neg (by omega)]
    rfl
  have c0 : w.cell? ⟨p, 32 + n * 4, none⟩ = some (.bool (q.fs.getD n ⟨false, 0, 0, 0⟩).there) := qf_cell (k := n) (r := 0) h ok (by omega) (by omega)
  have c1 : w.cell? ⟨p, 32 + n * 4 + 1, none⟩ = some (.int .i64 (q.fs.getD n ⟨false, 0, 0, 0⟩).acc) := qf_cell (k := n) (r := 1) h ok (by omega) (by omega)
  have c2 : w.cell? ⟨p, 32 + n * 4 + 2, none⟩ = some (.int .i64 (q.fs.getD n ⟨false, 0, 0, 0⟩).res) := qf_cell (k := n) (r := 2) h ok (by omega) (by omega)
  have d0 : w.cell? ⟨p, m * 2, none⟩ = some (.bool (q.acs.getD m ⟨false, 0⟩).there) := qa_cell (k := m) (r := 0) h ok (by omega) (by omega)
  have d1 : w.cell? ⟨p, m * 2 + 1, none⟩ = some (.int .i64 (q.acs.getD m ⟨false, 0⟩).lim) := qa_cell (k := m) (r := 1) h ok (by omega) (by omega)
  obtain ⟨_, _, r0, r1, _, _⟩ := qok_f ok (n := n) (by omega)
  obtain ⟨l0, l1⟩ := qok_a ok (n := m) (by omega)
  have hset : ∀ W, QuotaAt W p q → QuotaAt (((W.setCell ⟨p, 32 + n * 4, none⟩ (.bool true)).setCell ⟨p, 32 + n * 4 + 1, none⟩ (.int .i64 m)).setCell ⟨p, 32 + n * 4 + 2, none⟩ (.int .i64 r)) p { q with fs := q.fs.set n { q.fs.getD n ⟨false, 0, 0, 0⟩ with there := true, acc := m, res := r } } := fun W hW => by
    obtain ⟨y, hy⟩ : ∃ y, y = q.fs.getD n ⟨false, 0, 0, 0⟩ := ⟨_, rfl⟩
    rw [← hy]
    have g0 : q.fs[n]? = some y := by rw [hy]; exact getD_some (by rw [ok.nf]; omega) _
    have b := ((hW.set_ (32 + n * 4) (.bool true)).set_ (32 + n * 4 + 1) (.int .i64 m)).set_ (32 + n * 4 + 2) (.int .i64 r)
    have e : ((q.cells.setIfInBounds (32 + n * 4) (.bool true)).setIfInBounds (32 + n * 4 + 1) (.int .i64 m)).setIfInBounds (32 + n * 4 + 2) (.int .i64 r) = Quota.cells { q with fs := q.fs.set n { y with there := true, acc := m, res := r } } := by
      unfold Quota.cells
      have hl : (q.acs.flatMap QA.cells).length = 32 := by rw [flat_len (z := 2) (fun _ => rfl), ok.na]
      have hlen := ok.nf
      simp only [List.setIfInBounds_toArray]
      rw [List.set_append_right _ _ (by rw [hl]; omega), hl, List.set_append_right _ _ (by rw [hl]; omega), hl, List.set_append_right _ _ (by rw [hl]; omega), hl,
        show 32 + n * 4 - 32 = 4 * n + 0 by omega, show 32 + n * 4 + 1 - 32 = 4 * n + 1 by omega, show 32 + n * 4 + 2 - 32 = 4 * n + 2 by omega,
        flat_set (z := 4) (r := 0) (y := ({ y with there := true } : QF)) (fun _ => rfl) (by omega) rfl _ _ g0,
        flat_set (z := 4) (r := 1) (x := ({ y with there := true } : QF)) (y := ({ y with there := true, acc := m } : QF)) (fun _ => rfl) (by omega) rfl _ _ (List.getElem?_set_self (by omega)),
        flat_set (z := 4) (r := 2) (x := ({ y with there := true, acc := m } : QF)) (y := ({ y with there := true, acc := m, res := r } : QF)) (fun _ => rfl) (by omega) rfl _ _ (List.getElem?_set_self (by rw [List.length_set]; omega)),
        List.set_set, List.set_set]
    rw [e] at b
    exact b
  have HS := Lib.hid hset
  have H := Lib.hid h
  have hp := h.lt
  have hs := sums_any p q m w h ok
  obtain ⟨⟨u0, u1⟩, _, _⟩ := qsum_bd' ok (m : Int)
  obtain ⟨U, hU⟩ : ∃ U, U = q.res (m : Int) := ⟨_, rfl⟩
  rw [← hU] at es u0 u1 hs
  have f0 := h.frozen (32 + n * 4)
  have f1 := h.frozen (32 + n * 4 + 1)
  have f2 := h.frozen (32 + n * 4 + 2)
  obtain ⟨Q, hQ⟩ : ∃ Q, Q = ({ q with fs := q.fs.set n { q.fs.getD n ⟨false, 0, 0, 0⟩ with there := true, acc := m, res := r } } : Quota) := ⟨_, rfl⟩
  rw [← hQ] at es
  have HQ := Lib.hid hQ
  obtain ⟨y, hy⟩ : ∃ y, y = q.fs.getD n ⟨false, 0, 0, 0⟩ := ⟨_, rfl⟩
  rw [← hy] at c0 c1 c2 r0 r1 es
  obtain ⟨yt, ya, yr, yb⟩ := y
  obtain ⟨z, hz⟩ : ∃ z, z = q.acs.getD m ⟨false, 0⟩ := ⟨_, rfl⟩
  rw [← hz] at d0 d1 l0 l1 es
  obtain ⟨zt, zl⟩ := z
  simp only at c0 c1 c2 r0 r1 d0 d1 l0 l1 es
  obtain ⟨X, hX⟩ : ∃ X, X = q.setFunc n m r := ⟨_, rfl⟩
  rw [← hX] at es ⊢
  clear hX hU hQ hy hz hset h ok
  have n0 : (n : Int) < 64 := by omega
  have m0 : (m : Int) < 16 := by omega
  cases zt
  · rw [if_pos rfl] at es
    rw [es]
    clear es hs
    go_enter Tryz.func47, Tryz.ntmps47
    go_wp2_with (fail)
    go_ret
    exact QWrote.mk rfl H.out rfl (only_refl _ _)
  rw [if_neg (by simp)] at es
  by_cases ha : yt = true ∧ ya ≠ m
  · rw [if_pos ha] at es
    rw [es]
    obtain ⟨rfl, ha⟩ := ha
    have e1 : (ya != (m : Int)) = true := by simpa using ha
    clear es hs ha
    go_enter Tryz.func47, Tryz.ntmps47
    go_wp2_with (fail)
    go_ret
    exact QWrote.mk rfl H.out rfl (only_refl _ _)
  rw [if_neg ha] at es
  have hb : yt = false ∨ (yt = true ∧ (ya != (m : Int)) = false) := by
    cases yt
    · exact .inl rfl
    · refine .inr ⟨rfl, ?_⟩
      simp at ha ⊢
      exact ha
  clear ha
  obtain ⟨X1, hX1⟩ : ∃ X1, X1 = X.1 := ⟨_, rfl⟩
  obtain ⟨X2, hX2⟩ : ∃ X2, X2 = X.2 := ⟨_, rfl⟩
  rw [← hX1, ← hX2]
  have ES := Lib.hid (And.intro hX1 (And.intro hX2 es))
  clear es hX1 hX2
  by_cases h4 : zl < U - yr + r
  · have e4 : decide (zl < U - yr + r) = true := by simpa using h4
    have H4 := Lib.hid h4
    clear h4
    rcases hb with rfl | ⟨rfl, hb⟩ <;>
    · go_enter Tryz.func47, Tryz.ntmps47
      go_wp2_with (go_at_call 86; refine hs.mono ?_; rintro e w2 ⟨rfl, hb2⟩; have g2 := (hb2.cell (p := ⟨p, 32 + n * 4 + 2, none⟩) hp).trans c2; have k1 := (hb2.cell (p := ⟨p, m * 2 + 1, none⟩) hp).trans d1; have HB := Lib.hid hb2; clear hb2 c0 c1 c2 d0 d1 f0 f1 f2)
      go_quiet (fail)
      go_wp2
      go_ret
      exact QWrote.mk (by rw [ES.out.1, ES.out.2.2, if_pos H4.out]; rfl) ((H.out.below HB.out hp).drewN _) (by rw [ES.out.2.1, ES.out.2.2, if_pos H4.out]) (only_drewN (grown_below HB.out _) _)
  · have e4 : decide (zl < U - yr + r) = false := by simpa using h4
    have H4 := Lib.hid h4
    clear h4
    rcases hb with rfl | ⟨rfl, hb⟩ <;>
    · go_enter Tryz.func47, Tryz.ntmps47
      go_wp2_with (go_at_call 86; refine hs.mono ?_; rintro e w2 ⟨rfl, hb2⟩; have g0 := (hb2.cell (p := ⟨p, 32 + n * 4, none⟩) hp).trans c0; have g1 := (hb2.cell (p := ⟨p, 32 + n * 4 + 1, none⟩) hp).trans c1; have g2 := (hb2.cell (p := ⟨p, 32 + n * 4 + 2, none⟩) hp).trans c2; have k1 := (hb2.cell (p := ⟨p, m * 2 + 1, none⟩) hp).trans d1; have q0 := (hb2.frozen (p := ⟨p, 32 + n * 4, none⟩) hp).trans f0; have q1 := (hb2.frozen (p := ⟨p, 32 + n * 4 + 1, none⟩) hp).trans f1; have q2 := (hb2.frozen (p := ⟨p, 32 + n * 4 + 2, none⟩) hp).trans f2; have HB := Lib.hid hb2; clear hb2 c0 c1 c2 d0 d1 f0 f1 f2)
      go_quiet (fail)
      go_wp2
      go_region
      go_wp2
      go_ret
      exact QWrote.mk (by rw [ES.out.1, ES.out.2.2, if_neg (Int.not_lt.2 H4.out)]; rfl) (HS.out _ (((H.out.below HB.out hp).drewN _).drew)) (by rw [ES.out.2.1, ES.out.2.2, if_neg (Int.not_lt.2 H4.out), HQ.out]) (only_at (only_at (only_at (only_drew (only_drewN (grown_below HB.out _) _)) _ _) _ _) _ _)
theorem setFunc_any (p : Nat) (q : Quota) (k x r : Int) (w : World) (h : QuotaAt w p q) (ok : q.Ok) : Calls Tryz.prog 47 #[.pointer (some ⟨p, 0, none⟩), .int .i64 k, .int .i64 x, .int .i64 r] w (QWrote p (q.setFunc k x r).2 (.int .i64 (q.setFunc k x r).1) w) := by
  by_cases hc : k < 0 ∨ 64 ≤ k ∨ x < 0 ∨ 16 ≤ x ∨ r < 0 ∨ 1000 < r
  · have e : q.setFunc k x r = (1, q) := by unfold Quota.setFunc; rw [if_pos hc]
    rw [e]
    exact setFunc_out p q k x r w h hc
  · obtain ⟨n, rfl⟩ : ∃ n : Nat, k = n := ⟨k.toNat, by omega⟩
    obtain ⟨m, rfl⟩ : ∃ m : Nat, x = m := ⟨x.toNat, by omega⟩
    exact setFunc_in p q n m r w h ok (by omega) (by omega) (by omega) (by omega)
end Go.Proofs.YtjmdgicdpggljaaGreat.GH
