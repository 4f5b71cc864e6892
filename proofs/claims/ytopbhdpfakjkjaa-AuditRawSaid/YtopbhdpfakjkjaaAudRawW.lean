/- Proved: the walk of greenhouselaw19.AuditRaw. -/
import Derived.Test.YtopbhdpfakjkjaaOpenStep
import Derived.Test.YtopbhdpfakjkjaaLawFirst
namespace Go.Proofs.Ytopbhdpfakjkjaa.Aud
open Go.RowKit Go.Proofs.Ytopbhdpfakjkjaa.Histo Go.Proofs.Ytopbhdpfakjkjaa.Event Go.Proofs.Ytopbhdpfakjkjaa.Ring
set_option linter.unusedVariables false
open Go.Proofs.Ytopbhdpfakjkjaa.MapI (AL At Rng W64 At.alloc At.drew)
theorem Cmds.below {w w' : World} {ad : Option Addr} {cs : List Cmd} (h : Cmds (w.heap.size ≤ ·) w ad cs) (hb : Below w.heap.size w w') : Cmds (w'.heap.size ≤ ·) w' ad cs := by
  intro i c hc
  obtain ⟨h1, b, off, h2, h3, _, h4, h5, h6, h7⟩ := h i c hc
  have f := hb.block b h3
  have g : ∀ k, w'.cell? ⟨b, k, none⟩ = w.cell? ⟨b, k, none⟩ := fun k => World.cell?_of_block (w := w) f
  exact ⟨h1, b, off, h2, Nat.lt_of_lt_of_le h3 hb.size, Nat.not_le.2 (Nat.lt_of_lt_of_le h3 hb.size), (g _).trans h4, (g _).trans h5, (g _).trans h6, (g _).trans h7⟩
theorem Raw.below {w w' : World} {ad : Option Addr} {xs : List Stp} (h : Raw w ad xs) (hb : Below w.heap.size w w') : Raw w' ad xs := by
  intro i x hx
  obtain ⟨b, off, ad', cap, h1, h2, h3, h4⟩ := h i x hx
  exact ⟨b, off, ad', cap, h1, Nat.lt_of_lt_of_le h2 hb.size, h3.below hb, h4.below (hb.block b h2)⟩
theorem Raw.stps {w : World} {ad : Option Addr} {xs : List Stp} (h : Raw w ad xs) (hs : ∀ x ∈ xs, x.cmds.length ≤ 20) : Stps (w.heap.size ≤ ·) w ad xs := by
  intro i x hx
  obtain ⟨b, off, ad', cap, h1, h2, h3, h4⟩ := h i x hx
  exact ⟨b, off, ad', cap, h1, h2, Nat.not_le.2 h2, Nat.le_trans (hs x (List.mem_of_getElem? hx)) (by omega), h3, h4⟩
set_option maxHeartbeats 4000000 in
set_option maxRecDepth 100000 in
theorem raw_any (xs : List Stp) (ad : Option Addr) (cap : Nat) (w : World) (hx : Raw w ad xs) : Calls Try.prog 8 #[.slice ad xs.length cap] w (RetB1 true w) := by
  obtain ⟨n, hn⟩ : ∃ n, n = xs.length := ⟨_, rfl⟩
  rw [← hn]
  have HX := Lib.hid hx
  have HN := Lib.hid hn
  clear hx hn
  go_enter Try.func8, Try.ntmps8
  go_wp2_with fail
  refine (head_any w).mono ?_
  rintro e1 w1 ⟨rfl, hb1⟩
  have HB1 := Lib.hid hb1
  have HX1 := Lib.hid (HX.out.below hb1)
  clear hb1
  by_cases h60 : 60 < n
  · have d1 : decide ((60 : Int) < (n : Int)) = true := decide_eq_true (by omega)
    have d2 : decide (60 < n) = true := decide_eq_true h60
    go_wp2
    go_ret
    exact RetB1.mk rfl HB1.out
  have d1 : decide ((60 : Int) < (n : Int)) = false := decide_eq_false (by omega)
  have d2 : decide (60 < n) = false := decide_eq_false h60
  have hn60 : n ≤ 60 := by omega
  clear h60
  go_wp2_with fail
  clear d1 d2
  go_loopw [12] (fun iv wr => ∃ i : Nat, i ≤ n ∧ iv = .int .i64 i ∧ (∀ x ∈ xs.take i, x.cmds.length ≤ 20) ∧ Below w1.heap.size w1 wr) (fun iv _ => n - (intOf iv).toNat)
  case atStart => exact ⟨0, by omega, rfl, fun x hx => by simp at hx, Below.refl _ _⟩
  case round =>
    obtain ⟨i, hi, rfl, hsm, hbl⟩ := hrel
    have hbw : Below w.heap.size w wr := HB1.out.trans (hbl.mono HB1.out.size)
    by_cases hlt : i < n
    · have hil : i < xs.length := by have := HN.out; omega
      obtain ⟨x, hx⟩ : ∃ x, x = xs[i] := ⟨_, rfl⟩
      obtain ⟨b, off, ad', cap', rfl, hb, _, hat⟩ := (HX1.out.below hbl) i x (by rw [List.getElem?_eq_getElem hil, hx])
      unfold At15 at hat
      obtain ⟨d0, d1, d2, d3, d4, d5, d6, d7, d8, d9, d10, d11, d12, d13, d14⟩ := hat
      have hnx : x.cmds.length ≤ 20 → ∀ y ∈ xs.take (i + 1), y.cmds.length ≤ 20 := fun h y hy => by
        rw [List.take_succ_eq_append_getElem hil, List.mem_append, List.mem_singleton] at hy
        rcases hy with hy | hy
        · exact hsm y hy
        · rw [hy, ← hx]; exact h
      have HNX := Lib.hid hnx
      have HBL := Lib.hid hbl
      have HBW := Lib.hid hbw
      obtain ⟨⟨ek, en, e2, es, e4, e5, em, e7, e8, e9⟩, ⟨rk, bx, r2, r3⟩, cs⟩ := x
      simp only at d0 d1 d2 d3 d4 d5 d6 d7 d8 d9 d10 d11 d12 d13 d14
      obtain ⟨m, hm⟩ : ∃ m, m = cs.length := ⟨_, rfl⟩
      rw [← hm] at d14
      have HM := Lib.hid hm
      clear hm hnx hbl hbw hsm hx hb
      have fin : Below w.heap.size w (wr.alloc (.cells (scells ⟨ek, en, e2, es, e4, e5, em, e7, e8, e9⟩ ⟨rk, bx, r2, r3⟩ (.slice ad' m cap')) 55)) := HBW.out.alloc HBW.out.size _
      have FIN := Lib.hid fin
      have nxt : Below w1.heap.size w1 (wr.alloc (.cells (scells ⟨ek, en, e2, es, e4, e5, em, e7, e8, e9⟩ ⟨rk, bx, r2, r3⟩ (.slice ad' m cap')) 55)) := HBL.out.alloc HBL.out.size _
      have NXT := Lib.hid nxt
      clear fin nxt
      by_cases h1 : 20 < m
      · have q1 : decide ((20 : Int) < (m : Int)) = true := decide_eq_true (by omega)
        have q2 : decide (20 < m) = true := decide_eq_true h1
        go_wp2
        go_ret
        exact RetB1.mk rfl FIN.out
      have q1 : decide ((20 : Int) < (m : Int)) = false := decide_eq_false (by omega)
      have q2 : decide (20 < m) = false := decide_eq_false h1
      by_cases h2 : 1073741824 < es
      · have q3 : decide (1073741824 < es) = true := decide_eq_true h2
        go_wp2
        go_ret
        exact RetB1.mk rfl FIN.out
      have q3 : decide (1073741824 < es) = false := decide_eq_false h2
      by_cases h3 : 1073741824 < em
      · have q4 : decide (1073741824 < em) = true := decide_eq_true h3
        go_wp2
        go_ret
        exact RetB1.mk rfl FIN.out
      have q4 : decide (1073741824 < em) = false := decide_eq_false h3
      have HOK := Lib.hid (HNX.out (by show cs.length ≤ 20; rw [← HM.out]; omega))
      go_wp2
      go_roundw
      case rel => exact ⟨i + 1, by omega, by go_num, HOK.out, NXT.out⟩
      case measure => simp [intOf]; omega
    · have hst := (HX1.out.below hbl).stps (fun x hx => hsm x (by rw [List.take_of_length_le (by have := HN.out; omega)]; exact hx))
      have hl : xs.length ≤ 2000 := by have := HN.out; omega
      have hc1 := first_any xs ad cap wr hst hl
      rw [← HN.out] at hc1
      have HC1 := Lib.hid hc1
      have HBW := Lib.hid hbw
      have HRW := Lib.hid (And.intro (HX1.out.below hbl) (fun x (hx : x ∈ xs) => hsm x (by rw [List.take_of_length_le (by have := HN.out; omega)]; exact hx)))
      clear hst hc1 hbl hbw hsm
      go_wp2_with fail
      refine (HC1.out).mono ?_
      rintro e2 w2 ⟨rfl, hb2⟩
      have hc2 := lfirst_any xs ad cap w2 ((HRW.out.1.below hb2).stps HRW.out.2) hl
      rw [← HN.out] at hc2
      have HC2 := Lib.hid hc2
      have HB2 := Lib.hid (show Below w.heap.size w w2 from HBW.out.trans (hb2.mono HBW.out.size))
      clear hc2 hb2 hl
      go_wp2_with fail
      refine (HC2.out).mono ?_
      rintro e3 w3 ⟨rfl, hb3⟩
      have HB3 := Lib.hid (show Below w.heap.size w w3 from HB2.out.trans (hb3.mono HB2.out.size))
      clear hb3
      generalize firstP xs = f
      go_wp2
      go_ret
      exact RetB1.mk (by simp) HB3.out
/-- As the row hands it in. -/
theorem raw_walk {ad : Option Addr} {len cap : Nat} {w : World} (h : ∃ xs : List Stp, len = xs.length ∧ Raw w ad xs) : Calls Try.prog 8 #[.slice ad len cap] w (RetB1 true w) := by
  obtain ⟨xs, rfl, hx⟩ := h
  exact raw_any xs ad cap w hx
end Go.Proofs.Ytopbhdpfakjkjaa.Aud
