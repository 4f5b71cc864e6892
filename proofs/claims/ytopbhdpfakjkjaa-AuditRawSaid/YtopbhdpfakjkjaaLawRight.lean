/- Proved: what greenhouselaw16.Right answers: the same as event.Event.Right. -/
import Derived.Test.YtopbhdpfakjkjaaLawEv
namespace Go.Proofs.Ytopbhdpfakjkjaa.Event
open Go.RowKit Go.Proofs.Ytopbhdpfakjkjaa.Histo
set_option linter.unusedVariables false
set_option maxHeartbeats 4000000 in
set_option maxRecDepth 100000 in
theorem lright_any (e : Ev) (w : World) : Calls Try.prog 49 #[e.val] w (RetB1 e.right w) := by
  obtain ⟨k, a1, a2, a3, a4, a5, a6, a7, a8, a9⟩ := e
  unfold Ev.val
  simp only
  have RN := Lib.hid (fun (L : List Nat) => @right_no ⟨k, a1, a2, a3, a4, a5, a6, a7, a8, a9⟩ L)
  have RE := Lib.hid (fun (L : List Nat) => @right_end ⟨k, a1, a2, a3, a4, a5, a6, a7, a8, a9⟩ L)
  have R0 := Lib.hid (@right_none ⟨k, a1, a2, a3, a4, a5, a6, a7, a8, a9⟩)
  have RB := Lib.hid (fun (L : List Nat) => @right_bare ⟨k, a1, a2, a3, a4, a5, a6, a7, a8, a9⟩ L)
  have NA := Lib.hid (fun W => nums_any k a1 a2 a3 a4 a5 a6 a7 a8 a9 W)
  have WA := Lib.hid (fun L ad W => with_any k a1 a2 a3 a4 a5 a6 a7 a8 a9 L ad W)
  obtain ⟨E, hE⟩ : ∃ E : Ev, E = ⟨k, a1, a2, a3, a4, a5, a6, a7, a8, a9⟩ := ⟨_, rfl⟩
  rw [← hE] at RN RE R0 RB NA WA ⊢
  have HE := Lib.hid hE
  clear hE
  go_enter Try.func49, Try.ntmps49
  go_wp2_with fail
  have hW := (Below.refl w.heap.size w).alloc (Nat.le_refl _) (.cells (ecells k a1 a2 a3 a4 a5 a6 a7 a8 a9) 47)
  have hB := Blk.new w 47 (ecells k a1 a2 a3 a4 a5 a6 a7 a8 a9)
  obtain ⟨g, hg⟩ : ∃ g, g = w.heap.size := ⟨_, rfl⟩
  rw [← hg] at hB ⊢
  generalize w.alloc _ = W at hW hB ⊢
  have HBW := Lib.hid hW
  have HB := Lib.hid hB
  have HG := Lib.hid hg
  clear hW hB hg
  refine (NA.out W).mono ?_
  rintro e1 w1 (⟨ho, ⟨ad, rfl⟩, hb1⟩ | ⟨L, ad, ho, rfl, hN, hb1⟩)
  · have H0 := Lib.hid (R0.out (by rw [HE.out] at ho ⊢; exact ho))
    have HB1 := Lib.hid (show Below w.heap.size w w1 from HBW.out.trans (hb1.mono HBW.out.size))
    clear ho hb1
    go_wp2
    go_quiet (fail)
    go_wp2
    go_ret
    exact RetB1.mk H0.out.symm (below_drewN' HB1.out _)
  · have HB1 := Lib.hid (show Below w.heap.size w w1 from HBW.out.trans (hb1.mono HBW.out.size))
    have hC := HB.out.below hb1 HB.out.lt
    have hgl := hC.lt
    have c0 : w1.cell? ⟨g, 0, none⟩ = some (.int .i64 k) := hC.cell 0
    have c1 : w1.cell? ⟨g, 1, none⟩ = some (.int .i64 a1) := hC.cell 1
    have c2 : w1.cell? ⟨g, 2, none⟩ = some (.int .i64 a2) := hC.cell 2
    have c3 : w1.cell? ⟨g, 3, none⟩ = some (.int .i64 a3) := hC.cell 3
    have c4 : w1.cell? ⟨g, 4, none⟩ = some (.int .i64 a4) := hC.cell 4
    have c5 : w1.cell? ⟨g, 5, none⟩ = some (.int .i64 a5) := hC.cell 5
    have c6 : w1.cell? ⟨g, 6, none⟩ = some (.int .i64 a6) := hC.cell 6
    have c7 : w1.cell? ⟨g, 7, none⟩ = some (.int .i64 a7) := hC.cell 7
    have c8 : w1.cell? ⟨g, 8, none⟩ = some (.int .i64 a8) := hC.cell 8
    have c9 : w1.cell? ⟨g, 9, none⟩ = some (.int .i64 a9) := hC.cell 9
    have HN := Lib.hid hN
    have HO := Lib.hid ho
    have HC := Lib.hid hC
    obtain ⟨n, hn⟩ : ∃ n, n = L.length := ⟨_, rfl⟩
    have hn6 : n ≤ 6 := by
      have : ∀ k L, offs k = some L → L.length ≤ 6 := fun k L h => by
        unfold offs at h
        repeat' split at h
        all_goals first | (injection h with h; subst h; decide) | cases h
      rw [hn]; exact this _ _ ho
    have HNN := Lib.hid hn
    rw [← hn]
    have KS := Lib.hid (fun (w' : World) (h : w'.heap[g]? = w1.heap[g]?) => (⟨(World.cell?_of_block (w := w1) h).trans c0, (World.cell?_of_block (w := w1) h).trans c1, (World.cell?_of_block (w := w1) h).trans c2, (World.cell?_of_block (w := w1) h).trans c3, (World.cell?_of_block (w := w1) h).trans c4, (World.cell?_of_block (w := w1) h).trans c5, (World.cell?_of_block (w := w1) h).trans c6, (World.cell?_of_block (w := w1) h).trans c7, (World.cell?_of_block (w := w1) h).trans c8, (World.cell?_of_block (w := w1) h).trans c9⟩ : w'.cell? ⟨g, 0, none⟩ = some (.int .i64 k) ∧ w'.cell? ⟨g, 1, none⟩ = some (.int .i64 a1) ∧ w'.cell? ⟨g, 2, none⟩ = some (.int .i64 a2) ∧ w'.cell? ⟨g, 3, none⟩ = some (.int .i64 a3) ∧ w'.cell? ⟨g, 4, none⟩ = some (.int .i64 a4) ∧ w'.cell? ⟨g, 5, none⟩ = some (.int .i64 a5) ∧ w'.cell? ⟨g, 6, none⟩ = some (.int .i64 a6) ∧ w'.cell? ⟨g, 7, none⟩ = some (.int .i64 a7) ∧ w'.cell? ⟨g, 8, none⟩ = some (.int .i64 a8) ∧ w'.cell? ⟨g, 9, none⟩ = some (.int .i64 a9)))
    have hat : E.at 0 = k ∧ E.at 1 = a1 ∧ E.at 2 = a2 ∧ E.at 3 = a3 ∧ E.at 4 = a4 ∧ E.at 5 = a5 ∧ E.at 6 = a6 ∧ E.at 7 = a7 ∧ E.at 8 = a8 ∧ E.at 9 = a9 := by rw [HE.out]; exact ⟨rfl, rfl, rfl, rfl, rfl, rfl, rfl, rfl, rfl, rfl⟩
    have hbad : ∀ o, o < 10 → ¬ bare E L L.length o = E.at o → E.right = false := fun o h1 h2 => RB.out L (by rw [← ho]) h1 h2
    have hgood : (∀ o ∈ L, inR (E.at o) = true) → E.right = (List.range 10).all fun o => bare E L L.length o == E.at o := fun h => RE.out L (by rw [← ho]) h
    obtain ⟨x0, hx0⟩ : ∃ x, x = bare E L L.length 0 := ⟨_, rfl⟩
    obtain ⟨x1, hx1⟩ : ∃ x, x = bare E L L.length 1 := ⟨_, rfl⟩
    obtain ⟨x2, hx2⟩ : ∃ x, x = bare E L L.length 2 := ⟨_, rfl⟩
    obtain ⟨x3, hx3⟩ : ∃ x, x = bare E L L.length 3 := ⟨_, rfl⟩
    obtain ⟨x4, hx4⟩ : ∃ x, x = bare E L L.length 4 := ⟨_, rfl⟩
    obtain ⟨x5, hx5⟩ : ∃ x, x = bare E L L.length 5 := ⟨_, rfl⟩
    obtain ⟨x6, hx6⟩ : ∃ x, x = bare E L L.length 6 := ⟨_, rfl⟩
    obtain ⟨x7, hx7⟩ : ∃ x, x = bare E L L.length 7 := ⟨_, rfl⟩
    obtain ⟨x8, hx8⟩ : ∃ x, x = bare E L L.length 8 := ⟨_, rfl⟩
    obtain ⟨x9, hx9⟩ : ∃ x, x = bare E L L.length 9 := ⟨_, rfl⟩
    have hag : (Value.agg (bcells E L L.length)) = .agg (ecells x0 x1 x2 x3 x4 x5 x6 x7 x8 x9) := by unfold bcells; rw [hx0, hx1, hx2, hx3, hx4, hx5, hx6, hx7, hx8, hx9]; rfl
    have WC := Lib.hid (fun (w' : World) (hh : Below w1.heap.size w1 w') => ((by rw [HNN.out]; exact WA.out L ad w' (by rw [← HO.out, HE.out]) (HN.out.below hh) : Calls Try.prog 59 #[.int .i64 k, .slice ad n n] w' (WithP E L w')).mono (fun e w2 h => ⟨h.1.trans (by rw [hag]), h.2⟩) : Calls Try.prog 59 #[.int .i64 k, .slice ad n n] w' (fun e w2 => e = .returned (.agg (ecells x0 x1 x2 x3 x4 x5 x6 x7 x8 x9)) ∧ Below w'.heap.size w' w2)))
    have d : (¬ x0 = k) ∨ (x0 = k ∧ ¬ x1 = a1) ∨ (x0 = k ∧ x1 = a1 ∧ ¬ x2 = a2) ∨ (x0 = k ∧ x1 = a1 ∧ x2 = a2 ∧ ¬ x3 = a3) ∨ (x0 = k ∧ x1 = a1 ∧ x2 = a2 ∧ x3 = a3 ∧ ¬ x4 = a4) ∨ (x0 = k ∧ x1 = a1 ∧ x2 = a2 ∧ x3 = a3 ∧ x4 = a4 ∧ ¬ x5 = a5) ∨ (x0 = k ∧ x1 = a1 ∧ x2 = a2 ∧ x3 = a3 ∧ x4 = a4 ∧ x5 = a5 ∧ ¬ x6 = a6) ∨ (x0 = k ∧ x1 = a1 ∧ x2 = a2 ∧ x3 = a3 ∧ x4 = a4 ∧ x5 = a5 ∧ x6 = a6 ∧ ¬ x7 = a7) ∨ (x0 = k ∧ x1 = a1 ∧ x2 = a2 ∧ x3 = a3 ∧ x4 = a4 ∧ x5 = a5 ∧ x6 = a6 ∧ x7 = a7 ∧ ¬ x8 = a8) ∨ (x0 = k ∧ x1 = a1 ∧ x2 = a2 ∧ x3 = a3 ∧ x4 = a4 ∧ x5 = a5 ∧ x6 = a6 ∧ x7 = a7 ∧ x8 = a8 ∧ ¬ x9 = a9) ∨ (x0 = k ∧ x1 = a1 ∧ x2 = a2 ∧ x3 = a3 ∧ x4 = a4 ∧ x5 = a5 ∧ x6 = a6 ∧ x7 = a7 ∧ x8 = a8 ∧ x9 = a9) := by
      by_cases d0 : x0 = k
      rotate_left
      · exact .inl d0
      by_cases d1 : x1 = a1
      rotate_left
      · exact .inr (.inl ⟨d0, d1⟩)
      by_cases d2 : x2 = a2
      rotate_left
      · exact .inr (.inr (.inl ⟨d0, d1, d2⟩))
      by_cases d3 : x3 = a3
      rotate_left
      · exact .inr (.inr (.inr (.inl ⟨d0, d1, d2, d3⟩)))
      by_cases d4 : x4 = a4
      rotate_left
      · exact .inr (.inr (.inr (.inr (.inl ⟨d0, d1, d2, d3, d4⟩))))
      by_cases d5 : x5 = a5
      rotate_left
      · exact .inr (.inr (.inr (.inr (.inr (.inl ⟨d0, d1, d2, d3, d4, d5⟩)))))
      by_cases d6 : x6 = a6
      rotate_left
      · exact .inr (.inr (.inr (.inr (.inr (.inr (.inl ⟨d0, d1, d2, d3, d4, d5, d6⟩))))))
      by_cases d7 : x7 = a7
      rotate_left
      · exact .inr (.inr (.inr (.inr (.inr (.inr (.inr (.inl ⟨d0, d1, d2, d3, d4, d5, d6, d7⟩)))))))
      by_cases d8 : x8 = a8
      rotate_left
      · exact .inr (.inr (.inr (.inr (.inr (.inr (.inr (.inr (.inl ⟨d0, d1, d2, d3, d4, d5, d6, d7, d8⟩))))))))
      by_cases d9 : x9 = a9
      rotate_left
      · exact .inr (.inr (.inr (.inr (.inr (.inr (.inr (.inr (.inr (.inl ⟨d0, d1, d2, d3, d4, d5, d6, d7, d8, d9⟩)))))))))
      exact .inr (.inr (.inr (.inr (.inr (.inr (.inr (.inr (.inr (.inr (⟨d0, d1, d2, d3, d4, d5, d6, d7, d8, d9⟩))))))))))
    have HAT := Lib.hid hat
    have HBAD := Lib.hid hbad
    have HGOOD := Lib.hid hgood
    have HX := Lib.hid (And.intro hx0 (And.intro hx1 (And.intro hx2 (And.intro hx3 (And.intro hx4 (And.intro hx5 (And.intro hx6 (And.intro hx7 (And.intro hx8 hx9)))))))))
    clear hN ho hC hb1 hn hat hbad hgood hag hx0 hx1 hx2 hx3 hx4 hx5 hx6 hx7 hx8 hx9
    go_wp2_with fail
    rcases d with d0 | ⟨d0, d1⟩ | ⟨d0, d1, d2⟩ | ⟨d0, d1, d2, d3⟩ | ⟨d0, d1, d2, d3, d4⟩ | ⟨d0, d1, d2, d3, d4, d5⟩ | ⟨d0, d1, d2, d3, d4, d5, d6⟩ | ⟨d0, d1, d2, d3, d4, d5, d6, d7⟩ | ⟨d0, d1, d2, d3, d4, d5, d6, d7, d8⟩ | ⟨d0, d1, d2, d3, d4, d5, d6, d7, d8, d9⟩ | ⟨d0, d1, d2, d3, d4, d5, d6, d7, d8, d9⟩
    all_goals
      try have q0 : (x0 == k) = true := by simp [d0]
      try have q0 : (x0 == k) = false := beq_eq_false_iff_ne.2 d0
      try have q1 : (x1 == a1) = true := by simp [d1]
      try have q1 : (x1 == a1) = false := beq_eq_false_iff_ne.2 d1
      try have q2 : (x2 == a2) = true := by simp [d2]
      try have q2 : (x2 == a2) = false := beq_eq_false_iff_ne.2 d2
      try have q3 : (x3 == a3) = true := by simp [d3]
      try have q3 : (x3 == a3) = false := beq_eq_false_iff_ne.2 d3
      try have q4 : (x4 == a4) = true := by simp [d4]
      try have q4 : (x4 == a4) = false := beq_eq_false_iff_ne.2 d4
      try have q5 : (x5 == a5) = true := by simp [d5]
      try have q5 : (x5 == a5) = false := beq_eq_false_iff_ne.2 d5
      try have q6 : (x6 == a6) = true := by simp [d6]
      try have q6 : (x6 == a6) = false := beq_eq_false_iff_ne.2 d6
      try have q7 : (x7 == a7) = true := by simp [d7]
      try have q7 : (x7 == a7) = false := beq_eq_false_iff_ne.2 d7
      try have q8 : (x8 == a8) = true := by simp [d8]
      try have q8 : (x8 == a8) = false := beq_eq_false_iff_ne.2 d8
      try have q9 : (x9 == a9) = true := by simp [d9]
      try have q9 : (x9 == a9) = false := beq_eq_false_iff_ne.2 d9
      go_region_held3 (fun w' => w'.cell? ⟨g, 0, none⟩ = some (.int .i64 k) ∧ w'.cell? ⟨g, 1, none⟩ = some (.int .i64 a1) ∧ w'.cell? ⟨g, 2, none⟩ = some (.int .i64 a2) ∧ w'.cell? ⟨g, 3, none⟩ = some (.int .i64 a3) ∧ w'.cell? ⟨g, 4, none⟩ = some (.int .i64 a4) ∧ w'.cell? ⟨g, 5, none⟩ = some (.int .i64 a5) ∧ w'.cell? ⟨g, 6, none⟩ = some (.int .i64 a6) ∧ w'.cell? ⟨g, 7, none⟩ = some (.int .i64 a7) ∧ w'.cell? ⟨g, 8, none⟩ = some (.int .i64 a8) ∧ w'.cell? ⟨g, 9, none⟩ = some (.int .i64 a9))
        (first
          | exact KS.out _ rfl
          | exact KS.out _ (HBC.out.block g hgl))
        (first
          | (go_at_call 59; refine (WC.out _ (Below.refl _ _).drew).mono ?_; rintro e w2 ⟨rfl, hbl⟩; have HBC := Lib.hid ((Below.refl w1.heap.size w1).trans (show Below w1.heap.size w1 w2 from ⟨hbl.os, hbl.tape, hbl.output, hbl.size, hbl.block⟩))))
    all_goals have HBF := Lib.hid (show Below w.heap.size w _ from HB1.out.trans (HBC.out.mono HB1.out.size))
    all_goals first
      | (have HR := Lib.hid (by first | exact HBAD.out 0 (by omega) (fun h => d0 (by rw [HX.out.1, h, HAT.out.1])) | exact HBAD.out 1 (by omega) (fun h => d1 (by rw [HX.out.2.1, h, HAT.out.2.1])) | exact HBAD.out 2 (by omega) (fun h => d2 (by rw [HX.out.2.2.1, h, HAT.out.2.2.1])) | exact HBAD.out 3 (by omega) (fun h => d3 (by rw [HX.out.2.2.2.1, h, HAT.out.2.2.2.1])) | exact HBAD.out 4 (by omega) (fun h => d4 (by rw [HX.out.2.2.2.2.1, h, HAT.out.2.2.2.2.1])) | exact HBAD.out 5 (by omega) (fun h => d5 (by rw [HX.out.2.2.2.2.2.1, h, HAT.out.2.2.2.2.2.1])) | exact HBAD.out 6 (by omega) (fun h => d6 (by rw [HX.out.2.2.2.2.2.2.1, h, HAT.out.2.2.2.2.2.2.1])) | exact HBAD.out 7 (by omega) (fun h => d7 (by rw [HX.out.2.2.2.2.2.2.2.1, h, HAT.out.2.2.2.2.2.2.2.1])) | exact HBAD.out 8 (by omega) (fun h => d8 (by rw [HX.out.2.2.2.2.2.2.2.2.1, h, HAT.out.2.2.2.2.2.2.2.2.1])) | exact HBAD.out 9 (by omega) (fun h => d9 (by rw [HX.out.2.2.2.2.2.2.2.2.2, h, HAT.out.2.2.2.2.2.2.2.2.2])))
         go_wp2
         go_ret
         exact RetB1.mk HR.out.symm HBF.out)
      | skip

    have HN2 := Lib.hid (HN.out.below HBC.out)
    clear HN KS HB HC HBW
    have HEQ := Lib.hid (And.intro d0 (And.intro d1 (And.intro d2 (And.intro d3 (And.intro d4 (And.intro d5 (And.intro d6 (And.intro d7 (And.intro d8 d9)))))))))
    clear d0 d1 d2 d3 d4 d5 d6 d7 d8 d9 q0 q1 q2 q3 q4 q5 q6 q7 q8 q9 c0 c1 c2 c3 c4 c5 c6 c7 c8 c9
    go_wp2_with fail
    go_loopw [24] (fun iv wr => ∃ i : Nat, i ≤ n ∧ iv = .int .i64 i ∧ (∀ o ∈ L.take i, inR (E.at o) = true) ∧ wr = w2) (fun iv _ => n - (intOf iv).toNat)
    case atStart => exact ⟨0, by omega, rfl, fun o ho => by simp at ho, rfl⟩
    case round =>
      obtain ⟨i, hi, rfl, hin, rfl⟩ := hrel
      by_cases hlt : i < n
      · have hil : i < L.length := by rw [← HNN.out]; exact hlt
        obtain ⟨o, ho⟩ : ∃ o, o = L[i] := ⟨_, rfl⟩
        have hom : o ∈ L := by rw [ho]; exact List.getElem_mem hil
        obtain ⟨b, rfl, hb, cb⟩ := HN2.out i o (by rw [List.getElem?_eq_getElem hil, ho])
        obtain ⟨v, hv⟩ : ∃ v, v = E.at o := ⟨_, rfl⟩
        rw [← hv] at cb
        have hnx : inR v = true → ∀ o' ∈ L.take (i + 1), inR (E.at o') = true := by
          intro hvr o' ho'
          rw [List.take_succ_eq_append_getElem hil, List.mem_append, List.mem_singleton] at ho'
          rcases ho' with ho' | ho'
          · exact hin o' ho'
          · rw [ho', ← ho, ← hv]; exact hvr
        have HNX := Lib.hid hnx
        have hno : inR v = false → E.right = false := fun h => RN.out L (by rw [← HO.out, HE.out]) hom (by rw [← hv]; exact h)
        have HNO := Lib.hid hno
        clear hin hnx hno ho hv hom hb
        by_cases t1 : v < 0
        · have d1 : decide (v < 0) = true := decide_eq_true t1
          have HR := Lib.hid (HNO.out (inR_no (.inl t1)))
          clear HNX HNO
          go_wp2
          go_ret
          exact RetB1.mk HR.out.symm HBF.out
        · have d1 : decide (v < 0) = false := decide_eq_false t1
          by_cases t2 : 2147483647 < v
          · have d2 : decide (2147483647 < v) = true := decide_eq_true t2
            have HR := Lib.hid (HNO.out (inR_no (.inr t2)))
            clear HNX HNO
            go_wp2
            go_ret
            exact RetB1.mk HR.out.symm HBF.out
          · have d2 : decide (2147483647 < v) = false := decide_eq_false t2
            have HR := Lib.hid (HNX.out (inR_yes (by omega) (by omega)))
            clear HNX HNO
            go_wp2
            go_roundw
            case rel => exact ⟨i + 1, by omega, by go_num, HR.out, trivial⟩
            case measure => simp [intOf]; omega
      · have hend := HGOOD.out (fun o ho => hin o (by rw [List.take_of_length_le (by have := HNN.out; omega)]; exact ho))
        have hT : E.right = true := by
          rw [hend, List.all_eq_true]
          intro o ho
          have ho := List.mem_range.1 ho
          obtain ⟨h0, h1, h2, h3, h4, h5, h6, h7, h8, h9⟩ := HX.out
          obtain ⟨e0, e1, e2, e3, e4, e5, e6, e7, e8, e9⟩ := HEQ.out
          obtain ⟨f0, f1, f2, f3, f4, f5, f6, f7, f8, f9⟩ := HAT.out
          match o, ho with
          | 0, _ => rw [← h0, f0, e0]; simp
          | 1, _ => rw [← h1, f1, e1]; simp
          | 2, _ => rw [← h2, f2, e2]; simp
          | 3, _ => rw [← h3, f3, e3]; simp
          | 4, _ => rw [← h4, f4, e4]; simp
          | 5, _ => rw [← h5, f5, e5]; simp
          | 6, _ => rw [← h6, f6, e6]; simp
          | 7, _ => rw [← h7, f7, e7]; simp
          | 8, _ => rw [← h8, f8, e8]; simp
          | 9, _ => rw [← h9, f9, e9]; simp
        have HT := Lib.hid hT
        clear hend hin hT
        go_wp2
        go_ret
        exact RetB1.mk HT.out.symm HBF.out
end Go.Proofs.Ytopbhdpfakjkjaa.Event
