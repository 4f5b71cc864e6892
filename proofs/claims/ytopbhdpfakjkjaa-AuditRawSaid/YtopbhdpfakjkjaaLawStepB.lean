/- Proved: what a step's test in the document's world (greenhouselaw19) answers and leaves (a boot or a call has come to its end). -/
import Derived.Test.YtopbhdpfakjkjaaLawStepD
namespace Go.Proofs.Ytopbhdpfakjkjaa.Aud
open Go.RowKit Go.Proofs.Ytopbhdpfakjkjaa.Histo Go.Proofs.Ytopbhdpfakjkjaa.Event Go.Proofs.Ytopbhdpfakjkjaa.Ring
set_option linter.unusedVariables false
open Go.Proofs.Ytopbhdpfakjkjaa.MapI (AL At Rng W64 At.alloc At.drew)
set_option maxHeartbeats 4000000 in
set_option maxRecDepth 100000 in
theorem lstep_79 (F : Nat → Prop) (w0 : World) (a b2 b3 N : Nat) (s : AS) (ek en e2 es e4 e5 em e7 e8 e9 rk bx r2 r3 : Int) (cs : List Cmd) (ad : Option Addr) (n cap : Nat) (w : World) (hA : LWb F w0 a b2 b3 N s w) (hI : Inv s N) (hM : N + 1 + n ≤ 100000) (hcs : Cmds F w0 ad cs) (hcn : cs.length = n) (hr : Ev.right ⟨ek, en, e2, es, e4, e5, em, e7, e8, e9⟩ = true) (har : Ans.right ⟨rk, bx, r2, r3⟩ = true) (hk1 : ¬ rk = 1) (hk6 : ¬ ek = 6) (hk0 : rk = 0) (hgrp : ek = 7 ∨ ek = 9) :
    CALLT a ⟨ek, en, e2, es, e4, e5, em, e7, e8, e9⟩ ⟨rk, bx, r2, r3⟩ (.slice ad n cap) w (LOut F w0 a b2 b3 (N + 1 + n) (s.step ⟨⟨ek, en, e2, es, e4, e5, em, e7, e8, e9⟩, ⟨rk, bx, r2, r3⟩, cs⟩)) := by
  have HHR := Lib.hid hr
  have HAR := Lib.hid har
  have HK1 := Lib.hid hk1
  have HK6 := Lib.hid hk6
  have HK0 := Lib.hid hk0
  have HGRP := Lib.hid hgrp
  clear hgrp
  clear hr har hk1 hk6 hk0
  unfold CALLT scells
  simp only
  have hA1 := hA.next (show Below w.heap.size w (((w.alloc (.cells (scells ⟨ek, en, e2, es, e4, e5, em, e7, e8, e9⟩ ⟨rk, bx, r2, r3⟩ (.slice ad n cap)) 55)).alloc (.cells (ecells ek en e2 es e4 e5 em e7 e8 e9) 47)).alloc (.cells #[.int .i64 rk, .int .i64 bx, .int .i64 r2, .int .i64 r3] 52)) from by
    have h1 := two_new w (.cells (scells ⟨ek, en, e2, es, e4, e5, em, e7, e8, e9⟩ ⟨rk, bx, r2, r3⟩ (.slice ad n cap)) 55) (.cells (ecells ek en e2 es e4 e5 em e7 e8 e9) 47)
    exact h1.alloc h1.size _)
  have hC1 := cp_new w ⟨ek, en, e2, es, e4, e5, em, e7, e8, e9⟩ ⟨rk, bx, r2, r3⟩ (.slice ad n cap)
  have HI := Lib.hid hI
  have HM := Lib.hid hM
  have HCS := Lib.hid hcs
  have HCN := Lib.hid hcn
  clear hI hM hcs hcn hA
  obtain ⟨res, hres⟩ : ∃ r, r = s.step ⟨⟨ek, en, e2, es, e4, e5, em, e7, e8, e9⟩, ⟨rk, bx, r2, r3⟩, cs⟩ := ⟨_, rfl⟩
  rw [← hres]
  have HRES := Lib.hid hres
  clear hres
  go_enter Try.func39, Try.ntmps39
  go_wp2_with fail
  generalize ((w.alloc _).alloc _).alloc _ = W at hA1 hC1 ⊢
  generalize w.heap.size + 1 + 1 = ga at hC1 ⊢
  generalize w.heap.size + 1 = ge at hC1 ⊢
  generalize w.heap.size = g at hC1 ⊢
  have HA1 := Lib.hid hA1
  have HC1 := Lib.hid hC1
  clear hA1 hC1
  refine (lright_any ⟨ek, en, e2, es, e4, e5, em, e7, e8, e9⟩ W).mono ?_
  rintro e1 w1 ⟨rfl, hb1⟩
  rw [HHR.out]
  have HA2 := Lib.hid (HA1.out.next hb1)
  have HC2 := Lib.hid (HC1.out.next hb1)
  have HTAIL := Lib.hid (show res = match s.ahead ⟨ek, en, e2, es, e4, e5, em, e7, e8, e9⟩ with | none => none | some s1 => AS.tell2 (s1.cmds cs) ⟨⟨ek, en, e2, es, e4, e5, em, e7, e8, e9⟩, ⟨rk, bx, r2, r3⟩, cs⟩ by rw [HRES.out]; exact step_tail (x := ⟨⟨ek, en, e2, es, e4, e5, em, e7, e8, e9⟩, ⟨rk, bx, r2, r3⟩, cs⟩) HHR.out HAR.out HK1.out (.inr ⟨HK6.out, HK0.out⟩))
  clear HA1 HC1 hb1
  have HBD := Lib.hid (And.intro (right_bd (e := ⟨ek, en, e2, es, e4, e5, em, e7, e8, e9⟩) HHR.out (o := 1) (by omega) (by omega)) (And.intro (right_bd (e := ⟨ek, en, e2, es, e4, e5, em, e7, e8, e9⟩) HHR.out (o := 3) (by omega) (by omega)) (right_bd (e := ⟨ek, en, e2, es, e4, e5, em, e7, e8, e9⟩) HHR.out (o := 6) (by omega) (by omega))))
  have q1 : (rk == 1) = false := beq_eq_false_iff_ne.2 HK1.out
  have q6 : (ek == 6) = false := beq_eq_false_iff_ne.2 HK6.out
  have q0 : (rk == 0) = true := by simp [HK0.out]
  have q0' : (rk != 0) = false := by simp [bne, q0]
  have a0 : w1.cell? ⟨ga, 0, none⟩ = some (.int .i64 rk) := HC2.out.a.cell 0
  have a1 : w1.cell? ⟨ga, 1, none⟩ = some (.int .i64 bx) := HC2.out.a.cell 1
  have a2 : w1.cell? ⟨ga, 2, none⟩ = some (.int .i64 r2) := HC2.out.a.cell 2
  have a3 : w1.cell? ⟨ga, 3, none⟩ = some (.int .i64 r3) := HC2.out.a.cell 3
  go_wp2_with fail
  refine (aright_any ⟨rk, bx, r2, r3⟩ w1).mono ?_
  rintro e1 w2 ⟨rfl, hb2⟩
  rw [HAR.out]
  clear a0 a1 a2 a3
  have HA3 := Lib.hid (HA2.out.next hb2)
  have HC3 := Lib.hid (HC2.out.next hb2)
  clear HA2 HC2 hb2
  have a0 : w2.cell? ⟨ga, 0, none⟩ = some (.int .i64 rk) := HC3.out.a.cell 0
  have a1 : w2.cell? ⟨ga, 1, none⟩ = some (.int .i64 bx) := HC3.out.a.cell 1
  have x0 : w2.cell? ⟨ge, 0, none⟩ = some (.int .i64 ek) := HC3.out.e.cell 0
  have x1 : w2.cell? ⟨ge, 1, none⟩ = some (.int .i64 en) := HC3.out.e.cell 1
  have g14 : w2.cell? ⟨g, 14, none⟩ = some (.slice ad n cap) := HC3.out.g.cell 14
  go_wp2_with fail
  refine (lfind_any F w0 a b2 b3 N s en w2 HA3.out (by have := HM.out; omega)).mono ?_
  rintro e1 w3 ⟨rfl, hb3⟩
  have HA4 := Lib.hid (HA3.out.next hb3)
  have HC4 := Lib.hid (HC3.out.next hb3)
  clear HA3 HC3 hb3 a0 a1 x0 x1 g14
  have x0 : w3.cell? ⟨ge, 0, none⟩ = some (.int .i64 ek) := HC4.out.e.cell 0
  go_upto_block 0 with fail
  go_cut [8] (fun _ wx => ∃ s1, s.ahead ⟨ek, en, e2, es, e4, e5, em, e7, e8, e9⟩ = some s1 ∧ LWb F w0 a b2 b3 (N + 1) s1 wx ∧ Cp g ge ga ⟨ek, en, e2, es, e4, e5, em, e7, e8, e9⟩ ⟨rk, bx, r2, r3⟩ (.slice ad n cap) wx)
  case first =>
    clear x0
    have hgrp := HGRP.out
    have hk6 := HK6.out
    have x0 : w3.cell? ⟨ge, 0, none⟩ = some (.int .i64 ek) := HC4.out.e.cell 0
    have x1 : w3.cell? ⟨ge, 1, none⟩ = some (.int .i64 en) := HC4.out.e.cell 1
    have x3 : w3.cell? ⟨ge, 3, none⟩ = some (.int .i64 es) := HC4.out.e.cell 3
    have x6 : w3.cell? ⟨ge, 6, none⟩ = some (.int .i64 em) := HC4.out.e.cell 6
    have ca1 : w3.cell? ⟨a, 1, none⟩ = some (.map (some b2)) := by obtain ⟨v, ha, _⟩ := HA4.out.row; exact ha.cell 1
    have ca2 : w3.cell? ⟨a, 2, none⟩ = some (.map (some b3)) := by obtain ⟨v, ha, _⟩ := HA4.out.row; exact ha.cell 2
    have hN1 : N ≤ 100000 := by have := HM.out; omega
    have k3 : ¬ ek = 3 := by omega
    have q3 : (ek == 3) = false := beq_eq_false_iff_ne.2 k3
    have k2 : ¬ ek = 2 := by omega
    have q2 : (ek == 2) = false := beq_eq_false_iff_ne.2 k2
    clear x3 x6 ca1 ca2
    by_cases k7 : ek = 7
    · have q7 : (ek == 7) = true := by simp [k7]
      cases hf : s.find en with
      | none =>
        rw [idx_none en _ _ hf]
        have HR := Lib.hid (show res = none by rw [HTAIL.out]; have : s.ahead ⟨ek, en, e2, es, e4, e5, em, e7, e8, e9⟩ = none := by unfold AS.ahead; simp [k7, hf]
                                               rw [this])
        clear hf k7 k3 k2
        go_wp2
        go_ret
        exact LOut.no HR.out rfl HA4.out.below
      | some t =>
        obtain ⟨i, hx, ht, hil, hid⟩ := idx_some en _ 0 t hf
        rw [hx, Int.zero_add]
        obtain ⟨gr, cap', ha, hcap, _, _, _, _, y3, y4⟩ := HA4.out.at ht
        have hfz := (HA4.out.frz ha).1 (i * 5 + 3)
        have ca0 := ha.cell 0
        have i0' : (0 : Int) ≤ (i : Int) := by omega
        have i1 : (i : Int) < (s.boxes.length : Int) := by omega
        have i2 : decide ((i : Int) < 0) = false := decide_eq_false (by omega)
        cases hb : t.boots with
        | false =>
          rw [hb] at y3
          have HR := Lib.hid (show res = none by rw [HTAIL.out]; have : s.ahead ⟨ek, en, e2, es, e4, e5, em, e7, e8, e9⟩ = none := by unfold AS.ahead; simp [k7, hf, hb]
                                                 rw [this])
          clear hf k7 k3 k2 ha hx ht hb hfz
          go_wp2
          go_ret
          exact LOut.no HR.out rfl HA4.out.below
        | true =>
          rw [hb] at y3
          have hah : s.ahead ⟨ek, en, e2, es, e4, e5, em, e7, e8, e9⟩ = some (s.upd en fun t => { t with boots := false }) := by unfold AS.ahead; simp [k7, hf, hb]
          have hT := HA4.out.turn ht (fun t => { t with boots := false }) (fun _ => ⟨rfl, rfl, rfl⟩) 3 (.bool false) (by omega) rfl ha
          rw [hid] at hT
          have HT := Lib.hid (hT.mono (show N ≤ N + 1 by omega))
          have hne := (HA4.out.frz ha).2
          have HCF := Lib.hid (HC4.out.far (p := ⟨gr, i * 5 + 3, none⟩) (u := .bool false) (hne _ _ _ HC4.out.g (by decide)) (hne _ _ _ HC4.out.e (by decide)) (hne _ _ _ HC4.out.a (by decide)))
          have HAH := Lib.hid hah
          clear hf k7 k3 k2 ha hx ht hb hT hah hne hid
          go_wp2
          go_meet
          exact ⟨_, HAH.out, HT.out, HCF.out⟩
    have q7 : (ek == 7) = false := beq_eq_false_iff_ne.2 k7
    by_cases k9 : ek = 9
    · have q9 : (ek == 9) = true := by simp [k9]
      cases hf : s.find en with
      | none =>
        rw [idx_none en _ _ hf]
        have HR := Lib.hid (show res = none by rw [HTAIL.out]; have : s.ahead ⟨ek, en, e2, es, e4, e5, em, e7, e8, e9⟩ = none := by unfold AS.ahead; simp [k9, hf]
                                               rw [this])
        clear hf k9 k7 k3 k2
        go_wp2
        go_ret
        exact LOut.no HR.out rfl HA4.out.below
      | some t =>
        obtain ⟨i, hx, ht, hil, hid⟩ := idx_some en _ 0 t hf
        rw [hx, Int.zero_add]
        obtain ⟨gr, cap', ha, hcap, _, _, _, _, y3, y4⟩ := HA4.out.at ht
        have hfz := (HA4.out.frz ha).1 (i * 5 + 4)
        have ca0 := ha.cell 0
        have i0' : (0 : Int) ≤ (i : Int) := by omega
        have i1 : (i : Int) < (s.boxes.length : Int) := by omega
        have i2 : decide ((i : Int) < 0) = false := decide_eq_false (by omega)
        by_cases hbb : t.boots = true ∨ t.busy = false
        · have HR := Lib.hid (show res = none by rw [HTAIL.out]; have : s.ahead ⟨ek, en, e2, es, e4, e5, em, e7, e8, e9⟩ = none := by unfold AS.ahead; simp [k9, hf, hbb]
                                                 rw [this])
          cases hb : t.boots with
          | true =>
            rw [hb] at y3
            clear hf k9 k7 k3 k2 ha hx ht hb hfz hbb
            go_wp2
            go_ret
            exact LOut.no HR.out rfl HA4.out.below
          | false =>
            cases hc : t.busy with
            | true => exfalso; rw [hb, hc] at hbb; simp at hbb
            | false =>
              rw [hb] at y3
              rw [hc] at y4
              clear hf k9 k7 k3 k2 ha hx ht hb hc hfz hbb
              go_wp2
              go_ret
              exact LOut.no HR.out rfl HA4.out.below
        · have hah : s.ahead ⟨ek, en, e2, es, e4, e5, em, e7, e8, e9⟩ = some (s.upd en fun t => { t with busy := false }) := by unfold AS.ahead; simp [k9, hf, hbb]
          rw [show t.boots = false by cases h : t.boots with | false => rfl | true => exact absurd (.inl h) hbb] at y3
          rw [show t.busy = true by cases h : t.busy with | true => rfl | false => exact absurd (.inr h) hbb] at y4
          have hT := HA4.out.turn ht (fun t => { t with busy := false }) (fun _ => ⟨rfl, rfl, rfl⟩) 4 (.bool false) (by omega) rfl ha
          rw [hid] at hT
          have HT := Lib.hid (hT.mono (show N ≤ N + 1 by omega))
          have hne := (HA4.out.frz ha).2
          have HCF := Lib.hid (HC4.out.far (p := ⟨gr, i * 5 + 4, none⟩) (u := .bool false) (hne _ _ _ HC4.out.g (by decide)) (hne _ _ _ HC4.out.e (by decide)) (hne _ _ _ HC4.out.a (by decide)))
          have HAH := Lib.hid hah
          clear hf k9 k7 k3 k2 ha hx ht hbb hT hah hne hid
          go_wp2
          go_meet
          exact ⟨_, HAH.out, HT.out, HCF.out⟩
    have q9 : (ek == 9) = false := beq_eq_false_iff_ne.2 k9
    have k8 : ¬ ek = 8 := by omega
    have q8 : (ek == 8) = false := beq_eq_false_iff_ne.2 k8
    have k5 : ¬ ek = 5 := by omega
    have q5 : (ek == 5) = false := beq_eq_false_iff_ne.2 k5
    exfalso
    omega
  case rest =>
    obtain ⟨s1, hs1, hA5, hC5⟩ := hcut
    clear x0 HA4 HC4
    have HI1 := Lib.hid ((HI.out.ahead hs1).mono (show N ≤ N + 1 by omega))
    have HT2 := Lib.hid (show res = AS.tell2 (s1.cmds cs) ⟨⟨ek, en, e2, es, e4, e5, em, e7, e8, e9⟩, ⟨rk, bx, r2, r3⟩, cs⟩ by rw [HTAIL.out, hs1])
    have g14 : wc.cell? ⟨g, 14, none⟩ = some (.slice ad n cap) := hC5.g.cell 14
    have HA5 := Lib.hid hA5
    have HC5 := Lib.hid hC5
    clear hA5 hC5 hs1 HTAIL
    go_wp2_with fail
    clear g14
    go_loopw [174] (fun iv wr => ∃ i : Nat, i ≤ n ∧ iv = .int .i64 i ∧ ∃ s', s1.cmds (cs.take i) = some s' ∧ LWb F w0 a b2 b3 (N + 1 + i) s' wr ∧ Inv s' (N + 1 + i) ∧ Cp g ge ga ⟨ek, en, e2, es, e4, e5, em, e7, e8, e9⟩ ⟨rk, bx, r2, r3⟩ (.slice ad n cap) wr) (fun iv _ => n - (intOf iv).toNat)
    case atStart => exact ⟨0, by omega, rfl, s1, rfl, HA5.out, HI1.out, HC5.out⟩
    case round =>
      obtain ⟨i, hi, rfl, s', hst, hAr, hIr, hCr⟩ := hrel
      have hM := HM.out
      have hcn := HCN.out
      have hnb : n ≤ 100000 := by omega
      by_cases hlt : i < n
      · have hil : i < cs.length := by omega
        obtain ⟨c, hc⟩ : ∃ c, c = cs[i] := ⟨_, rfl⟩
        obtain ⟨hw, b, off, rfl, hb, hnf, h0, h1, h2, h3⟩ := HCS.out i c (by rw [List.getElem?_eq_getElem hil, hc])
        have hbk := hAr.below.block b hb hnf
        have d0 : wr.cell? ⟨b, off + i * 4, none⟩ = some (.bool c.boot) := by rw [← h0]; exact World.cell?_of_block (w := w0) hbk
        have d1 : wr.cell? ⟨b, off + i * 4 + 1, none⟩ = some (.int .i64 c.box) := by rw [← h1]; exact World.cell?_of_block (w := w0) hbk
        have d2 : wr.cell? ⟨b, off + i * 4 + 2, none⟩ = some (.int .i64 c.fn) := by rw [← h2]; exact World.cell?_of_block (w := w0) hbk
        have d3 : wr.cell? ⟨b, off + i * 4 + 3, none⟩ = some (.int .i64 c.host) := by rw [← h3]; exact World.cell?_of_block (w := w0) hbk
        have hsn : s1.cmds (cs.take (i + 1)) = s'.command c := by rw [List.take_succ_eq_append_getElem hil, AS.cmds_snoc, hst, ← hc]
        have HSN := Lib.hid hsn
        have HAr := Lib.hid hAr
        have HIr := Lib.hid hIr
        have HCr := Lib.hid hCr
        have HW := Lib.hid hw
        clear hsn hAr hIr hCr hw hst hc h0 h1 h2 h3 hbk hb hnf hcn
        go_wp2_with fail
        generalize hW : wr.alloc _ = wq
        have bq : Below wr.heap.size wr wq := by rw [← hW]; exact (Below.refl _ _).alloc (Nat.le_refl _) _
        have hAq := HAr.out.next bq
        have hCq := HCr.out.next bq
        obtain ⟨G, hG1, hG2, hG3⟩ := hAq.base
        have hcall := lcommand_all G wq a b2 b3 (N + 1 + i) s' c wq hG1 (by omega) HIr.out HW.out
        have HAq := Lib.hid hAq
        have HCq := Lib.hid hCq
        have HG := Lib.hid (And.intro hG2 hG3)
        have HCALL := Lib.hid hcall
        clear hW bq hAq hCq hcall hG1 hG2 hG3 d0 d1 d2 d3 HAr HCr hM
        refine (HCALL.out).mono ?_
        rintro e1 w4 (⟨ho, rfl, hb3⟩ | ⟨s3, ho, rfl, hb3⟩)
        · have HR := Lib.hid (show res = none by
            rw [HT2.out, AS.cmds_none (n := i + 1) (by rw [HSN.out]; exact ho)]; rfl)
          have HO := Lib.hid (HAq.out.below.trans hb3 (fun k _ hk => HG.out.1 k hk))
          clear hb3 ho
          go_wp2
          go_ret
          exact LOut.no HR.out rfl HO.out
        · have hnext := HAq.out.rebase hb3 HG.out.1
          have HN2 := Lib.hid hnext
          have HC2 := Lib.hid (HCq.out.only hb3.below HG.out.2)
          have HI2 := Lib.hid (HIr.out.command ho)
          have HS2 := Lib.hid (HSN.out.trans ho)
          clear hb3 hnext ho
          go_wp2
          go_roundw
          case rel => exact ⟨i + 1, by omega, by go_num, s3, HS2.out, HN2.out, HI2.out, HC2.out⟩
          case measure => simp [intOf]; omega
      · have hall : s1.cmds cs = some s' := by rw [← hst, List.take_of_length_le (by omega)]
        obtain rfl : n = i := by omega
        have HT3 := Lib.hid (show res = AS.tell2 (some s') ⟨⟨ek, en, e2, es, e4, e5, em, e7, e8, e9⟩, ⟨rk, bx, r2, r3⟩, cs⟩ by rw [HT2.out, hall])
        have HAr := Lib.hid hAr
        have HCr := Lib.hid hCr
        have HIr := Lib.hid hIr
        clear hAr hIr hCr hst hall hM hcn HT2
        have HR := Lib.hid (show res = some s' by rw [HT3.out]; unfold AS.tell2; simp [HK6.out])
        go_wp2
        go_ret
        exact LOut.yes HR.out rfl HAr.out
end Go.Proofs.Ytopbhdpfakjkjaa.Aud
