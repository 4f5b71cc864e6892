/- Proved: what a step's test in the document's world (greenhouselaw19) answers and leaves (a call). -/
import Derived.Test.YtopbhdpfakjkjaaLawStepD
namespace Go.Proofs.Ytopbhdpfakjkjaa.Aud
open Go.RowKit Go.Proofs.Ytopbhdpfakjkjaa.Histo Go.Proofs.Ytopbhdpfakjkjaa.Event Go.Proofs.Ytopbhdpfakjkjaa.Ring
set_option linter.unusedVariables false
open Go.Proofs.Ytopbhdpfakjkjaa.MapI (AL At Rng W64 At.alloc At.drew)
set_option maxHeartbeats 4000000 in
set_option maxRecDepth 100000 in
theorem lstep_call (F : Nat → Prop) (w0 : World) (a b2 b3 N : Nat) (s : AS) (ek en e2 es e4 e5 em e7 e8 e9 rk bx r2 r3 : Int) (cs : List Cmd) (ad : Option Addr) (n cap : Nat) (w : World) (hA : LWb F w0 a b2 b3 N s w) (hI : Inv s N) (hM : N + 1 + n ≤ 100000) (hcs : Cmds F w0 ad cs) (hcn : cs.length = n) (hr : Ev.right ⟨ek, en, e2, es, e4, e5, em, e7, e8, e9⟩ = true) (har : Ans.right ⟨rk, bx, r2, r3⟩ = true) (hk1 : ¬ rk = 1) (hk6 : ek = 6) (hk0 : ¬ rk = 0) :
    CALLT a ⟨ek, en, e2, es, e4, e5, em, e7, e8, e9⟩ ⟨rk, bx, r2, r3⟩ (.slice ad n cap) w (LOut F w0 a b2 b3 (N + 1 + n) (s.step ⟨⟨ek, en, e2, es, e4, e5, em, e7, e8, e9⟩, ⟨rk, bx, r2, r3⟩, cs⟩)) := by
  have HHR := Lib.hid hr
  have HAR := Lib.hid har
  have HK1 := Lib.hid hk1
  have HK6 := Lib.hid hk6
  have HK0 := Lib.hid hk0
  clear hr har hk1 hk6 hk0
  unfold CALLT scells
  simp only
  have hA1 := hA.next (show Below w.heap.size w (((w.alloc (.cells (scells ⟨ek, en, e2, es, e4, e5, em, e7, e8, e9⟩ ⟨rk, bx, r2, r3⟩ (.slice ad n cap)) 55)).alloc (.cells (ecells ek en e2 es e4 e5 em e7 e8 e9) 47)).alloc (.cells #[.int .i64 rk, .int .i64 bx, .int .i64 r2, .int .i64 r3] 52)) from by
    have h1 := two_new w (.cells (scells ⟨ek, en, e2, es, e4, e5, em, e7, e8, e9⟩ ⟨rk, bx, r2, r3⟩ (.slice ad n cap)) 55) (.cells (ecells ek en e2 es e4 e5 em e7 e8 e9) 47)
    exact h1.alloc h1.size _)
  have hC1 := cp_new w ⟨ek, en, e2, es, e4, e5, em, e7, e8, e9⟩ ⟨rk, bx, r2, r3⟩ (.slice ad n cap)
  have HI := Lib.hid hI
  have HM := Lib.hid hM
  have HCS := Lib.hid hcs
  have HCN := Lib.hid hcn
  clear hI hM hcs hcn hA
  obtain ⟨res, hres⟩ : ∃ r, r = s.step ⟨⟨ek, en, e2, es, e4, e5, em, e7, e8, e9⟩, ⟨rk, bx, r2, r3⟩, cs⟩ := ⟨_, rfl⟩
  rw [← hres]
  have HRES := Lib.hid hres
  clear hres
  go_enter Try.func39, Try.ntmps39
  go_wp2_with fail
  generalize ((w.alloc _).alloc _).alloc _ = W at hA1 hC1 ⊢
  generalize w.heap.size + 1 + 1 = ga at hC1 ⊢
  generalize w.heap.size + 1 = ge at hC1 ⊢
  generalize w.heap.size = g at hC1 ⊢
  have HA1 := Lib.hid hA1
  have HC1 := Lib.hid hC1
  clear hA1 hC1
  refine (lright_any ⟨ek, en, e2, es, e4, e5, em, e7, e8, e9⟩ W).mono ?_
  rintro e1 w1 ⟨rfl, hb1⟩
  rw [HHR.out]
  have HA2 := Lib.hid (HA1.out.next hb1)
  have HC2 := Lib.hid (HC1.out.next hb1)
  have HTAIL := Lib.hid (show res = match s.ahead ⟨ek, en, e2, es, e4, e5, em, e7, e8, e9⟩ with | none => none | some s1 => AS.tell2 (s1.cmds cs) ⟨⟨ek, en, e2, es, e4, e5, em, e7, e8, e9⟩, ⟨rk, bx, r2, r3⟩, cs⟩ by rw [HRES.out]; exact step_tail (x := ⟨⟨ek, en, e2, es, e4, e5, em, e7, e8, e9⟩, ⟨rk, bx, r2, r3⟩, cs⟩) HHR.out HAR.out HK1.out (.inl ⟨HK6.out, HK0.out⟩))
  clear HA1 HC1 hb1
  have HBD := Lib.hid (And.intro (right_bd (e := ⟨ek, en, e2, es, e4, e5, em, e7, e8, e9⟩) HHR.out (o := 1) (by omega) (by omega)) (And.intro (right_bd (e := ⟨ek, en, e2, es, e4, e5, em, e7, e8, e9⟩) HHR.out (o := 3) (by omega) (by omega)) (right_bd (e := ⟨ek, en, e2, es, e4, e5, em, e7, e8, e9⟩) HHR.out (o := 6) (by omega) (by omega))))
  have q1 : (rk == 1) = false := beq_eq_false_iff_ne.2 HK1.out
  have q6 : (ek == 6) = true := by simp [HK6.out]
  have q0 : (rk == 0) = false := beq_eq_false_iff_ne.2 HK0.out
  have q0' : (rk != 0) = true := by simp [bne, q0]
  have a0 : w1.cell? ⟨ga, 0, none⟩ = some (.int .i64 rk) := HC2.out.a.cell 0
  have a1 : w1.cell? ⟨ga, 1, none⟩ = some (.int .i64 bx) := HC2.out.a.cell 1
  have a2 : w1.cell? ⟨ga, 2, none⟩ = some (.int .i64 r2) := HC2.out.a.cell 2
  have a3 : w1.cell? ⟨ga, 3, none⟩ = some (.int .i64 r3) := HC2.out.a.cell 3
  go_wp2_with fail
  refine (aright_any ⟨rk, bx, r2, r3⟩ w1).mono ?_
  rintro e1 w2 ⟨rfl, hb2⟩
  rw [HAR.out]
  clear a0 a1 a2 a3
  have HA3 := Lib.hid (HA2.out.next hb2)
  have HC3 := Lib.hid (HC2.out.next hb2)
  clear HA2 HC2 hb2
  have a0 : w2.cell? ⟨ga, 0, none⟩ = some (.int .i64 rk) := HC3.out.a.cell 0
  have a1 : w2.cell? ⟨ga, 1, none⟩ = some (.int .i64 bx) := HC3.out.a.cell 1
  have x0 : w2.cell? ⟨ge, 0, none⟩ = some (.int .i64 ek) := HC3.out.e.cell 0
  have x1 : w2.cell? ⟨ge, 1, none⟩ = some (.int .i64 en) := HC3.out.e.cell 1
  have g14 : w2.cell? ⟨g, 14, none⟩ = some (.slice ad n cap) := HC3.out.g.cell 14
  go_wp2_with fail
  refine (lfind_any F w0 a b2 b3 N s en w2 HA3.out (by have := HM.out; omega)).mono ?_
  rintro e1 w3 ⟨rfl, hb3⟩
  have HA4 := Lib.hid (HA3.out.next hb3)
  have HC4 := Lib.hid (HC3.out.next hb3)
  clear HA3 HC3 hb3 a0 a1 x0 x1 g14
  have x0 : w3.cell? ⟨ge, 0, none⟩ = some (.int .i64 ek) := HC4.out.e.cell 0
  go_upto_block 0 with fail
  go_cut [8] (fun _ wx => ∃ s1, s.ahead ⟨ek, en, e2, es, e4, e5, em, e7, e8, e9⟩ = some s1 ∧ LWb F w0 a b2 b3 (N + 1) s1 wx ∧ Cp g ge ga ⟨ek, en, e2, es, e4, e5, em, e7, e8, e9⟩ ⟨rk, bx, r2, r3⟩ (.slice ad n cap) wx)
  case first =>
    clear x0
    have hk6 := HK6.out
    have x0 : w3.cell? ⟨ge, 0, none⟩ = some (.int .i64 ek) := HC4.out.e.cell 0
    have x1 : w3.cell? ⟨ge, 1, none⟩ = some (.int .i64 en) := HC4.out.e.cell 1
    have x3 : w3.cell? ⟨ge, 3, none⟩ = some (.int .i64 es) := HC4.out.e.cell 3
    have x6 : w3.cell? ⟨ge, 6, none⟩ = some (.int .i64 em) := HC4.out.e.cell 6
    have ca1 : w3.cell? ⟨a, 1, none⟩ = some (.map (some b2)) := by obtain ⟨v, ha, _⟩ := HA4.out.row; exact ha.cell 1
    have ca2 : w3.cell? ⟨a, 2, none⟩ = some (.map (some b3)) := by obtain ⟨v, ha, _⟩ := HA4.out.row; exact ha.cell 2
    have hN1 : N ≤ 100000 := by have := HM.out; omega
    have k3 : ¬ ek = 3 := by omega
    have q3 : (ek == 3) = false := beq_eq_false_iff_ne.2 k3
    have k2 : ¬ ek = 2 := by omega
    have q2 : (ek == 2) = false := beq_eq_false_iff_ne.2 k2
    clear x3 x6 ca1 ca2
    have k7 : ¬ ek = 7 := by omega
    have q7 : (ek == 7) = false := beq_eq_false_iff_ne.2 k7
    have k9 : ¬ ek = 9 := by omega
    have q9 : (ek == 9) = false := beq_eq_false_iff_ne.2 k9
    have k8 : ¬ ek = 8 := by omega
    have q8 : (ek == 8) = false := beq_eq_false_iff_ne.2 k8
    have k5 : ¬ ek = 5 := by omega
    have q5 : (ek == 5) = false := beq_eq_false_iff_ne.2 k5
    have hah : s.ahead ⟨ek, en, e2, es, e4, e5, em, e7, e8, e9⟩ = some s := by unfold AS.ahead; simp [k3, k2, k7, k9, k8, k5]
    have HAH := Lib.hid hah
    clear hah k3 k2 k7 k9 k8 k5 hk6
    go_wp2
    go_meet
    exact ⟨_, HAH.out, HA4.out.mono (show N ≤ N + 1 by omega), HC4.out⟩
  case rest =>
    obtain ⟨s1, hs1, hA5, hC5⟩ := hcut
    clear x0 HA4 HC4
    have HI1 := Lib.hid ((HI.out.ahead hs1).mono (show N ≤ N + 1 by omega))
    have HT2 := Lib.hid (show res = AS.tell2 (s1.cmds cs) ⟨⟨ek, en, e2, es, e4, e5, em, e7, e8, e9⟩, ⟨rk, bx, r2, r3⟩, cs⟩ by rw [HTAIL.out, hs1])
    have g14 : wc.cell? ⟨g, 14, none⟩ = some (.slice ad n cap) := hC5.g.cell 14
    have HA5 := Lib.hid hA5
    have HC5 := Lib.hid hC5
    clear hA5 hC5 hs1 HTAIL
    go_wp2_with fail
    clear g14
    go_loopw [174] (fun iv wr => ∃ i : Nat, i ≤ n ∧ iv = .int .i64 i ∧ ∃ s', s1.cmds (cs.take i) = some s' ∧ LWb F w0 a b2 b3 (N + 1 + i) s' wr ∧ Inv s' (N + 1 + i) ∧ Cp g ge ga ⟨ek, en, e2, es, e4, e5, em, e7, e8, e9⟩ ⟨rk, bx, r2, r3⟩ (.slice ad n cap) wr) (fun iv _ => n - (intOf iv).toNat)
    case atStart => exact ⟨0, by omega, rfl, s1, rfl, HA5.out, HI1.out, HC5.out⟩
    case round =>
      obtain ⟨i, hi, rfl, s', hst, hAr, hIr, hCr⟩ := hrel
      have hM := HM.out
      have hcn := HCN.out
      have hnb : n ≤ 100000 := by omega
      by_cases hlt : i < n
      · have hil : i < cs.length := by omega
        obtain ⟨c, hc⟩ : ∃ c, c = cs[i] := ⟨_, rfl⟩
        obtain ⟨hw, b, off, rfl, hb, hnf, h0, h1, h2, h3⟩ := HCS.out i c (by rw [List.getElem?_eq_getElem hil, hc])
        have hbk := hAr.below.block b hb hnf
        have d0 : wr.cell? ⟨b, off + i * 4, none⟩ = some (.bool c.boot) := by rw [← h0]; exact World.cell?_of_block (w := w0) hbk
        have d1 : wr.cell? ⟨b, off + i * 4 + 1, none⟩ = some (.int .i64 c.box) := by rw [← h1]; exact World.cell?_of_block (w := w0) hbk
        have d2 : wr.cell? ⟨b, off + i * 4 + 2, none⟩ = some (.int .i64 c.fn) := by rw [← h2]; exact World.cell?_of_block (w := w0) hbk
        have d3 : wr.cell? ⟨b, off + i * 4 + 3, none⟩ = some (.int .i64 c.host) := by rw [← h3]; exact World.cell?_of_block (w := w0) hbk
        have hsn : s1.cmds (cs.take (i + 1)) = s'.command c := by rw [List.take_succ_eq_append_getElem hil, AS.cmds_snoc, hst, ← hc]
        have HSN := Lib.hid hsn
        have HAr := Lib.hid hAr
        have HIr := Lib.hid hIr
        have HCr := Lib.hid hCr
        have HW := Lib.hid hw
        clear hsn hAr hIr hCr hw hst hc h0 h1 h2 h3 hbk hb hnf hcn
        go_wp2_with fail
        generalize hW : wr.alloc _ = wq
        have bq : Below wr.heap.size wr wq := by rw [← hW]; exact (Below.refl _ _).alloc (Nat.le_refl _) _
        have hAq := HAr.out.next bq
        have hCq := HCr.out.next bq
        obtain ⟨G, hG1, hG2, hG3⟩ := hAq.base
        have hcall := lcommand_all G wq a b2 b3 (N + 1 + i) s' c wq hG1 (by omega) HIr.out HW.out
        have HAq := Lib.hid hAq
        have HCq := Lib.hid hCq
        have HG := Lib.hid (And.intro hG2 hG3)
        have HCALL := Lib.hid hcall
        clear hW bq hAq hCq hcall hG1 hG2 hG3 d0 d1 d2 d3 HAr HCr hM
        refine (HCALL.out).mono ?_
        rintro e1 w4 (⟨ho, rfl, hb3⟩ | ⟨s3, ho, rfl, hb3⟩)
        · have HR := Lib.hid (show res = none by
            rw [HT2.out, AS.cmds_none (n := i + 1) (by rw [HSN.out]; exact ho)]; rfl)
          have HO := Lib.hid (HAq.out.below.trans hb3 (fun k _ hk => HG.out.1 k hk))
          clear hb3 ho
          go_wp2
          go_ret
          exact LOut.no HR.out rfl HO.out
        · have hnext := HAq.out.rebase hb3 HG.out.1
          have HN2 := Lib.hid hnext
          have HC2 := Lib.hid (HCq.out.only hb3.below HG.out.2)
          have HI2 := Lib.hid (HIr.out.command ho)
          have HS2 := Lib.hid (HSN.out.trans ho)
          clear hb3 hnext ho
          go_wp2
          go_roundw
          case rel => exact ⟨i + 1, by omega, by go_num, s3, HS2.out, HN2.out, HI2.out, HC2.out⟩
          case measure => simp [intOf]; omega
      · have hall : s1.cmds cs = some s' := by rw [← hst, List.take_of_length_le (by omega)]
        obtain rfl : n = i := by omega
        have HT3 := Lib.hid (show res = AS.tell2 (some s') ⟨⟨ek, en, e2, es, e4, e5, em, e7, e8, e9⟩, ⟨rk, bx, r2, r3⟩, cs⟩ by rw [HT2.out, hall])
        have HAr := Lib.hid hAr
        have HCr := Lib.hid hCr
        have HIr := Lib.hid hIr
        clear hAr hIr hCr hst hall hM hcn HT2
        have hcall : res = s'.call ⟨ek, en, e2, es, e4, e5, em, e7, e8, e9⟩ ⟨rk, bx, r2, r3⟩ n := by rw [HT3.out]; unfold AS.tell2; simp only [HK6.out, if_true]; rw [HCN.out]
        have HCL := Lib.hid hcall
        have hrk : 0 ≤ rk ∧ rk ≤ 4 := aright_kind HAR.out
        have u0 : wr.cell? ⟨ga, 0, none⟩ = some (.int .i64 rk) := HCr.out.a.cell 0
        have u1 : wr.cell? ⟨ga, 1, none⟩ = some (.int .i64 bx) := HCr.out.a.cell 1
        have u3 : wr.cell? ⟨g, 14, none⟩ = some (.slice ad n cap) := HCr.out.g.cell 14
        clear hcall HT3
        by_cases k4 : rk = 4
        · have q4 : (rk == 4) = true := by simp [k4]
          by_cases hn0 : n = 0
          · have d1 : ((n : Int) == 0) = true := by simp [hn0]
            have HR := Lib.hid (show res = some s' by rw [HCL.out]; unfold AS.call; simp [k4, hn0])
            clear k4 hn0 hrk
            go_wp2
            go_ret
            exact LOut.yes HR.out rfl HAr.out
          · have d1 : ((n : Int) == 0) = false := beq_eq_false_iff_ne.2 (by omega)
            have HR := Lib.hid (show res = none by rw [HCL.out]; unfold AS.call; simp [k4, hn0])
            clear k4 hn0 hrk
            go_wp2
            go_ret
            exact LOut.no HR.out rfl HAr.out.below
        have q4 : (rk == 4) = false := beq_eq_false_iff_ne.2 k4
        have hk23 : rk = 2 ∨ rk = 3 := by have := HK0.out; have := HK1.out; omega
        have HK23 := Lib.hid hk23
        clear k4 hrk hk23
        go_wp2_with fail
        refine (lfind_any F w0 a b2 b3 (N + 1 + n) s' bx wr HAr.out (by have := HM.out; omega)).mono ?_
        rintro e1 w5 ⟨rfl, hb5⟩
        have HA6 := Lib.hid (HAr.out.next hb5)
        have HC6 := Lib.hid (HCr.out.next hb5)
        clear HAr HCr hb5 u0 u1 u3
        cases hf : s'.find bx with
        | none =>
          rw [idx_none bx _ _ hf]
          have HR := Lib.hid (show res = none by rw [HCL.out]; unfold AS.call; rcases HK23.out with h | h <;> simp [h, hf])
          clear hf
          go_wp2
          go_quiet (fail)
          go_wp2
          go_ret
          exact LOut.no HR.out rfl (HA6.out.below.drewN _)
        | some t =>
          obtain ⟨i, hx, ht, hil, hid⟩ := idx_some bx _ 0 t hf
          rw [hx, Int.zero_add]
          have i0' : (0 : Int) ≤ (i : Int) := by omega
          have i2 : decide ((i : Int) < 0) = false := decide_eq_false (by omega)
          obtain ⟨m, hm⟩ : ∃ m, m = s'.boxes.length := ⟨_, rfl⟩
          have i1 : (i : Int) < (m : Int) := by omega
          have HML := Lib.hid hm
          have HF := Lib.hid hf
          clear hf hx hm hil
          obtain ⟨gr, cap1, hb, hcap, _, _, z1, _, z3, z4⟩ := HA6.out.at ht
          have ca0 : w5.cell? ⟨a, 0, none⟩ = some (.slice (some ⟨gr, 0, none⟩) m cap1) := by rw [HML.out]; exact hb.cell 0
          have ca3 : w5.cell? ⟨a, 3, none⟩ = some (.int .i64 s'.next) := hb.cell 3
          have u0 : w5.cell? ⟨ga, 0, none⟩ = some (.int .i64 rk) := HC6.out.a.cell 0
          have u1 : w5.cell? ⟨ga, 1, none⟩ = some (.int .i64 bx) := HC6.out.a.cell 1
          have u2 : w5.cell? ⟨ge, 1, none⟩ = some (.int .i64 en) := HC6.out.e.cell 1
          have u3 : w5.cell? ⟨g, 14, none⟩ = some (.slice ad n cap) := HC6.out.g.cell 14
          by_cases b1 : t.busy = true
          · have HR := Lib.hid (show res = none by rw [HCL.out]; unfold AS.call; rcases HK23.out with h | h <;> simp [h, HF.out, b1])
            rw [b1] at z4
            clear ht hb hcap hid b1
            go_wp2
            go_quiet (fail)
            go_wp2
            go_ret
            exact LOut.no HR.out rfl (HA6.out.below.drewN _)
          rw [Bool.not_eq_true] at b1
          rw [b1] at z4
          by_cases b2' : t.fn = en
          rotate_left
          · have HR := Lib.hid (show res = none by rw [HCL.out]; unfold AS.call; rcases HK23.out with h | h <;> simp [h, HF.out, b2'])
            have p1 : (t.fn == en) = false := beq_eq_false_iff_ne.2 b2'
            have p1' : (t.fn != en) = true := by simp [bne, p1]
            clear ht hb hcap hid b1 b2'
            go_wp2
            go_quiet (fail)
            go_wp2
            go_ret
            exact LOut.no HR.out rfl (HA6.out.below.drewN _)
          have p1 : (t.fn == en) = true := by simp [b2']
          have p1' : (t.fn != en) = false := by simp [bne, p1]
          have HB1 := Lib.hid b1
          have HB2 := Lib.hid b2'
          have HTT := Lib.hid (And.intro ht hid)
          clear ht hb hcap hid b1 b2'
          go_wp2
          go_quiet (fail)
          clear ca0 ca3 u0 u1 u2 u3 z1 z3 z4
          generalize hgen : w5.drewN _ = W7
          have HA7 := Lib.hid (show LWb F w0 a b2 b3 (N + 1 + n) s' W7 by rw [← hgen]; exact HA6.out.drewN _)
          have HC7 := Lib.hid (show Cp g ge ga ⟨ek, en, e2, es, e4, e5, em, e7, e8, e9⟩ ⟨rk, bx, r2, r3⟩ (.slice ad n cap) W7 by rw [← hgen]; exact HC6.out.drewN _)
          clear hgen HA6 HC6
          have ht := HTT.out.1
          obtain ⟨gr, cap1, hb, hcap, _, _, z1, _, z3, z4⟩ := HA7.out.at ht
          have ca0 : W7.cell? ⟨a, 0, none⟩ = some (.slice (some ⟨gr, 0, none⟩) m cap1) := by rw [HML.out]; exact hb.cell 0
          have ca3 : W7.cell? ⟨a, 3, none⟩ = some (.int .i64 s'.next) := hb.cell 3
          have u0 : W7.cell? ⟨ga, 0, none⟩ = some (.int .i64 rk) := HC7.out.a.cell 0
          have u1 : W7.cell? ⟨ga, 1, none⟩ = some (.int .i64 bx) := HC7.out.a.cell 1
          have u2 : W7.cell? ⟨ge, 1, none⟩ = some (.int .i64 en) := HC7.out.e.cell 1
          have u3 : W7.cell? ⟨g, 14, none⟩ = some (.slice ad n cap) := HC7.out.g.cell 14
          have hn1 := HIr.out.n1
          have hn2 := HIr.out.n2
          have hsub : IntKind.i64.wrap (s'.next - 1) = s'.next - 1 := IntWalk.i64_in _ (by have := HM.out; omega)
          have hsub2 : wrap64 (s'.next - 1) = s'.next - 1 := IntWalk.wrap64_in _ (by have := HM.out; omega)
          clear hn1 hn2 hcap hb ht
          rcases HK23.out with k | k
          · have q2 : (rk == 2) = true := by simp [k]
            have q3 : (rk == 3) = false := beq_eq_false_iff_ne.2 (by omega)
            cases b3' : t.boots with
            | true =>
              have HR := Lib.hid (show res = none by rw [HCL.out]; unfold AS.call; simp [k, HF.out, b3'])
              rw [b3'] at z3
              clear b3' k
              go_wp2
              go_quiet (fail)
              go_wp2
              go_ret
              exact LOut.no HR.out rfl (HA7.out.below.drewN _)
            | false =>
              rw [b3'] at z3
              by_cases hn0 : 0 < n
              · have d1 : decide ((0 : Int) < (n : Int)) = true := decide_eq_true (by omega)
                have d2 : decide (0 < n) = true := decide_eq_true hn0
                have HR := Lib.hid (show res = none by rw [HCL.out]; unfold AS.call; simp [k, HF.out, hn0])
                clear b3' k hn0
                go_wp2
                go_quiet (fail)
                go_wp2
                go_ret
                exact LOut.no HR.out rfl (HA7.out.below.drewN _)
              · have d1 : decide ((0 : Int) < (n : Int)) = false := decide_eq_false (by omega)
                have d2 : decide (0 < n) = false := decide_eq_false hn0
                have HR := Lib.hid (show res = some (s'.upd bx fun t => { t with busy := true }) by rw [HCL.out]; unfold AS.call; simp [k, HF.out, hn0, b3', HB1.out, HB2.out])
                clear b3' k hn0
                go_wp2
                go_quiet (fail)
                clear ca0 ca3 u0 u1 u2 u3 z1 z3 z4
                generalize hgen : W7.drewN _ = W8
                have HA8 := Lib.hid (show LWb F w0 a b2 b3 (N + 1 + n) s' W8 by rw [← hgen]; exact HA7.out.drewN _)
                clear hgen HA7 HC7
                obtain ⟨gr8, cap8, hb, hcap, _, _, _, _, _, z4⟩ := HA8.out.at HTT.out.1
                have ca0 : W8.cell? ⟨a, 0, none⟩ = some (.slice (some ⟨gr8, 0, none⟩) m cap8) := by rw [HML.out]; exact hb.cell 0
                have hfz := (HA8.out.frz hb).1 (i * 5 + 4)
                have hT := HA8.out.turn HTT.out.1 (fun t => { t with busy := true }) (fun _ => ⟨rfl, rfl, rfl⟩) 4 (.bool true) (by omega) rfl hb
                rw [HTT.out.2] at hT
                have HT := Lib.hid hT
                clear hT hb hcap
                go_wp2
                go_ret
                exact LOut.yes HR.out rfl HT.out
          · have q2 : (rk == 2) = false := beq_eq_false_iff_ne.2 (by omega)
            have q3 : (rk == 3) = true := by simp [k]
            cases b3' : t.boots with
            | false =>
              have HR := Lib.hid (show res = none by rw [HCL.out]; unfold AS.call; simp [k, HF.out, b3'])
              rw [b3'] at z3
              clear b3' k
              go_wp2
              go_quiet (fail)
              go_wp2
              go_ret
              exact LOut.no HR.out rfl (HA7.out.below.drewN _)
            | true =>
              rw [b3'] at z3
              by_cases hn0 : bx = s'.next - 1
              rotate_left
              · have d1 : (bx == s'.next - 1) = false := beq_eq_false_iff_ne.2 hn0
                have d1' : (bx != s'.next - 1) = true := by simp [bne, d1]
                have HR := Lib.hid (show res = none by rw [HCL.out]; unfold AS.call; simp [k, HF.out, hn0])
                clear b3' k hn0
                go_wp2
                go_quiet (fail)
                go_wp2
                go_ret
                exact LOut.no HR.out rfl (HA7.out.below.drewN _)
              · have d1 : (bx == s'.next - 1) = true := by simp [hn0]
                have d1' : (bx != s'.next - 1) = false := by simp [bne, d1]
                have HR := Lib.hid (show res = some (s'.upd bx fun t => { t with busy := true }) by rw [HCL.out]; unfold AS.call; rw [if_neg (show ¬ rk = 2 by omega), if_pos (show rk = 3 from k)]; simp only [HF.out]; rw [if_neg (by rintro (h | h | h | h); (rw [b3'] at h; cases h); (rw [HB1.out] at h; cases h); exact h HB2.out; exact h hn0)])
                clear b3' k hn0
                go_wp2
                go_quiet (fail)
                clear ca0 ca3 u0 u1 u2 u3 z1 z3 z4
                generalize hgen : W7.drewN _ = W8
                have HA8 := Lib.hid (show LWb F w0 a b2 b3 (N + 1 + n) s' W8 by rw [← hgen]; exact HA7.out.drewN _)
                clear hgen HA7 HC7
                obtain ⟨gr8, cap8, hb, hcap, _, _, _, _, _, z4⟩ := HA8.out.at HTT.out.1
                have ca0 : W8.cell? ⟨a, 0, none⟩ = some (.slice (some ⟨gr8, 0, none⟩) m cap8) := by rw [HML.out]; exact hb.cell 0
                have hfz := (HA8.out.frz hb).1 (i * 5 + 4)
                have hT := HA8.out.turn HTT.out.1 (fun t => { t with busy := true }) (fun _ => ⟨rfl, rfl, rfl⟩) 4 (.bool true) (by omega) rfl hb
                rw [HTT.out.2] at hT
                have HT := Lib.hid hT
                clear hT hb hcap
                go_wp2
                go_ret
                exact LOut.yes HR.out rfl HT.out
end Go.Proofs.Ytopbhdpfakjkjaa.Aud
