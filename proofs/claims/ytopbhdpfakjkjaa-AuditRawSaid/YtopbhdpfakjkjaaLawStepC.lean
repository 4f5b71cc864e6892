/- Proved: what a step's test in the document's world (greenhouselaw19) answers and leaves (a sandbox or a host is gone; nothing). -/
import Derived.Test.YtopbhdpfakjkjaaLawStepD
namespace Go.Proofs.Ytopbhdpfakjkjaa.Aud
open Go.RowKit Go.Proofs.Ytopbhdpfakjkjaa.Histo Go.Proofs.Ytopbhdpfakjkjaa.Event Go.Proofs.Ytopbhdpfakjkjaa.Ring
set_option linter.unusedVariables false
open Go.Proofs.Ytopbhdpfakjkjaa.MapI (AL At Rng W64 At.alloc At.drew)
set_option maxHeartbeats 4000000 in
set_option maxRecDepth 100000 in
theorem lstep_85 (F : Nat → Prop) (w0 : World) (a b2 b3 N : Nat) (s : AS) (ek en e2 es e4 e5 em e7 e8 e9 rk bx r2 r3 : Int) (cs : List Cmd) (ad : Option Addr) (n cap : Nat) (w : World) (hA : LWb F w0 a b2 b3 N s w) (hI : Inv s N) (hM : N + 1 + n ≤ 100000) (hcs : Cmds F w0 ad cs) (hcn : cs.length = n) (hr : Ev.right ⟨ek, en, e2, es, e4, e5, em, e7, e8, e9⟩ = true) (har : Ans.right ⟨rk, bx, r2, r3⟩ = true) (hk1 : ¬ rk = 1) (hk6 : ¬ ek = 6) (hk0 : rk = 0) (hgrp : ek = 8 ∨ ek = 5) :
    CALLT a ⟨ek, en, e2, es, e4, e5, em, e7, e8, e9⟩ ⟨rk, bx, r2, r3⟩ (.slice ad n cap) w (LOut F w0 a b2 b3 (N + 1 + n) (s.step ⟨⟨ek, en, e2, es, e4, e5, em, e7, e8, e9⟩, ⟨rk, bx, r2, r3⟩, cs⟩)) := by
  have HHR := Lib.hid hr
  have HAR := Lib.hid har
  have HK1 := Lib.hid hk1
  have HK6 := Lib.hid hk6
  have HK0 := Lib.hid hk0
  have HGRP := Lib.hid hgrp
  clear hgrp
  clear hr har hk1 hk6 hk0
  unfold CALLT scells
  simp only
  have hA1 := hA.next (show Below w.heap.size w (((w.alloc (.cells (scells ⟨ek, en, e2, es, e4, e5, em, e7, e8, e9⟩ ⟨rk, bx, r2, r3⟩ (.slice ad n cap)) 55)).alloc (.cells (ecells ek en e2 es e4 e5 em e7 e8 e9) 47)).alloc (.cells #[.int .i64 rk, .int .i64 bx, .int .i64 r2, .int .i64 r3] 52)) from by
    have h1 := two_new w (.cells (scells ⟨ek, en, e2, es, e4, e5, em, e7, e8, e9⟩ ⟨rk, bx, r2, r3⟩ (.slice ad n cap)) 55) (.cells (ecells ek en e2 es e4 e5 em e7 e8 e9) 47)
    exact h1.alloc h1.size _)
  have hC1 := cp_new w ⟨ek, en, e2, es, e4, e5, em, e7, e8, e9⟩ ⟨rk, bx, r2, r3⟩ (.slice ad n cap)
  have HI := Lib.hid hI
  have HM := Lib.hid hM
  have HCS := Lib.hid hcs
  have HCN := Lib.hid hcn
  clear hI hM hcs hcn hA
  obtain ⟨res, hres⟩ : ∃ r, r = s.step ⟨⟨ek, en, e2, es, e4, e5, em, e7, e8, e9⟩, ⟨rk, bx, r2, r3⟩, cs⟩ := ⟨_, rfl⟩
  rw [← hres]
  have HRES := Lib.hid hres
  clear hres
  go_enter Try.func39, Try.ntmps39
  go_wp2_with fail
  generalize ((w.alloc _).alloc _).alloc _ = W at hA1 hC1 ⊢
  generalize w.heap.size + 1 + 1 = ga at hC1 ⊢
  generalize w.heap.size + 1 = ge at hC1 ⊢
  generalize w.heap.size = g at hC1 ⊢
  have HA1 := Lib.hid hA1
  have HC1 := Lib.hid hC1
  clear hA1 hC1
  refine (lright_any ⟨ek, en, e2, es, e4, e5, em, e7, e8, e9⟩ W).mono ?_
  rintro e1 w1 ⟨rfl, hb1⟩
  rw [HHR.out]
  have HA2 := Lib.hid (HA1.out.next hb1)
  have HC2 := Lib.hid (HC1.out.next hb1)
  have HTAIL := Lib.hid (show res = match s.ahead ⟨ek, en, e2, es, e4, e5, em, e7, e8, e9⟩ with | none => none | some s1 => AS.tell2 (s1.cmds cs) ⟨⟨ek, en, e2, es, e4, e5, em, e7, e8, e9⟩, ⟨rk, bx, r2, r3⟩, cs⟩ by rw [HRES.out]; exact step_tail (x := ⟨⟨ek, en, e2, es, e4, e5, em, e7, e8, e9⟩, ⟨rk, bx, r2, r3⟩, cs⟩) HHR.out HAR.out HK1.out (.inr ⟨HK6.out, HK0.out⟩))
  clear HA1 HC1 hb1
  have HBD := Lib.hid (And.intro (right_bd (e := ⟨ek, en, e2, es, e4, e5, em, e7, e8, e9⟩) HHR.out (o := 1) (by omega) (by omega)) (And.intro (right_bd (e := ⟨ek, en, e2, es, e4, e5, em, e7, e8, e9⟩) HHR.out (o := 3) (by omega) (by omega)) (right_bd (e := ⟨ek, en, e2, es, e4, e5, em, e7, e8, e9⟩) HHR.out (o := 6) (by omega) (by omega))))
  have q1 : (rk == 1) = false := beq_eq_false_iff_ne.2 HK1.out
  have q6 : (ek == 6) = false := beq_eq_false_iff_ne.2 HK6.out
  have q0 : (rk == 0) = true := by simp [HK0.out]
  have q0' : (rk != 0) = false := by simp [bne, q0]
  have a0 : w1.cell? ⟨ga, 0, none⟩ = some (.int .i64 rk) := HC2.out.a.cell 0
  have a1 : w1.cell? ⟨ga, 1, none⟩ = some (.int .i64 bx) := HC2.out.a.cell 1
  have a2 : w1.cell? ⟨ga, 2, none⟩ = some (.int .i64 r2) := HC2.out.a.cell 2
  have a3 : w1.cell? ⟨ga, 3, none⟩ = some (.int .i64 r3) := HC2.out.a.cell 3
  go_wp2_with fail
  refine (aright_any ⟨rk, bx, r2, r3⟩ w1).mono ?_
  rintro e1 w2 ⟨rfl, hb2⟩
  rw [HAR.out]
  clear a0 a1 a2 a3
  have HA3 := Lib.hid (HA2.out.next hb2)
  have HC3 := Lib.hid (HC2.out.next hb2)
  clear HA2 HC2 hb2
  have a0 : w2.cell? ⟨ga, 0, none⟩ = some (.int .i64 rk) := HC3.out.a.cell 0
  have a1 : w2.cell? ⟨ga, 1, none⟩ = some (.int .i64 bx) := HC3.out.a.cell 1
  have x0 : w2.cell? ⟨ge, 0, none⟩ = some (.int .i64 ek) := HC3.out.e.cell 0
  have x1 : w2.cell? ⟨ge, 1, none⟩ = some (.int .i64 en) := HC3.out.e.cell 1
  have g14 : w2.cell? ⟨g, 14, none⟩ = some (.slice ad n cap) := HC3.out.g.cell 14
  go_wp2_with fail
  refine (lfind_any F w0 a b2 b3 N s en w2 HA3.out (by have := HM.out; omega)).mono ?_
  rintro e1 w3 ⟨rfl, hb3⟩
  have HA4 := Lib.hid (HA3.out.next hb3)
  have HC4 := Lib.hid (HC3.out.next hb3)
  clear HA3 HC3 hb3 a0 a1 x0 x1 g14
  have x0 : w3.cell? ⟨ge, 0, none⟩ = some (.int .i64 ek) := HC4.out.e.cell 0
  go_upto_block 0 with fail
  go_cut [8] (fun _ wx => ∃ s1, s.ahead ⟨ek, en, e2, es, e4, e5, em, e7, e8, e9⟩ = some s1 ∧ LWb F w0 a b2 b3 (N + 1) s1 wx ∧ Cp g ge ga ⟨ek, en, e2, es, e4, e5, em, e7, e8, e9⟩ ⟨rk, bx, r2, r3⟩ (.slice ad n cap) wx)
  case first =>
    clear x0
    have hgrp := HGRP.out
    have hk6 := HK6.out
    have x0 : w3.cell? ⟨ge, 0, none⟩ = some (.int .i64 ek) := HC4.out.e.cell 0
    have x1 : w3.cell? ⟨ge, 1, none⟩ = some (.int .i64 en) := HC4.out.e.cell 1
    have x3 : w3.cell? ⟨ge, 3, none⟩ = some (.int .i64 es) := HC4.out.e.cell 3
    have x6 : w3.cell? ⟨ge, 6, none⟩ = some (.int .i64 em) := HC4.out.e.cell 6
    have ca1 : w3.cell? ⟨a, 1, none⟩ = some (.map (some b2)) := by obtain ⟨v, ha, _⟩ := HA4.out.row; exact ha.cell 1
    have ca2 : w3.cell? ⟨a, 2, none⟩ = some (.map (some b3)) := by obtain ⟨v, ha, _⟩ := HA4.out.row; exact ha.cell 2
    have hN1 : N ≤ 100000 := by have := HM.out; omega
    have k3 : ¬ ek = 3 := by omega
    have q3 : (ek == 3) = false := beq_eq_false_iff_ne.2 k3
    have k2 : ¬ ek = 2 := by omega
    have q2 : (ek == 2) = false := beq_eq_false_iff_ne.2 k2
    clear x3 x6 ca1 ca2
    have k7 : ¬ ek = 7 := by omega
    have q7 : (ek == 7) = false := beq_eq_false_iff_ne.2 k7
    have k9 : ¬ ek = 9 := by omega
    have q9 : (ek == 9) = false := beq_eq_false_iff_ne.2 k9
    by_cases k8 : ek = 8
    · have q8 : (ek == 8) = true := by simp [k8]
      cases hf : s.find en with
      | none =>
        rw [idx_none en _ _ hf]
        have HR := Lib.hid (show res = none by rw [HTAIL.out]; have : s.ahead ⟨ek, en, e2, es, e4, e5, em, e7, e8, e9⟩ = none := by unfold AS.ahead; simp [k8, hf]
                                               rw [this])
        clear hf k8 k9 k7 k3 k2
        go_wp2
        go_ret
        exact LOut.no HR.out rfl HA4.out.below
      | some t =>
        obtain ⟨i, hx, ht, hil, hid⟩ := idx_some en _ 0 t hf
        rw [hx, Int.zero_add]
        have hah : s.ahead ⟨ek, en, e2, es, e4, e5, em, e7, e8, e9⟩ = some (s.drop en) := by unfold AS.ahead; simp [k8, hf]
        have i2 : decide ((i : Int) < 0) = false := decide_eq_false (by omega)
        obtain ⟨G, hG1, hG2, hG3⟩ := HA4.out.base
        have hcall := ldrop_any G w3 a b2 b3 N s i t w3 hG1 hN1 ht
        have HCALL := Lib.hid hcall
        have HG := Lib.hid (And.intro hG2 hG3)
        have HID := Lib.hid hid
        have HAH := Lib.hid hah
        clear hf k8 k9 k7 k3 k2 hx ht hah hid hG1 hG2 hG3 hcall
        go_wp2_with fail
        refine (HCALL.out).mono ?_
        rintro e w4 ⟨rfl, hd⟩
        rw [HID.out] at hd
        have HD := Lib.hid (HA4.out.rebase hd HG.out.1)
        have HCF := Lib.hid (HC4.out.only hd.below HG.out.2)
        clear hd
        go_wp2
        go_meet
        exact ⟨_, HAH.out, HD.out.mono (show N ≤ N + 1 by omega), HCF.out⟩
    have q8 : (ek == 8) = false := beq_eq_false_iff_ne.2 k8
    by_cases k5 : ek = 5
    · have q5 : (ek == 5) = true := by simp [k5]
      have hah : s.ahead ⟨ek, en, e2, es, e4, e5, em, e7, e8, e9⟩ = some (s.fail en) := by unfold AS.ahead; simp [k5]
      have HAH := Lib.hid hah
      obtain ⟨v, ha, hrow, hvF⟩ := HA4.out.row
      obtain ⟨ad0, cap0, rfl, hcap, hcell⟩ := row_open hrow
      obtain ⟨m, hm⟩ : ∃ m, m = s.boxes.length := ⟨_, rfl⟩
      rw [← hm] at ha
      have ca0 : w3.cell? ⟨a, 0, none⟩ = some (.slice ad0 m cap0) := ha.cell 0
      have hm1 : m ≤ 100000 := by rw [hm]; have := HA4.out.len; omega
      obtain ⟨i0, hi0, hz0, hz1, hz2⟩ := info_parts infoBox
      have HI0 := Lib.hid hi0
      have HZ0 := Lib.hid hz0
      have HZ1 := Lib.hid hz1
      have HZ2 := Lib.hid hz2
      have HMM := Lib.hid hm
      have HCELL := Lib.hid hcell
      have HBA := Lib.hid ha
      have HST := Lib.hid (World.ownsRow_lit (e := 92) (size := 5) w3 #[] 0 (Nat.le_refl _) (by decide) rfl)
      have HB0 := Lib.hid ((Below.refl w3.heap.size w3).alloc (Nat.le_refl _) (.cells #[] 92))
      have ca0' : (w3.alloc (.cells #[] 92)).cell? ⟨a, 0, none⟩ = some (.slice ad0 m cap0) := (HB0.out.cell (p := ⟨a, 0, none⟩) ha.lt).trans ca0
      clear hah hi0 hz0 hz1 hz2 hm hcell ha hrow hvF hcap k5 k8 k9 k7 k3 k2 hk6 hgrp
      go_wp2_with fail
      clear ca0 ca0'
      go_loopw [9, 147] (fun rv iv wr => ∃ i : Nat, i ≤ m ∧ iv = .int .i64 i ∧ ∃ k, wr.ownsRow w3.heap.size 92 5 rv k (rowL ((s.boxes.take i).filter fun t => t.host != en)) ∧ k = ((s.boxes.take i).filter fun t => t.host != en).length ∧ Below w3.heap.size w3 wr) (fun _ iv _ => m - (intOf iv).toNat)
      case atStart => exact ⟨0, by omega, rfl, 0, HST.out, rfl, HB0.out⟩
      case round =>
        obtain ⟨i, hi, rfl, k, hown, hk, hbl⟩ := hrel
        have hkm : k ≤ 100000 := by rw [hk]; exact Nat.le_trans (List.length_filter_le _ _) (by rw [List.length_take]; omega)
        by_cases hlt : i < m
        · have hil : i < s.boxes.length := by have := HMM.out; omega
          obtain ⟨t, ht⟩ : ∃ t, s.boxes[i]? = some t := ⟨_, List.getElem?_eq_getElem hil⟩
          have hsnoc : (s.boxes.take (i + 1)).filter (fun t => t.host != en) = (s.boxes.take i).filter (fun t => t.host != en) ++ if t.host != en then [t] else [] := by
            rw [List.getElem?_eq_getElem hil] at ht
            injection ht with ht
            rw [List.take_succ_eq_append_getElem hil, List.filter_append, ht, List.filter_cons, List.filter_nil]
          obtain ⟨gr, rfl, hgl, e0, _⟩ := HCELL.out (i * 5 + 0) (.int .i64 t.id) (by rw [rowL_get ht (by omega)]; rfl)
          obtain ⟨g1, hg1, _, e1', _⟩ := HCELL.out (i * 5 + 1) (.int .i64 t.fn) (by rw [rowL_get ht (by omega)]; rfl)
          obtain ⟨g2, hg2, _, e2', _⟩ := HCELL.out (i * 5 + 2) (.int .i64 t.host) (by rw [rowL_get ht (by omega)]; rfl)
          obtain ⟨g3, hg3, _, e3', _⟩ := HCELL.out (i * 5 + 3) (.bool t.boots) (by rw [rowL_get ht (by omega)]; rfl)
          obtain ⟨g4, hg4, _, e4', _⟩ := HCELL.out (i * 5 + 4) (.bool t.busy) (by rw [rowL_get ht (by omega)]; rfl)
          cases hg1; cases hg2; cases hg3; cases hg4
          have f := hbl.block gr hgl
          have d0 : wr.cell? ⟨gr, i * 5, none⟩ = some (.int .i64 t.id) := by rw [← e0]; exact World.cell?_of_block (w := w3) f
          have d1 : wr.cell? ⟨gr, i * 5 + 1, none⟩ = some (.int .i64 t.fn) := by rw [← e1']; exact World.cell?_of_block (w := w3) f
          have d2 : wr.cell? ⟨gr, i * 5 + 2, none⟩ = some (.int .i64 t.host) := by rw [← e2']; exact World.cell?_of_block (w := w3) f
          have d3 : wr.cell? ⟨gr, i * 5 + 3, none⟩ = some (.bool t.boots) := by rw [← e3']; exact World.cell?_of_block (w := w3) f
          have d4 : wr.cell? ⟨gr, i * 5 + 4, none⟩ = some (.bool t.busy) := by rw [← e4']; exact World.cell?_of_block (w := w3) f
          have hE := HC4.out.e.below hbl HC4.out.e.lt
          have y1 : wr.cell? ⟨ge, 1, none⟩ = some (.int .i64 en) := hE.cell 1
          have hal := (Below.refl wr.heap.size wr).alloc (Nat.le_refl _) (.cells #[.int .i64 t.id, .int .i64 t.fn, .int .i64 t.host, .bool t.boots, .bool t.busy] 92)
          have y1' : (wr.alloc (.cells #[.int .i64 t.id, .int .i64 t.fn, .int .i64 t.host, .bool t.boots, .bool t.busy] 92)).cell? ⟨ge, 1, none⟩ = some (.int .i64 en) := (hal.cell (p := ⟨ge, 1, none⟩) hE.lt).trans y1
          have HO := Lib.hid hown
          have HBL := Lib.hid hbl
          have HSN := Lib.hid hsnoc
          have HKK := Lib.hid hk
          clear e0 e1' e2' e3' e4' f hE hal hown hbl hsnoc hk ht hgl
          by_cases hh : t.host = en
          · have p1 : (t.host == en) = true := by simp [hh]
            have p2 : (t.host != en) = false := by simp [bne, p1]
            have HP := Lib.hid p2
            clear hh
            go_wp2_with fail
            go_roundw
            case rel => exact ⟨i + 1, by omega, by go_num, k, by rw [HSN.out, HP.out]; simpa using HO.out.alloc _, by rw [HSN.out, HP.out]; simpa using HKK.out, HBL.out.alloc HBL.out.size _⟩
            case measure => simp [intOf]; omega
          · have p1 : (t.host == en) = false := beq_eq_false_iff_ne.2 hh
            have p2 : (t.host != en) = true := by simp [bne, p1]
            have HP := Lib.hid p2
            clear hh
            go_wp2_with (at_builtin; refine wpList_append_own _ rfl _ _ 80 rfl w3.heap.size 92 i0 zeroBox 5 32 Try.underlying80 HI0.out HZ0.out HZ1.out HZ2.out rfl (by decide) _ k (rowL ((s.boxes.take i).filter fun t => t.host != en)) rfl ((HO.out.alloc _).alloc _) ⟨wr.heap.size + 1, 0, none⟩ 1 1 t.row rfl rfl ?c1 ?c2 ?c3 ?c4 ?c5 ?_)
            case c1 => exact row_news (wr.alloc _) t (Array.size_push ..).symm
            case c2 => exact th_one t
            case c3 => unfold maxLen; omega
            case c4 => omega
            case c5 => exact Nat.le_trans HBL.out.size (two_new wr _ _).size
            intro v' w5 hown5 hgrow5 _
            have hb5 : Below w3.heap.size w3 w5 := by
              have h1 := HBL.out.alloc HBL.out.size (.cells #[.int .i64 t.id, .int .i64 t.fn, .int .i64 t.host, .bool t.boots, .bool t.busy] 92)
              have h2 := h1.alloc h1.size (.cells #[.int .i64 t.id, .int .i64 t.fn, .int .i64 t.host, .bool t.boots, .bool t.busy] 92)
              exact h2.grown hgrow5 h2.size (fun q hq => (HO.out.lt q hq).1)
            have HN5 := Lib.hid (And.intro hown5 hb5)
            clear hown5 hgrow5 hb5
            go_wp2_with fail
            go_roundw
            case rel => exact ⟨i + 1, by omega, by go_num, k + 1, by rw [HSN.out, HP.out, if_pos rfl]; unfold rowL; rw [List.flatMap_append]; simpa [rowL] using HN5.out.1, by rw [HSN.out, HP.out, if_pos rfl, List.length_append, ← HKK.out]; rfl, HN5.out.2⟩
            case measure => simp [intOf]; omega
        · have hall : s.boxes.take i = s.boxes := List.take_of_length_le (by have := HMM.out; omega)
          rw [hall] at hown hk
          obtain ⟨ad1, cap1, rfl, _⟩ := row_open hown
          have hfin := HA4.out.rest hbl (by rw [← hk]; exact hown)
          have hcf := (HC4.out.next hbl).far (p := ⟨a, 0, none⟩) (u := .slice ad1 k cap1) (blk_neq HC4.out.g HBA.out (by decide)) (blk_neq HC4.out.e HBA.out (by decide)) (blk_neq HC4.out.a HBA.out (by decide))
          obtain ⟨w7, hrun, hm7, hg7, _⟩ := (At.drew hfin.m2).store (t := 75) Try.underlying3 Try.underlying75 (by unfold maxLen; omega) (x := en) (w31 HBD.out.1) (.int .i64 0)
          have HFIN := Lib.hid (hfin.drew.setSize hm7 hg7 (hfin.sz.put en 0 (by omega) (by omega)))
          have HCF := Lib.hid (hcf.drew.grown (At.drew hfin.m2) hg7)
          have hA := HBA.out.below hbl HBA.out.lt
          have hE := HC4.out.e.below hbl HC4.out.e.lt
          have y0 : wr.cell? ⟨a, 0, none⟩ = some (.slice ad0 m cap0) := hA.cell 0
          have yf := hA.frozen 0
          have y1 : wr.cell? ⟨a, 1, none⟩ = some (.map (some b2)) := hA.cell 1
          have z1 : wr.cell? ⟨ge, 1, none⟩ = some (.int .i64 en) := hE.cell 1
          have hA2 := hA.set_ 0 (.slice ad1 k cap1)
          have hE2 := hE.far (p := ⟨a, 0, none⟩) (blk_neq HC4.out.e HBA.out (by decide)) (.slice ad1 k cap1)
          have y1' : (wr.setCell ⟨a, 0, none⟩ (.slice ad1 k cap1)).cell? ⟨a, 1, none⟩ = some (.map (some b2)) := hA2.cell 1
          have z1' : (wr.setCell ⟨a, 0, none⟩ (.slice ad1 k cap1)).cell? ⟨ge, 1, none⟩ = some (.int .i64 en) := hE2.cell 1
          clear hall hown hk hfin hcf hm7 hg7 hA hE hA2 hE2 hbl
          go_wp2
          go_region
          go_wp2
          go_meet
          exact ⟨_, HAH.out, HFIN.out, HCF.out⟩
    have q5 : (ek == 5) = false := beq_eq_false_iff_ne.2 k5
    exfalso
    omega
  case rest =>
    obtain ⟨s1, hs1, hA5, hC5⟩ := hcut
    clear x0 HA4 HC4
    have HI1 := Lib.hid ((HI.out.ahead hs1).mono (show N ≤ N + 1 by omega))
    have HT2 := Lib.hid (show res = AS.tell2 (s1.cmds cs) ⟨⟨ek, en, e2, es, e4, e5, em, e7, e8, e9⟩, ⟨rk, bx, r2, r3⟩, cs⟩ by rw [HTAIL.out, hs1])
    have g14 : wc.cell? ⟨g, 14, none⟩ = some (.slice ad n cap) := hC5.g.cell 14
    have HA5 := Lib.hid hA5
    have HC5 := Lib.hid hC5
    clear hA5 hC5 hs1 HTAIL
    go_wp2_with fail
    clear g14
    go_loopw [174] (fun iv wr => ∃ i : Nat, i ≤ n ∧ iv = .int .i64 i ∧ ∃ s', s1.cmds (cs.take i) = some s' ∧ LWb F w0 a b2 b3 (N + 1 + i) s' wr ∧ Inv s' (N + 1 + i) ∧ Cp g ge ga ⟨ek, en, e2, es, e4, e5, em, e7, e8, e9⟩ ⟨rk, bx, r2, r3⟩ (.slice ad n cap) wr) (fun iv _ => n - (intOf iv).toNat)
    case atStart => exact ⟨0, by omega, rfl, s1, rfl, HA5.out, HI1.out, HC5.out⟩
    case round =>
      obtain ⟨i, hi, rfl, s', hst, hAr, hIr, hCr⟩ := hrel
      have hM := HM.out
      have hcn := HCN.out
      have hnb : n ≤ 100000 := by omega
      by_cases hlt : i < n
      · have hil : i < cs.length := by omega
        obtain ⟨c, hc⟩ : ∃ c, c = cs[i] := ⟨_, rfl⟩
        obtain ⟨hw, b, off, rfl, hb, hnf, h0, h1, h2, h3⟩ := HCS.out i c (by rw [List.getElem?_eq_getElem hil, hc])
        have hbk := hAr.below.block b hb hnf
        have d0 : wr.cell? ⟨b, off + i * 4, none⟩ = some (.bool c.boot) := by rw [← h0]; exact World.cell?_of_block (w := w0) hbk
        have d1 : wr.cell? ⟨b, off + i * 4 + 1, none⟩ = some (.int .i64 c.box) := by rw [← h1]; exact World.cell?_of_block (w := w0) hbk
        have d2 : wr.cell? ⟨b, off + i * 4 + 2, none⟩ = some (.int .i64 c.fn) := by rw [← h2]; exact World.cell?_of_block (w := w0) hbk
        have d3 : wr.cell? ⟨b, off + i * 4 + 3, none⟩ = some (.int .i64 c.host) := by rw [← h3]; exact World.cell?_of_block (w := w0) hbk
        have hsn : s1.cmds (cs.take (i + 1)) = s'.command c := by rw [List.take_succ_eq_append_getElem hil, AS.cmds_snoc, hst, ← hc]
        have HSN := Lib.hid hsn
        have HAr := Lib.hid hAr
        have HIr := Lib.hid hIr
        have HCr := Lib.hid hCr
        have HW := Lib.hid hw
        clear hsn hAr hIr hCr hw hst hc h0 h1 h2 h3 hbk hb hnf hcn
        go_wp2_with fail
        generalize hW : wr.alloc _ = wq
        have bq : Below wr.heap.size wr wq := by rw [← hW]; exact (Below.refl _ _).alloc (Nat.le_refl _) _
        have hAq := HAr.out.next bq
        have hCq := HCr.out.next bq
        obtain ⟨G, hG1, hG2, hG3⟩ := hAq.base
        have hcall := lcommand_all G wq a b2 b3 (N + 1 + i) s' c wq hG1 (by omega) HIr.out HW.out
        have HAq := Lib.hid hAq
        have HCq := Lib.hid hCq
        have HG := Lib.hid (And.intro hG2 hG3)
        have HCALL := Lib.hid hcall
        clear hW bq hAq hCq hcall hG1 hG2 hG3 d0 d1 d2 d3 HAr HCr hM
        refine (HCALL.out).mono ?_
        rintro e1 w4 (⟨ho, rfl, hb3⟩ | ⟨s3, ho, rfl, hb3⟩)
        · have HR := Lib.hid (show res = none by
            rw [HT2.out, AS.cmds_none (n := i + 1) (by rw [HSN.out]; exact ho)]; rfl)
          have HO := Lib.hid (HAq.out.below.trans hb3 (fun k _ hk => HG.out.1 k hk))
          clear hb3 ho
          go_wp2
          go_ret
          exact LOut.no HR.out rfl HO.out
        · have hnext := HAq.out.rebase hb3 HG.out.1
          have HN2 := Lib.hid hnext
          have HC2 := Lib.hid (HCq.out.only hb3.below HG.out.2)
          have HI2 := Lib.hid (HIr.out.command ho)
          have HS2 := Lib.hid (HSN.out.trans ho)
          clear hb3 hnext ho
          go_wp2
          go_roundw
          case rel => exact ⟨i + 1, by omega, by go_num, s3, HS2.out, HN2.out, HI2.out, HC2.out⟩
          case measure => simp [intOf]; omega
      · have hall : s1.cmds cs = some s' := by rw [← hst, List.take_of_length_le (by omega)]
        obtain rfl : n = i := by omega
        have HT3 := Lib.hid (show res = AS.tell2 (some s') ⟨⟨ek, en, e2, es, e4, e5, em, e7, e8, e9⟩, ⟨rk, bx, r2, r3⟩, cs⟩ by rw [HT2.out, hall])
        have HAr := Lib.hid hAr
        have HCr := Lib.hid hCr
        have HIr := Lib.hid hIr
        clear hAr hIr hCr hst hall hM hcn HT2
        have HR := Lib.hid (show res = some s' by rw [HT3.out]; unfold AS.tell2; simp [HK6.out])
        go_wp2
        go_ret
        exact LOut.yes HR.out rfl HAr.out
set_option maxHeartbeats 4000000 in
set_option maxRecDepth 100000 in
theorem lstep_else (F : Nat → Prop) (w0 : World) (a b2 b3 N : Nat) (s : AS) (ek en e2 es e4 e5 em e7 e8 e9 rk bx r2 r3 : Int) (cs : List Cmd) (ad : Option Addr) (n cap : Nat) (w : World) (hA : LWb F w0 a b2 b3 N s w) (hI : Inv s N) (hM : N + 1 + n ≤ 100000) (hcs : Cmds F w0 ad cs) (hcn : cs.length = n) (hr : Ev.right ⟨ek, en, e2, es, e4, e5, em, e7, e8, e9⟩ = true) (har : Ans.right ⟨rk, bx, r2, r3⟩ = true) (hk1 : ¬ rk = 1) (hk6 : ¬ ek = 6) (hk0 : rk = 0) (hgrp : ¬ ek = 3 ∧ ¬ ek = 2 ∧ ¬ ek = 7 ∧ ¬ ek = 9 ∧ ¬ ek = 8 ∧ ¬ ek = 5) :
    CALLT a ⟨ek, en, e2, es, e4, e5, em, e7, e8, e9⟩ ⟨rk, bx, r2, r3⟩ (.slice ad n cap) w (LOut F w0 a b2 b3 (N + 1 + n) (s.step ⟨⟨ek, en, e2, es, e4, e5, em, e7, e8, e9⟩, ⟨rk, bx, r2, r3⟩, cs⟩)) := by
  have HHR := Lib.hid hr
  have HAR := Lib.hid har
  have HK1 := Lib.hid hk1
  have HK6 := Lib.hid hk6
  have HK0 := Lib.hid hk0
  have HGRP := Lib.hid hgrp
  clear hgrp
  clear hr har hk1 hk6 hk0
  unfold CALLT scells
  simp only
  have hA1 := hA.next (show Below w.heap.size w (((w.alloc (.cells (scells ⟨ek, en, e2, es, e4, e5, em, e7, e8, e9⟩ ⟨rk, bx, r2, r3⟩ (.slice ad n cap)) 55)).alloc (.cells (ecells ek en e2 es e4 e5 em e7 e8 e9) 47)).alloc (.cells #[.int .i64 rk, .int .i64 bx, .int .i64 r2, .int .i64 r3] 52)) from by
    have h1 := two_new w (.cells (scells ⟨ek, en, e2, es, e4, e5, em, e7, e8, e9⟩ ⟨rk, bx, r2, r3⟩ (.slice ad n cap)) 55) (.cells (ecells ek en e2 es e4 e5 em e7 e8 e9) 47)
    exact h1.alloc h1.size _)
  have hC1 := cp_new w ⟨ek, en, e2, es, e4, e5, em, e7, e8, e9⟩ ⟨rk, bx, r2, r3⟩ (.slice ad n cap)
  have HI := Lib.hid hI
  have HM := Lib.hid hM
  have HCS := Lib.hid hcs
  have HCN := Lib.hid hcn
  clear hI hM hcs hcn hA
  obtain ⟨res, hres⟩ : ∃ r, r = s.step ⟨⟨ek, en, e2, es, e4, e5, em, e7, e8, e9⟩, ⟨rk, bx, r2, r3⟩, cs⟩ := ⟨_, rfl⟩
  rw [← hres]
  have HRES := Lib.hid hres
  clear hres
  go_enter Try.func39, Try.ntmps39
  go_wp2_with fail
  generalize ((w.alloc _).alloc _).alloc _ = W at hA1 hC1 ⊢
  generalize w.heap.size + 1 + 1 = ga at hC1 ⊢
  generalize w.heap.size + 1 = ge at hC1 ⊢
  generalize w.heap.size = g at hC1 ⊢
  have HA1 := Lib.hid hA1
  have HC1 := Lib.hid hC1
  clear hA1 hC1
  refine (lright_any ⟨ek, en, e2, es, e4, e5, em, e7, e8, e9⟩ W).mono ?_
  rintro e1 w1 ⟨rfl, hb1⟩
  rw [HHR.out]
  have HA2 := Lib.hid (HA1.out.next hb1)
  have HC2 := Lib.hid (HC1.out.next hb1)
  have HTAIL := Lib.hid (show res = match s.ahead ⟨ek, en, e2, es, e4, e5, em, e7, e8, e9⟩ with | none => none | some s1 => AS.tell2 (s1.cmds cs) ⟨⟨ek, en, e2, es, e4, e5, em, e7, e8, e9⟩, ⟨rk, bx, r2, r3⟩, cs⟩ by rw [HRES.out]; exact step_tail (x := ⟨⟨ek, en, e2, es, e4, e5, em, e7, e8, e9⟩, ⟨rk, bx, r2, r3⟩, cs⟩) HHR.out HAR.out HK1.out (.inr ⟨HK6.out, HK0.out⟩))
  clear HA1 HC1 hb1
  have HBD := Lib.hid (And.intro (right_bd (e := ⟨ek, en, e2, es, e4, e5, em, e7, e8, e9⟩) HHR.out (o := 1) (by omega) (by omega)) (And.intro (right_bd (e := ⟨ek, en, e2, es, e4, e5, em, e7, e8, e9⟩) HHR.out (o := 3) (by omega) (by omega)) (right_bd (e := ⟨ek, en, e2, es, e4, e5, em, e7, e8, e9⟩) HHR.out (o := 6) (by omega) (by omega))))
  have q1 : (rk == 1) = false := beq_eq_false_iff_ne.2 HK1.out
  have q6 : (ek == 6) = false := beq_eq_false_iff_ne.2 HK6.out
  have q0 : (rk == 0) = true := by simp [HK0.out]
  have q0' : (rk != 0) = false := by simp [bne, q0]
  have a0 : w1.cell? ⟨ga, 0, none⟩ = some (.int .i64 rk) := HC2.out.a.cell 0
  have a1 : w1.cell? ⟨ga, 1, none⟩ = some (.int .i64 bx) := HC2.out.a.cell 1
  have a2 : w1.cell? ⟨ga, 2, none⟩ = some (.int .i64 r2) := HC2.out.a.cell 2
  have a3 : w1.cell? ⟨ga, 3, none⟩ = some (.int .i64 r3) := HC2.out.a.cell 3
  go_wp2_with fail
  refine (aright_any ⟨rk, bx, r2, r3⟩ w1).mono ?_
  rintro e1 w2 ⟨rfl, hb2⟩
  rw [HAR.out]
  clear a0 a1 a2 a3
  have HA3 := Lib.hid (HA2.out.next hb2)
  have HC3 := Lib.hid (HC2.out.next hb2)
  clear HA2 HC2 hb2
  have a0 : w2.cell? ⟨ga, 0, none⟩ = some (.int .i64 rk) := HC3.out.a.cell 0
  have a1 : w2.cell? ⟨ga, 1, none⟩ = some (.int .i64 bx) := HC3.out.a.cell 1
  have x0 : w2.cell? ⟨ge, 0, none⟩ = some (.int .i64 ek) := HC3.out.e.cell 0
  have x1 : w2.cell? ⟨ge, 1, none⟩ = some (.int .i64 en) := HC3.out.e.cell 1
  have g14 : w2.cell? ⟨g, 14, none⟩ = some (.slice ad n cap) := HC3.out.g.cell 14
  go_wp2_with fail
  refine (lfind_any F w0 a b2 b3 N s en w2 HA3.out (by have := HM.out; omega)).mono ?_
  rintro e1 w3 ⟨rfl, hb3⟩
  have HA4 := Lib.hid (HA3.out.next hb3)
  have HC4 := Lib.hid (HC3.out.next hb3)
  clear HA3 HC3 hb3 a0 a1 x0 x1 g14
  have x0 : w3.cell? ⟨ge, 0, none⟩ = some (.int .i64 ek) := HC4.out.e.cell 0
  go_upto_block 0 with fail
  go_cut [8] (fun _ wx => ∃ s1, s.ahead ⟨ek, en, e2, es, e4, e5, em, e7, e8, e9⟩ = some s1 ∧ LWb F w0 a b2 b3 (N + 1) s1 wx ∧ Cp g ge ga ⟨ek, en, e2, es, e4, e5, em, e7, e8, e9⟩ ⟨rk, bx, r2, r3⟩ (.slice ad n cap) wx)
  case first =>
    clear x0
    have hgrp := HGRP.out
    have hk6 := HK6.out
    have x0 : w3.cell? ⟨ge, 0, none⟩ = some (.int .i64 ek) := HC4.out.e.cell 0
    have x1 : w3.cell? ⟨ge, 1, none⟩ = some (.int .i64 en) := HC4.out.e.cell 1
    have x3 : w3.cell? ⟨ge, 3, none⟩ = some (.int .i64 es) := HC4.out.e.cell 3
    have x6 : w3.cell? ⟨ge, 6, none⟩ = some (.int .i64 em) := HC4.out.e.cell 6
    have ca1 : w3.cell? ⟨a, 1, none⟩ = some (.map (some b2)) := by obtain ⟨v, ha, _⟩ := HA4.out.row; exact ha.cell 1
    have ca2 : w3.cell? ⟨a, 2, none⟩ = some (.map (some b3)) := by obtain ⟨v, ha, _⟩ := HA4.out.row; exact ha.cell 2
    have hN1 : N ≤ 100000 := by have := HM.out; omega
    have k3 : ¬ ek = 3 := by omega
    have q3 : (ek == 3) = false := beq_eq_false_iff_ne.2 k3
    have k2 : ¬ ek = 2 := by omega
    have q2 : (ek == 2) = false := beq_eq_false_iff_ne.2 k2
    clear x3 x6 ca1 ca2
    have k7 : ¬ ek = 7 := by omega
    have q7 : (ek == 7) = false := beq_eq_false_iff_ne.2 k7
    have k9 : ¬ ek = 9 := by omega
    have q9 : (ek == 9) = false := beq_eq_false_iff_ne.2 k9
    have k8 : ¬ ek = 8 := by omega
    have q8 : (ek == 8) = false := beq_eq_false_iff_ne.2 k8
    have k5 : ¬ ek = 5 := by omega
    have q5 : (ek == 5) = false := beq_eq_false_iff_ne.2 k5
    have hah : s.ahead ⟨ek, en, e2, es, e4, e5, em, e7, e8, e9⟩ = some s := by unfold AS.ahead; simp [k3, k2, k7, k9, k8, k5]
    have HAH := Lib.hid hah
    clear hah k3 k2 k7 k9 k8 k5 hgrp
    go_wp2
    go_meet
    exact ⟨_, HAH.out, HA4.out.mono (show N ≤ N + 1 by omega), HC4.out⟩
  case rest =>
    obtain ⟨s1, hs1, hA5, hC5⟩ := hcut
    clear x0 HA4 HC4
    have HI1 := Lib.hid ((HI.out.ahead hs1).mono (show N ≤ N + 1 by omega))
    have HT2 := Lib.hid (show res = AS.tell2 (s1.cmds cs) ⟨⟨ek, en, e2, es, e4, e5, em, e7, e8, e9⟩, ⟨rk, bx, r2, r3⟩, cs⟩ by rw [HTAIL.out, hs1])
    have g14 : wc.cell? ⟨g, 14, none⟩ = some (.slice ad n cap) := hC5.g.cell 14
    have HA5 := Lib.hid hA5
    have HC5 := Lib.hid hC5
    clear hA5 hC5 hs1 HTAIL
    go_wp2_with fail
    clear g14
    go_loopw [174] (fun iv wr => ∃ i : Nat, i ≤ n ∧ iv = .int .i64 i ∧ ∃ s', s1.cmds (cs.take i) = some s' ∧ LWb F w0 a b2 b3 (N + 1 + i) s' wr ∧ Inv s' (N + 1 + i) ∧ Cp g ge ga ⟨ek, en, e2, es, e4, e5, em, e7, e8, e9⟩ ⟨rk, bx, r2, r3⟩ (.slice ad n cap) wr) (fun iv _ => n - (intOf iv).toNat)
    case atStart => exact ⟨0, by omega, rfl, s1, rfl, HA5.out, HI1.out, HC5.out⟩
    case round =>
      obtain ⟨i, hi, rfl, s', hst, hAr, hIr, hCr⟩ := hrel
      have hM := HM.out
      have hcn := HCN.out
      have hnb : n ≤ 100000 := by omega
      by_cases hlt : i < n
      · have hil : i < cs.length := by omega
        obtain ⟨c, hc⟩ : ∃ c, c = cs[i] := ⟨_, rfl⟩
        obtain ⟨hw, b, off, rfl, hb, hnf, h0, h1, h2, h3⟩ := HCS.out i c (by rw [List.getElem?_eq_getElem hil, hc])
        have hbk := hAr.below.block b hb hnf
        have d0 : wr.cell? ⟨b, off + i * 4, none⟩ = some (.bool c.boot) := by rw [← h0]; exact World.cell?_of_block (w := w0) hbk
        have d1 : wr.cell? ⟨b, off + i * 4 + 1, none⟩ = some (.int .i64 c.box) := by rw [← h1]; exact World.cell?_of_block (w := w0) hbk
        have d2 : wr.cell? ⟨b, off + i * 4 + 2, none⟩ = some (.int .i64 c.fn) := by rw [← h2]; exact World.cell?_of_block (w := w0) hbk
        have d3 : wr.cell? ⟨b, off + i * 4 + 3, none⟩ = some (.int .i64 c.host) := by rw [← h3]; exact World.cell?_of_block (w := w0) hbk
        have hsn : s1.cmds (cs.take (i + 1)) = s'.command c := by rw [List.take_succ_eq_append_getElem hil, AS.cmds_snoc, hst, ← hc]
        have HSN := Lib.hid hsn
        have HAr := Lib.hid hAr
        have HIr := Lib.hid hIr
        have HCr := Lib.hid hCr
        have HW := Lib.hid hw
        clear hsn hAr hIr hCr hw hst hc h0 h1 h2 h3 hbk hb hnf hcn
        go_wp2_with fail
        generalize hW : wr.alloc _ = wq
        have bq : Below wr.heap.size wr wq := by rw [← hW]; exact (Below.refl _ _).alloc (Nat.le_refl _) _
        have hAq := HAr.out.next bq
        have hCq := HCr.out.next bq
        obtain ⟨G, hG1, hG2, hG3⟩ := hAq.base
        have hcall := lcommand_all G wq a b2 b3 (N + 1 + i) s' c wq hG1 (by omega) HIr.out HW.out
        have HAq := Lib.hid hAq
        have HCq := Lib.hid hCq
        have HG := Lib.hid (And.intro hG2 hG3)
        have HCALL := Lib.hid hcall
        clear hW bq hAq hCq hcall hG1 hG2 hG3 d0 d1 d2 d3 HAr HCr hM
        refine (HCALL.out).mono ?_
        rintro e1 w4 (⟨ho, rfl, hb3⟩ | ⟨s3, ho, rfl, hb3⟩)
        · have HR := Lib.hid (show res = none by
            rw [HT2.out, AS.cmds_none (n := i + 1) (by rw [HSN.out]; exact ho)]; rfl)
          have HO := Lib.hid (HAq.out.below.trans hb3 (fun k _ hk => HG.out.1 k hk))
          clear hb3 ho
          go_wp2
          go_ret
          exact LOut.no HR.out rfl HO.out
        · have hnext := HAq.out.rebase hb3 HG.out.1
          have HN2 := Lib.hid hnext
          have HC2 := Lib.hid (HCq.out.only hb3.below HG.out.2)
          have HI2 := Lib.hid (HIr.out.command ho)
          have HS2 := Lib.hid (HSN.out.trans ho)
          clear hb3 hnext ho
          go_wp2
          go_roundw
          case rel => exact ⟨i + 1, by omega, by go_num, s3, HS2.out, HN2.out, HI2.out, HC2.out⟩
          case measure => simp [intOf]; omega
      · have hall : s1.cmds cs = some s' := by rw [← hst, List.take_of_length_le (by omega)]
        obtain rfl : n = i := by omega
        have HT3 := Lib.hid (show res = AS.tell2 (some s') ⟨⟨ek, en, e2, es, e4, e5, em, e7, e8, e9⟩, ⟨rk, bx, r2, r3⟩, cs⟩ by rw [HT2.out, hall])
        have HAr := Lib.hid hAr
        have HCr := Lib.hid hCr
        have HIr := Lib.hid hIr
        clear hAr hIr hCr hst hall hM hcn HT2
        have HR := Lib.hid (show res = some s' by rw [HT3.out]; unfold AS.tell2; simp [HK6.out])
        go_wp2
        go_ret
        exact LOut.yes HR.out rfl HAr.out
end Go.Proofs.Ytopbhdpfakjkjaa.Aud
