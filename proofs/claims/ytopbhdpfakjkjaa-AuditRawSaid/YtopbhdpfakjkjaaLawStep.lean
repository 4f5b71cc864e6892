/- Proved: what a step's test in the document's world (greenhouselaw19) answers and leaves. -/
import Derived.Test.YtopbhdpfakjkjaaLawStepA
import Derived.Test.YtopbhdpfakjkjaaLawStepB
import Derived.Test.YtopbhdpfakjkjaaLawStepC
import Derived.Test.YtopbhdpfakjkjaaLawStepE
namespace Go.Proofs.Ytopbhdpfakjkjaa.Aud
open Go.RowKit Go.Proofs.Ytopbhdpfakjkjaa.Histo Go.Proofs.Ytopbhdpfakjkjaa.Event Go.Proofs.Ytopbhdpfakjkjaa.Ring
set_option linter.unusedVariables false
open Go.Proofs.Ytopbhdpfakjkjaa.MapI (AL At Rng W64 At.alloc At.drew)
set_option maxHeartbeats 4000000 in
set_option maxRecDepth 100000 in
theorem lstep_early (F : Nat → Prop) (w0 : World) (a b2 b3 N : Nat) (s : AS) (ek en e2 es e4 e5 em e7 e8 e9 rk bx r2 r3 : Int) (cs : List Cmd) (ad : Option Addr) (n cap : Nat) (w : World) (hA : LWb F w0 a b2 b3 N s w) (hI : Inv s N) (hM : N + 1 + n ≤ 100000) (hcs : Cmds F w0 ad cs) (hcn : cs.length = n) (hbad : ¬ (Ev.right ⟨ek, en, e2, es, e4, e5, em, e7, e8, e9⟩ = true ∧ Ans.right ⟨rk, bx, r2, r3⟩ = true ∧ ¬ rk = 1 ∧ ((ek = 6 ∧ ¬ rk = 0) ∨ (¬ ek = 6 ∧ rk = 0)))) :
    CALLT a ⟨ek, en, e2, es, e4, e5, em, e7, e8, e9⟩ ⟨rk, bx, r2, r3⟩ (.slice ad n cap) w (LOut F w0 a b2 b3 (N + 1 + n) (s.step ⟨⟨ek, en, e2, es, e4, e5, em, e7, e8, e9⟩, ⟨rk, bx, r2, r3⟩, cs⟩)) := by
  have HBAD := Lib.hid hbad
  clear hbad
  unfold CALLT scells
  simp only
  have hA1 := hA.next (show Below w.heap.size w (((w.alloc (.cells (scells ⟨ek, en, e2, es, e4, e5, em, e7, e8, e9⟩ ⟨rk, bx, r2, r3⟩ (.slice ad n cap)) 55)).alloc (.cells (ecells ek en e2 es e4 e5 em e7 e8 e9) 47)).alloc (.cells #[.int .i64 rk, .int .i64 bx, .int .i64 r2, .int .i64 r3] 52)) from by
    have h1 := two_new w (.cells (scells ⟨ek, en, e2, es, e4, e5, em, e7, e8, e9⟩ ⟨rk, bx, r2, r3⟩ (.slice ad n cap)) 55) (.cells (ecells ek en e2 es e4 e5 em e7 e8 e9) 47)
    exact h1.alloc h1.size _)
  have hC1 := cp_new w ⟨ek, en, e2, es, e4, e5, em, e7, e8, e9⟩ ⟨rk, bx, r2, r3⟩ (.slice ad n cap)
  have HI := Lib.hid hI
  have HM := Lib.hid hM
  have HCS := Lib.hid hcs
  have HCN := Lib.hid hcn
  clear hI hM hcs hcn hA
  obtain ⟨res, hres⟩ : ∃ r, r = s.step ⟨⟨ek, en, e2, es, e4, e5, em, e7, e8, e9⟩, ⟨rk, bx, r2, r3⟩, cs⟩ := ⟨_, rfl⟩
  rw [← hres]
  have HRES := Lib.hid hres
  clear hres
  go_enter Try.func39, Try.ntmps39
  go_wp2_with fail
  generalize ((w.alloc _).alloc _).alloc _ = W at hA1 hC1 ⊢
  generalize w.heap.size + 1 + 1 = ga at hC1 ⊢
  generalize w.heap.size + 1 = ge at hC1 ⊢
  generalize w.heap.size = g at hC1 ⊢
  have HA1 := Lib.hid hA1
  have HC1 := Lib.hid hC1
  clear hA1 hC1
  refine (lright_any ⟨ek, en, e2, es, e4, e5, em, e7, e8, e9⟩ W).mono ?_
  rintro e1 w1 ⟨rfl, hb1⟩
  have HA2 := Lib.hid (HA1.out.next hb1)
  have HC2 := Lib.hid (HC1.out.next hb1)
  clear HA1 HC1 hb1
  cases hr : Ev.right ⟨ek, en, e2, es, e4, e5, em, e7, e8, e9⟩ with
  | false =>
    have HR := Lib.hid (show res = none by rw [HRES.out]; unfold AS.step; rw [if_pos hr])
    clear hr
    go_wp2
    go_ret
    exact LOut.no HR.out rfl HA2.out.below
  | true =>
  have HBD := Lib.hid (And.intro (right_bd (e := ⟨ek, en, e2, es, e4, e5, em, e7, e8, e9⟩) hr (o := 1) (by omega) (by omega)) (And.intro (right_bd (e := ⟨ek, en, e2, es, e4, e5, em, e7, e8, e9⟩) hr (o := 3) (by omega) (by omega)) (right_bd (e := ⟨ek, en, e2, es, e4, e5, em, e7, e8, e9⟩) hr (o := 6) (by omega) (by omega))))
  have HER := Lib.hid hr
  clear hr
  have a0 : w1.cell? ⟨ga, 0, none⟩ = some (.int .i64 rk) := HC2.out.a.cell 0
  have a1 : w1.cell? ⟨ga, 1, none⟩ = some (.int .i64 bx) := HC2.out.a.cell 1
  have a2 : w1.cell? ⟨ga, 2, none⟩ = some (.int .i64 r2) := HC2.out.a.cell 2
  have a3 : w1.cell? ⟨ga, 3, none⟩ = some (.int .i64 r3) := HC2.out.a.cell 3
  go_wp2_with fail
  refine (aright_any ⟨rk, bx, r2, r3⟩ w1).mono ?_
  rintro e1 w2 ⟨rfl, hb2⟩
  clear a0 a1 a2 a3
  have HA3 := Lib.hid (HA2.out.next hb2)
  have HC3 := Lib.hid (HC2.out.next hb2)
  clear HA2 HC2 hb2
  cases har : Ans.right ⟨rk, bx, r2, r3⟩ with
  | false =>
    have HR := Lib.hid (show res = none by rw [HRES.out]; unfold AS.step; rw [if_neg (by simp [HER.out]), if_pos har])
    clear har
    go_wp2
    go_ret
    exact LOut.no HR.out rfl HA3.out.below
  | true =>
  have HAR := Lib.hid har
  clear har
  have a0 : w2.cell? ⟨ga, 0, none⟩ = some (.int .i64 rk) := HC3.out.a.cell 0
  have a1 : w2.cell? ⟨ga, 1, none⟩ = some (.int .i64 bx) := HC3.out.a.cell 1
  have x0 : w2.cell? ⟨ge, 0, none⟩ = some (.int .i64 ek) := HC3.out.e.cell 0
  have x1 : w2.cell? ⟨ge, 1, none⟩ = some (.int .i64 en) := HC3.out.e.cell 1
  have g14 : w2.cell? ⟨g, 14, none⟩ = some (.slice ad n cap) := HC3.out.g.cell 14
  by_cases hk1 : rk = 1
  · have q1 : (rk == 1) = true := by simp [hk1]
    by_cases hn0 : n = 0
    · have d1 : ((n : Int) == 0) = true := by simp [hn0]
      have HR := Lib.hid (show res = some s by rw [HRES.out]; unfold AS.step; rw [if_neg (by simp [HER.out]), if_neg (by simp [HAR.out]), if_pos hk1, if_pos (by rw [HCN.out]; exact hn0)])
      clear hk1 hn0
      go_wp2
      go_ret
      exact LOut.yes HR.out rfl (HA3.out.mono (by have := HM.out; omega))
    · have d1 : ((n : Int) == 0) = false := beq_eq_false_iff_ne.2 (by omega)
      have HR := Lib.hid (show res = none by rw [HRES.out]; unfold AS.step; rw [if_neg (by simp [HER.out]), if_neg (by simp [HAR.out]), if_pos hk1, if_neg (by rw [HCN.out]; exact hn0)])
      clear hk1 hn0
      go_wp2
      go_ret
      exact LOut.no HR.out rfl HA3.out.below
  have q1 : (rk == 1) = false := beq_eq_false_iff_ne.2 hk1
  by_cases hk6 : ek = 6
  all_goals by_cases hk0 : rk = 0
  · have q6 : (ek == 6) = true := by simp [hk6]
    have q0 : (rk == 0) = true := by simp [hk0]
    have HR := Lib.hid (show res = none by
      rw [HRES.out]; unfold AS.step; rw [if_neg (by simp [HER.out]), if_neg (by simp [HAR.out]), if_neg hk1]
      simp only [hk6, if_true]
      cases s.cmds cs with
      | none => rfl
      | some s2 => unfold AS.call; simp [hk0])
    clear hk1 hk6 hk0
    go_wp2
    go_ret
    exact LOut.no HR.out rfl HA3.out.below
  rotate_left 2
  · have q6 : (ek == 6) = false := beq_eq_false_iff_ne.2 hk6
    have q0 : (rk == 0) = false := beq_eq_false_iff_ne.2 hk0
    have q0' : (rk != 0) = true := by simp [bne, q0]
    have HR := Lib.hid (show res = none by rw [HRES.out]; unfold AS.step; rw [if_neg (by simp [HER.out]), if_neg (by simp [HAR.out]), if_neg hk1]; simp [hk6, hk0])
    clear hk1 hk6 hk0
    go_wp2
    go_ret
    exact LOut.no HR.out rfl HA3.out.below
  all_goals exact absurd ⟨HER.out, HAR.out, hk1, by first | exact .inl ⟨hk6, hk0⟩ | exact .inr ⟨hk6, hk0⟩⟩ HBAD.out
theorem lstep_all (F : Nat → Prop) (w0 : World) (a b2 b3 N : Nat) (s : AS) (ek en e2 es e4 e5 em e7 e8 e9 rk bx r2 r3 : Int) (cs : List Cmd) (ad : Option Addr) (n cap : Nat) (w : World) (hA : LWb F w0 a b2 b3 N s w) (hI : Inv s N) (hM : N + 1 + n ≤ 100000) (hcs : Cmds F w0 ad cs) (hcn : cs.length = n) :
    CALLT a ⟨ek, en, e2, es, e4, e5, em, e7, e8, e9⟩ ⟨rk, bx, r2, r3⟩ (.slice ad n cap) w (LOut F w0 a b2 b3 (N + 1 + n) (s.step ⟨⟨ek, en, e2, es, e4, e5, em, e7, e8, e9⟩, ⟨rk, bx, r2, r3⟩, cs⟩)) := by
  by_cases hg : Ev.right ⟨ek, en, e2, es, e4, e5, em, e7, e8, e9⟩ = true ∧ Ans.right ⟨rk, bx, r2, r3⟩ = true ∧ ¬ rk = 1 ∧ ((ek = 6 ∧ ¬ rk = 0) ∨ (¬ ek = 6 ∧ rk = 0))
  · obtain ⟨hr, har, hk1, ⟨hk6, hk0⟩ | ⟨hk6, hk0⟩⟩ := hg
    · exact lstep_call F w0 a b2 b3 N s ek en e2 es e4 e5 em e7 e8 e9 rk bx r2 r3 cs ad n cap w hA hI hM hcs hcn  hr har hk1 hk6 hk0
    · by_cases h32 : ek = 3 ∨ ek = 2
      · exact lstep_32 F w0 a b2 b3 N s ek en e2 es e4 e5 em e7 e8 e9 rk bx r2 r3 cs ad n cap w hA hI hM hcs hcn  hr har hk1 hk6 hk0 h32
      by_cases h79 : ek = 7 ∨ ek = 9
      · exact lstep_79 F w0 a b2 b3 N s ek en e2 es e4 e5 em e7 e8 e9 rk bx r2 r3 cs ad n cap w hA hI hM hcs hcn  hr har hk1 hk6 hk0 h79
      by_cases h85 : ek = 8 ∨ ek = 5
      · exact lstep_85 F w0 a b2 b3 N s ek en e2 es e4 e5 em e7 e8 e9 rk bx r2 r3 cs ad n cap w hA hI hM hcs hcn  hr har hk1 hk6 hk0 h85
      exact lstep_else F w0 a b2 b3 N s ek en e2 es e4 e5 em e7 e8 e9 rk bx r2 r3 cs ad n cap w hA hI hM hcs hcn  hr har hk1 hk6 hk0 (by omega)
  · exact lstep_early F w0 a b2 b3 N s ek en e2 es e4 e5 em e7 e8 e9 rk bx r2 r3 cs ad n cap w hA hI hM hcs hcn  hg
end Go.Proofs.Ytopbhdpfakjkjaa.Aud
